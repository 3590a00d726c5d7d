/- Merged texts of the seat, in their order: TrBb. -/
import Derived.Test.YtkpcmnckdappnaaGreatG9
/- Tree: the plain law of TreeBest. -/
namespace Go.Proofs.YtkpcmnckdappnaaGreat
open Go.Lib Go.Sort
set_option maxRecDepth 100000
set_option linter.unusedVariables false

/-- a question's zone is the closest one; each zone's name is its; names stand in order -/
def pbB (Z : List Zp) (n : List UInt8) : Bool := (bestP Z n).2 && (Nm.underN n (bestP Z n).1 && (List.range 4).all fun i =>
  (bestP Z (Z.getD i z0).nm).2 && (Nm.sameN (bestP Z (Z.getD i z0).nm).1 (Z.getD i z0).nm && ((!Nm.underN n (Z.getD i z0).nm || Nm.underN (bestP Z n).1 (Z.getD i z0).nm) && (decide (i = 0) || Nm.lessN ((zonesP Z).getD (i - 1) []) ((zonesP Z).getD i [])))))
theorem pb_all : ∀ k, k < 4 → ∀ j, j < 12 → pbB (zonesZ k) (askN12.getD j []) = true := by decide +kernel
theorem pb_parts {Z : List Zp} {n : List UInt8} (h : pbB Z n = true) : (bestP Z n).2 = true ∧ Nm.underN n (bestP Z n).1 = true ∧ ∀ i, i < 4 → (bestP Z (Z.getD i z0).nm).2 = true ∧ Nm.sameN (bestP Z (Z.getD i z0).nm).1 (Z.getD i z0).nm = true ∧
    (Nm.underN n (Z.getD i z0).nm = true → Nm.underN (bestP Z n).1 (Z.getD i z0).nm = true) ∧ (0 < i → Nm.lessN ((zonesP Z).getD (i - 1) []) ((zonesP Z).getD i []) = true) := by
  unfold pbB at h
  simp only [Bool.and_eq_true, List.all_eq_true, List.mem_range, Bool.or_eq_true, Bool.not_eq_true', decide_eq_true_eq] at h
  obtain ⟨h1, h2, h3⟩ := h
  refine ⟨h1, h2, fun i hi => ?_⟩
  obtain ⟨k1, k2, k3, k4⟩ := h3 i hi
  refine ⟨k1, k2, fun hu => ?_, fun h0 => ?_⟩
  · rcases k3 with k3 | k3
    · rw [hu] at k3; cases k3
    · exact k3
  · rcases k4 with k4 | k4
    · omega
    · exact k4
def selB (Z : List Zp) (bs : List Bool) : List (List UInt8) := insAll Nm.lessN (((Z.zip bs).filter (·.2)).map fun p => Nm.foldN p.1.nm)
theorem zip_filter {α β : Type} (p : α → Bool) (f : α → β) : ∀ Z : List α, (Z.filter p).map f = ((Z.zip (Z.map p)).filter (·.2)).map fun q => f q.1
  | [] => rfl
  | z :: Z => by
    have ih := zip_filter p f Z
    simp only [List.map_cons, List.zip_cons_cons, List.filter_cons]
    cases p z
    · simpa using ih
    · simpa using ih
def hasA (a : Int) (z : Zp) : Bool := z.sv.any fun s => decide (s.2 = a)
theorem atP_sel (Z : List Zp) (a : Int) : atP Z a = selB Z (Z.map (hasA a)) := by
  unfold atP namesP selB
  rw [zip_filter (fun z : Zp => z.sv.any fun s => decide (s.2 = a)) (fun z => Nm.foldN z.nm)]
  rfl
def cntB (bs : List Bool) (k : Nat) : Nat := ((bs.take k).filter id).length
theorem cntB_step {bs : List Bool} {k : Nat} (hk : k < bs.length) : cntB bs (k + 1) = cntB bs k + if bs.getD k false then 1 else 0 := by
  unfold cntB
  rw [List.take_succ_eq_append_getElem hk, List.filter_append, List.length_append, List.getD_eq_getElem?_getD, List.getElem?_eq_getElem hk]
  simp only [Option.getD_some]
  cases bs[k] <;> rfl
theorem cntB_le (bs : List Bool) (k : Nat) : cntB bs k ≤ k := by
  unfold cntB
  exact Nat.le_trans (List.length_filter_le _ _) (by rw [List.length_take]; omega)
def selOk (Z : List Zp) (bs : List Bool) : Bool := decide (cntB bs 4 = (selB Z bs).length) && (List.range 4).all fun i => ((selB Z bs).any fun x => Nm.sameN x (Z.getD i z0).nm) == bs.getD i false
theorem sel_all : ∀ k, k < 4 → ∀ b0 b1 b2 b3 : Bool, selOk (zonesZ k) [b0, b1, b2, b3] = true := by decide +kernel
theorem zonesZ_four : ∀ k, ∃ a b c d, zonesZ k = [a, b, c, d] := by
  intro k
  match k with
  | 0 => exact ⟨_, _, _, _, rfl⟩
  | 1 => exact ⟨_, _, _, _, rfl⟩
  | 2 => exact ⟨_, _, _, _, rfl⟩
  | 3 => exact ⟨_, _, _, _, rfl⟩
  | _ + 4 => exact ⟨_, _, _, _, rfl⟩
theorem at_parts (k : Nat) (hk : k < 4) (a : Int) : cntB ((zonesZ k).map (hasA a)) 4 = (atP (zonesZ k) a).length ∧ ∀ i, i < 4 → ((atP (zonesZ k) a).any fun x => Nm.sameN x ((zonesZ k).getD i z0).nm) = ((zonesZ k).map (hasA a)).getD i false := by
  have h : selOk (zonesZ k) ((zonesZ k).map (hasA a)) = true := by
    obtain ⟨x0, x1, x2, x3, hz⟩ := zonesZ_four k
    have := sel_all k hk (hasA a x0) (hasA a x1) (hasA a x2) (hasA a x3)
    rw [hz] at this ⊢
    exact this
  unfold selOk at h
  rw [← atP_sel] at h
  simp only [Bool.and_eq_true, List.all_eq_true, List.mem_range, beq_iff_eq, decide_eq_true_eq] at h
  exact h
theorem getD_map {α β : Type} (f : α → β) (l : List α) (i : Nat) (d : α) (e : β) (hi : i < l.length) : (l.map f).getD i e = f (l.getD i d) := by
  rw [List.getD_eq_getElem?_getD, List.getElem?_map, List.getD_eq_getElem?_getD, List.getElem?_eq_getElem hi]
  rfl
theorem atP_len (Z : List Zp) (a : Int) : ∀ x ∈ atP Z a, ∃ z ∈ Z, x = Nm.foldN z.nm := by
  intro x hx
  unfold atP namesP insAll at hx
  rw [insAll_mem] at hx
  simp only [List.not_mem_nil, or_false] at hx
  obtain ⟨z, hz, rfl⟩ := List.mem_map.1 hx
  exact ⟨z, (List.mem_filter.1 hz).1, rfl⟩
theorem best_no : ∀ k, k < 4 → bestP (zonesZ k) [97] = ([], false) := by decide +kernel
end Go.Proofs.YtkpcmnckdappnaaGreat

