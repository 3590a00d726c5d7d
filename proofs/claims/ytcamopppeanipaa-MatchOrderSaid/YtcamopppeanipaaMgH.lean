/- Plain law of MatchOrder's records: unlike, their keys as they stand, their data rising in each group. -/
import Derived.Test.YtcamopppeanipaaMgG
namespace Go.Proofs.Ytcamopppeanipaa
open Go.RowKit
set_option linter.unusedVariables false

def oN (a : Int) : List UInt8 := [1, UInt8.ofNat (97 + a % 4).toNat, 0]
def oR (a t : Int) (k : Nat) : Rc.RR := ⟨oN a, 99 + t % 2, 1, 0, [UInt8.ofNat k]⟩
def oL (ns ts : List Int) (k : Nat) : List Rc.RR := (List.range k).map fun i => oR (ns.getD i 0) (ts.getD i 0) i
theorem oL_succ (ns ts : List Int) (k : Nat) : oL ns ts (k + 1) = oL ns ts k ++ [oR (ns.getD k 0) (ts.getD k 0) k] := by
  unfold oL
  rw [List.range_succ, List.map_append]
  rfl
theorem oL_length (ns ts : List Int) (k : Nat) : (oL ns ts k).length = k := by simp [oL]
theorem oN_fold (a : Int) : Nm.foldN (oN a) = oN a := by
  have h : a % 4 = 0 ∨ a % 4 = 1 ∨ a % 4 = 2 ∨ a % 4 = 3 := by omega
  unfold oN
  rcases h with h | h | h | h <;> rw [h] <;> decide +kernel
theorem foldD_o (t : Int) (x : UInt8) : Rc.foldD (99 + t % 2) [x] = [x] := by
  have h : t % 2 = 0 ∨ t % 2 = 1 := by omega
  rcases h with h | h <;> rw [h] <;> rfl
theorem u8_inj {i j : Nat} (hi : i < 256) (hj : j < 256) (h : UInt8.ofNat i = UInt8.ofNat j) : i = j := by
  have := congrArg UInt8.toNat h
  simp only [UInt8.toNat_ofNat'] at this
  omega
theorem same_data {a b t s : Int} {i j : Nat} (hi : i < 256) (hj : j < 256) (h : Rc.sameRR (oR a t i) (oR b s j) = true) : i = j := by
  unfold Rc.sameRR oR at h
  simp only [Bool.and_eq_true, beq_iff_eq, foldD_o] at h
  have h4 := h.2
  simp only [List.cons.injEq, and_true] at h4
  exact u8_inj hi hj h4

/-- the data rise -/
def Rise (k : Nat) (l : List Rc.RR) : Prop := ∃ is : List Nat, l.map (·.data) = is.map (fun i => [UInt8.ofNat i]) ∧ is.Pairwise (· < ·) ∧ ∀ i ∈ is, i < k
theorem Rise.mono {k : Nat} {l : List Rc.RR} (h : Rise k l) : Rise (k + 1) l := by
  obtain ⟨is, h1, h2, h3⟩ := h
  exact ⟨is, h1, h2, fun i hi => Nat.lt_succ_of_lt (h3 i hi)⟩
theorem Rise.snoc {k : Nat} {l : List Rc.RR} (h : Rise k l) (a t : Int) : Rise (k + 1) (l ++ [oR a t k]) := by
  obtain ⟨is, h1, h2, h3⟩ := h
  refine ⟨is ++ [k], by simp [h1, oR], ?_, fun i hi => ?_⟩
  · rw [List.pairwise_append]
    exact ⟨h2, by simp, fun x hx y hy => by simp at hy; subst hy; exact h3 x hx⟩
  · rcases List.mem_append.1 hi with h | h
    · exact Nat.lt_succ_of_lt (h3 i h)
    · simp at h; omega
theorem Rise.at {k : Nat} {l : List Rc.RR} (h : Rise k l) {j : Nat} (hj : j + 1 < l.length) : ∃ a b : Nat, a < b ∧ b < k ∧ (l.getD j r0).data = [UInt8.ofNat a] ∧ (l.getD (j + 1) r0).data = [UInt8.ofNat b] := by
  obtain ⟨is, h1, h2, h3⟩ := h
  have hl : l.length = is.length := by have := congrArg List.length h1; simpa using this
  have e : ∀ i, i < l.length → ∃ hi : i < is.length, (l.getD i r0).data = [UInt8.ofNat is[i]] := fun i hi => by
    refine ⟨by omega, ?_⟩
    have := congrArg (fun x => x[i]?) h1
    simp only [List.getElem?_map, List.getElem?_eq_getElem hi, List.getElem?_eq_getElem (show i < is.length by omega), Option.map_some, Option.some.injEq] at this
    simpa [List.getD_eq_getElem?_getD, hi] using this
  obtain ⟨i1, e1⟩ := e j (by omega)
  obtain ⟨i2, e2⟩ := e (j + 1) hj
  exact ⟨_, _, List.pairwise_iff_getElem.1 h2 j (j + 1) i1 i2 (by omega), h3 _ (List.getElem_mem i2), e1, e2⟩

/-- one more record -/
theorem order_next (ns ts : List Int) (k : Nat) (hk : k < 200) : groupsN (oL ns ts (k + 1)) =
    let r := oR (ns.getD k 0) (ts.getD k 0) k
    let gs := groupsN (oL ns ts k)
    if idx (keyP r) gs < 0 then gs ++ [⟨r.name, r.ty, [r]⟩] else gs.set (idx (keyP r) gs).toNat { gs.getD (idx (keyP r) gs).toNat g0 with l := (gs.getD (idx (keyP r) gs).toNat g0).l ++ [r] } := by
  have hl := idx_lt (keyP (oR (ns.getD k 0) (ts.getD k 0) k)) (groupsN (oL ns ts k))
  rw [oL_succ, groupsN_snoc]
  unfold addG
  rw [if_pos (show (oR (ns.getD k 0) (ts.getD k 0) k).cl = 1 from rfl)]
  have hf : Nm.foldN (oR (ns.getD k 0) (ts.getD k 0) k).name = (oR (ns.getD k 0) (ts.getD k 0) k).name := oN_fold _
  simp only [hf]
  split
  · rfl
  · rename_i hneg
    have hany : ((groupsN (oL ns ts k)).getD (idx (keyP (oR (ns.getD k 0) (ts.getD k 0) k)) (groupsN (oL ns ts k))).toNat g0).l.any (fun x => Rc.sameRR x (oR (ns.getD k 0) (ts.getD k 0) k)) = false := by
      rw [Bool.eq_false_iff]
      intro h
      obtain ⟨x, hx, hs⟩ := List.any_eq_true.1 h
      have hm := (groupsN_has (oL ns ts k)).1 x ⟨_, getD_mem' (by omega), hx⟩
      unfold oL at hm
      obtain ⟨i, hi, rfl⟩ := List.mem_map.1 hm
      have hi2 := List.mem_range.1 hi
      have := same_data (by omega) (by omega) hs
      omega
    unfold addTo
    rw [hany]
    rfl
theorem groups_rise (ns ts : List Int) : ∀ k, k < 200 → ∀ g ∈ groupsN (oL ns ts k), Rise k g.l
  | 0, _ => by simp [oL, groupsN]
  | k + 1, hk => by
    have ih := groups_rise ns ts k (by omega)
    have hl := idx_lt (keyP (oR (ns.getD k 0) (ts.getD k 0) k)) (groupsN (oL ns ts k))
    rw [order_next ns ts k (by omega)]
    intro g hg
    simp only at hg
    split at hg
    · rcases List.mem_append.1 hg with h | h
      · exact (ih g h).mono
      · simp at h
        subst h
        exact Rise.snoc (k := k) (l := []) ⟨[], rfl, by simp, by simp⟩ _ _
    · rcases List.mem_or_eq_of_mem_set hg with h | h
      · exact (ih g h).mono
      · subst h
        exact (ih _ (getD_mem' (by omega))).snoc _ _

/-- keys and counts as they lie -/
def encK (gs : List Gr) : List Value := gs.flatMap fun g => [.string (mk g.name), .int .i64 g.ty]
def encC (gs : List Gr) : List Value := gs.map fun g => .int .i64 g.l.length
theorem encK_snoc (gs : List Gr) (g : Gr) : encK (gs ++ [g]) = encK gs ++ [.string (mk g.name), .int .i64 g.ty] := by simp [encK]
theorem encC_snoc (gs : List Gr) (g : Gr) : encC (gs ++ [g]) = encC gs ++ [.int .i64 g.l.length] := by simp [encC]
theorem encK_set : ∀ (gs : List Gr) (q : Nat) (g : Gr), q < gs.length → g.name = (gs.getD q g0).name → g.ty = (gs.getD q g0).ty → encK (gs.set q g) = encK gs
  | [], _, _, h, _, _ => by simp at h
  | x :: gs, 0, g, _, h1, h2 => by simp at h1 h2; simp [encK, h1, h2]
  | x :: gs, q + 1, g, h, h1, h2 => by
    have := encK_set gs q g (by simpa using h) (by simpa using h1) (by simpa using h2)
    simp [encK] at this ⊢
    exact this
theorem encC_set (gs : List Gr) (q : Nat) (g : Gr) : encC (gs.set q g) = (encC gs).set q (.int .i64 g.l.length) := by simp [encC, List.map_set]
theorem encC_length (gs : List Gr) : (encC gs).length = gs.length := by simp [encC]
theorem encC_get (gs : List Gr) (j : Nat) (h : j < gs.length) : (encC gs)[j]? = some (.int .i64 (gs.getD j g0).l.length) := by simp [encC, h, List.getD_eq_getElem?_getD]
theorem encK_get : ∀ (gs : List Gr) (j : Nat), j < gs.length → (encK gs)[j * 2]? = some (.string (mk (gs.getD j g0).name)) ∧ (encK gs)[j * 2 + 1]? = some (.int .i64 (gs.getD j g0).ty)
  | [], _, h => by simp at h
  | x :: gs, 0, _ => by simp [encK]
  | x :: gs, j + 1, h => by
    have := encK_get gs j (by simpa using h)
    have e : encK (x :: gs) = .string (mk x.name) :: .int .i64 x.ty :: encK gs := rfl
    rw [e, show (j + 1) * 2 = j * 2 + 1 + 1 by omega]
    simpa using this
theorem encK_length : ∀ (gs : List Gr), (encK gs).length = gs.length * 2
  | [] => rfl
  | x :: gs => by
    have e : encK (x :: gs) = .string (mk x.name) :: .int .i64 x.ty :: encK gs := rfl
    rw [e, List.length_cons, List.length_cons, encK_length gs, List.length_cons]
    omega
end Go.Proofs.Ytcamopppeanipaa

