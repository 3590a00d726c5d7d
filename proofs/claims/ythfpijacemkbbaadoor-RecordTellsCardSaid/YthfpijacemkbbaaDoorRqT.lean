/- Parts of a set of records, sets put together, and when sets are the same. -/
import Derived.Test.YthfpijacemkbbaaDoorRqN
namespace Go.Proofs.YthfpijacemkbbaaDoor
open Go.RowKit
set_option linter.unusedVariables false

theorem infoRc : (Tryd.prog.info? 23).map (fun i => (i.zero, i.size, i.bytes)) = some (some (.agg #[.string ⟨#[]⟩, .int .i64 0, .int .i64 0, .int .i64 0, .string ⟨#[]⟩]), 5, 56) := by kernel_rfl
theorem eiRc : EI Tryd.prog 41 23 5 56 := ei_of Tryd.underlying41 infoRc rfl (by decide)
theorem encR_append (a b : List Rc.RR) : encR (a ++ b) = encR a ++ encR b := by simp [encR]
theorem encR_drop1 (r : Rc.RR) (l : List Rc.RR) (k : Nat) : (encR (r :: l)).drop ((k + 1) * 5) = (encR l).drop (k * 5) := by
  have e : encR (r :: l) = [Value.string (mk r.name), .int .i64 r.ty, .int .i64 r.cl, .int .i64 r.ttl, .string (mk r.data)] ++ encR l := rfl
  rw [e, List.drop_append, List.drop_of_length_le (by simp; omega), List.nil_append]
  congr 1
  simp
  omega
theorem encR_drop : ∀ (l : List Rc.RR) (k : Nat), (encR l).drop (k * 5) = encR (l.drop k)
  | l, 0 => by simp
  | [], k + 1 => by simp [encR]
  | r :: l, k + 1 => by
    rw [encR_drop1]
    exact encR_drop l k
theorem encR_take (l : List Rc.RR) (k : Nat) (hk : k ≤ l.length) : (encR l).take (k * 5) = encR (l.take k) := by
  have h := encR_append (l.take k) (l.drop k)
  rw [List.take_append_drop] at h
  rw [h, List.take_left' (by rw [encR_length, List.length_take, Nat.min_eq_left hk])]
theorem RRs_sub {w : World} {b off cap : Nat} {l : List Rc.RR} (h : RRs w (.slice (some ⟨b, off, none⟩) l.length cap) l) {i j : Nat} (hij : i ≤ j) (hj : j ≤ l.length) {a' : Option Addr}
    (ha : i < j → a' = some ⟨b, off + i * 5, none⟩) (hz : a' = none → cap - i = 0) : RRs w (.slice a' (j - i) (cap - i)) ((l.drop i).take (j - i)) := by
  have := SlC.sub h hij hj (a' := a') ha hz
  rw [encR_drop, encR_take _ _ (by rw [List.length_drop]; omega)] at this
  unfold RRs
  rw [List.length_take, List.length_drop, show min (j - i) (l.length - i) = j - i by omega]
  exact this

/-! ### plain -/
/-- records of one name, of many numbers -/
def setOf (n : List UInt8) (zs : List Int) : List Rc.RR := zs.map fun z => ⟨n, 1, 1, 60, four (z % 50)⟩
theorem setOf_length (n : List UInt8) (zs : List Int) : (setOf n zs).length = zs.length := by simp [setOf]
theorem foldD_a (x : Int) : Rc.foldD 1 (four x) = four x := rfl
theorem four_inj {x y : Int} (hx : 0 ≤ x ∧ x < 50) (hy : 0 ≤ y ∧ y < 50) : (four x == four y) = (x == y) := by
  rw [Bool.eq_iff_iff, beq_iff_eq, beq_iff_eq]
  constructor
  · intro h
    have h1 := num4_four x hx.1 (by omega)
    have h2 := num4_four y hy.1 (by omega)
    unfold four at h
    simp only [List.cons.injEq, and_true] at h
    obtain ⟨e1, e2, e3, e4⟩ := h
    rw [e1, e2, e3, e4] at h1
    omega
  · rintro rfl; rfl
theorem same_a {n : List UInt8} {l l' x y : Int} (hx : 0 ≤ x ∧ x < 50) (hy : 0 ≤ y ∧ y < 50) : Rc.sameRR ⟨n, 1, 1, l, four x⟩ ⟨n, 1, 1, l', four y⟩ = (x == y) := by
  unfold Rc.sameRR
  simp only [foldD_a, beq_self_eq_true, Bool.true_and, Bool.and_true]
  exact four_inj hx hy
theorem among_sub {a b : List Rc.RR} (h : ∀ x ∈ a, x ∈ b) : amongB a b = true := by
  unfold amongB
  rw [List.all_eq_true]
  intro x hx
  rw [List.any_eq_true]
  exact ⟨x, h x hx, Rc.same_refl x⟩
theorem among_snoc (a b : List Rc.RR) (r : Rc.RR) : amongB (a ++ [r]) b = (amongB a b && b.any fun y => Rc.sameRR r y) := by simp [amongB]
theorem turned_mem {α : Type} {l : List α} {k : Nat} {y : α} : y ∈ (l.drop k ++ l.take k) ++ l ↔ y ∈ l := by
  rw [List.mem_append, List.mem_append]
  constructor
  · rintro ((h | h) | h)
    · exact List.mem_of_mem_drop h
    · exact List.mem_of_mem_take h
    · exact h
  · exact fun h => .inr h
theorem met_set {n : List UInt8} {K : Int} (hK : 0 ≤ K ∧ K < 50) (zs : List Int) : ((setOf n zs).any fun y => Rc.sameRR ⟨n, 1, 1, 5, four K⟩ y) = zs.any fun z => z % 50 == K := by
  unfold setOf
  rw [List.any_map]
  congr 1
  funext z
  show Rc.sameRR _ _ = _
  rw [same_a hK (by omega), Bool.eq_iff_iff, beq_iff_eq, beq_iff_eq]
  exact eq_comm
theorem sets_ok {n : List UInt8} {K : Int} (hK : 0 ≤ K ∧ K < 50) (zs : List Int) (t : Nat) :
    sameSetB (setOf n zs) (((setOf n zs).drop t ++ (setOf n zs).take t) ++ setOf n zs) = true ∧ sameSetB (((setOf n zs).drop t ++ (setOf n zs).take t) ++ setOf n zs) (setOf n zs) = true ∧
    sameSetB (setOf n zs) ((((setOf n zs).drop t ++ (setOf n zs).take t) ++ setOf n zs) ++ [⟨n, 1, 1, 5, four K⟩]) = (zs.any fun z => z % 50 == K) ∧
    sameSetB ((((setOf n zs).drop t ++ (setOf n zs).take t) ++ setOf n zs) ++ [⟨n, 1, 1, 5, four K⟩]) (setOf n zs) = (zs.any fun z => z % 50 == K) := by
  have h1 : amongB (setOf n zs) (((setOf n zs).drop t ++ (setOf n zs).take t) ++ setOf n zs) = true := among_sub fun x hx => turned_mem.2 hx
  have h2 : amongB (((setOf n zs).drop t ++ (setOf n zs).take t) ++ setOf n zs) (setOf n zs) = true := among_sub fun x hx => turned_mem.1 hx
  have h3 : amongB (setOf n zs) ((((setOf n zs).drop t ++ (setOf n zs).take t) ++ setOf n zs) ++ [⟨n, 1, 1, 5, four K⟩]) = true := among_sub fun x hx => List.mem_append_left _ (turned_mem.2 hx)
  have h4 : amongB ((((setOf n zs).drop t ++ (setOf n zs).take t) ++ setOf n zs) ++ [⟨n, 1, 1, 5, four K⟩]) (setOf n zs) = (zs.any fun z => z % 50 == K) := by rw [among_snoc, h2, Bool.true_and, met_set hK]
  unfold sameSetB
  rw [h1, h2, h3, h4]
  simp
end Go.Proofs.YthfpijacemkbbaaDoor

