/- The contract of record.Type: a type's text. -/
import Derived.Test.YthfpijacemkbbaaDoorShelf
import Derived.Test.YthfpijacemkbbaaDoorRqF
namespace Go.Proofs.YthfpijacemkbbaaDoor
open Go.RowKit
set_option linter.unusedVariables false

/-- a type's text -/
def typeT (t : Int) : List UInt8 := if t = 1 then [65] else if t = 2 then [78, 83] else if t = 5 then [67, 78, 65, 77, 69] else if t = 6 then [83, 79, 65] else if t = 12 then [80, 84, 82] else if t = 15 then [77, 88] else if t = 16 then [84, 88, 84]
  else if t = 28 then [65, 65, 65, 65] else if t = 33 then [83, 82, 86] else if t = 41 then [79, 80, 84] else [84, 89, 80, 69] ++ Lib.itoa t
theorem nd_le : ∀ (k u : Nat), u < 10 ^ (k + 1) → Lib.nDigits u ≤ k + 1
  | 0, u, h => by rw [Lib.nDigits_small (by omega)]; exact Nat.le_refl _
  | k + 1, u, h => by
    by_cases hu : u < 10
    · rw [Lib.nDigits_small hu]; omega
    · rw [Lib.nDigits_big hu]
      have := nd_le k (u / 10) (by rw [Nat.pow_succ] at h; omega)
      omega
theorem itoa_length {n : Int} (h0 : -9223372036854775808 ≤ n) (h1 : n ≤ 9223372036854775807) : (Lib.itoa n).length ≤ 20 := by
  unfold Lib.itoa
  split
  · rw [List.length_cons, Lib.decDigits_length]
    have := nd_le 18 n.natAbs (by omega)
    omega
  · rw [Lib.decDigits_length]
    have := nd_le 18 n.toNat (by omega)
    omega
theorem below_grow (w : World) (k : Nat) (os : Array Obj) : Below w.heap.size w (Sort.grow (w.drewN k) os) := by
  have h : Below w.heap.size w (w.drewN k) := below_drewN (Below.refl _ w) k
  refine ⟨h.os, h.tape, h.output, Nat.le_trans h.size (by simp [Sort.grow]), fun j hj => ?_⟩
  have := h.block j hj
  rw [← this]
  show ((w.drewN k).heap ++ os)[j]? = _
  rw [Array.getElem?_append_left (Nat.lt_of_lt_of_le hj h.size)]
theorem Type_end (t : Int) (w : World) (h1 : ¬ t = 1) (h2 : ¬ t = 2) (h3 : ¬ t = 5) (h4 : ¬ t = 6) (h5 : ¬ t = 12) (h6 : ¬ t = 15) (h7 : ¬ t = 16) (h8 : ¬ t = 28) (h9 : ¬ t = 33) (h10 : ¬ t = 41) (hl : (Lib.itoa t).length ≤ 20)
    (hc : Calls Tryd.prog 45 #[.int .i64 t] w fun e w' => e = .returned (.string (mk (Lib.itoa t))) ∧ Below w.heap.size w w') :
    Calls Tryd.prog 17 #[.int .i64 t] w fun e w' => e = .returned (.string (mk (typeT t))) ∧ Below w.heap.size w w' := by
  have hv : typeT t = [84, 89, 80, 69] ++ Lib.itoa t := by
    unfold typeT
    rw [if_neg h1, if_neg h2, if_neg h3, if_neg h4, if_neg h5, if_neg h6, if_neg h7, if_neg h8, if_neg h9, if_neg h10]
  generalize Lib.itoa t = l at *
  have e1 : (⟨#[84, 89, 80, 69]⟩ : ByteArray) ++ mk l = mk ([84, 89, 80, 69] ++ l) := by
    show mk [84, 89, 80, 69] ++ mk l = _
    apply bl_inj; rw [bl_append, bl_mk, bl_mk, bl_mk]
  have z1 : (mk l).size = l.length := size_mk _
  have q1 : ¬ 9223372036854775807 < 4 + l.length := by omega
  rw [← hv] at e1
  generalize typeT t = res at *
  generalize mk l = sl at *
  generalize mk res = sr at *
  have b1 : (t == 1) = false := beq_eq_false_iff_ne.2 h1
  have b2 : (t == 2) = false := beq_eq_false_iff_ne.2 h2
  have b3 : (t == 5) = false := beq_eq_false_iff_ne.2 h3
  have b4 : (t == 6) = false := beq_eq_false_iff_ne.2 h4
  have b5 : (t == 12) = false := beq_eq_false_iff_ne.2 h5
  have b6 : (t == 15) = false := beq_eq_false_iff_ne.2 h6
  have b7 : (t == 16) = false := beq_eq_false_iff_ne.2 h7
  have b8 : (t == 28) = false := beq_eq_false_iff_ne.2 h8
  have b9 : (t == 33) = false := beq_eq_false_iff_ne.2 h9
  have b10 : (t == 41) = false := beq_eq_false_iff_ne.2 h10
  have HC := Go.Lib.hid hc
  clear hc
  clear hv hl h1 h2 h3 h4 h5 h6 h7 h8 h9 h10
  go_enter Tryd.func17, Tryd.ntmps17
  go_wp2_with fail
  refine HC.out.mono ?_; rintro e W2 ⟨rfl, hx⟩
  have HX := Go.Lib.hid hx
  clear hx
  go_wp2_with fail
  go_ret
  exact ⟨rfl, HX.out⟩
theorem Type_1 (w : World) : Calls Tryd.prog 17 #[.int .i64 1] w fun e w' => e = .returned (.string (mk (typeT 1))) ∧ Below w.heap.size w w' := by
  have hv : mk (typeT 1) = mk (typeT 1) := rfl
  go_enter Tryd.func17, Tryd.ntmps17
  go_wp2_with fail
  go_ret
  exact ⟨rfl, Below.refl _ _⟩
theorem Type_2 (w : World) : Calls Tryd.prog 17 #[.int .i64 2] w fun e w' => e = .returned (.string (mk (typeT 2))) ∧ Below w.heap.size w w' := by
  have hv : mk (typeT 2) = mk (typeT 2) := rfl
  go_enter Tryd.func17, Tryd.ntmps17
  go_wp2_with fail
  go_ret
  exact ⟨rfl, Below.refl _ _⟩
theorem Type_5 (w : World) : Calls Tryd.prog 17 #[.int .i64 5] w fun e w' => e = .returned (.string (mk (typeT 5))) ∧ Below w.heap.size w w' := by
  have hv : mk (typeT 5) = mk (typeT 5) := rfl
  go_enter Tryd.func17, Tryd.ntmps17
  go_wp2_with fail
  go_ret
  exact ⟨rfl, Below.refl _ _⟩
theorem Type_6 (w : World) : Calls Tryd.prog 17 #[.int .i64 6] w fun e w' => e = .returned (.string (mk (typeT 6))) ∧ Below w.heap.size w w' := by
  have hv : mk (typeT 6) = mk (typeT 6) := rfl
  go_enter Tryd.func17, Tryd.ntmps17
  go_wp2_with fail
  go_ret
  exact ⟨rfl, Below.refl _ _⟩
theorem Type_12 (w : World) : Calls Tryd.prog 17 #[.int .i64 12] w fun e w' => e = .returned (.string (mk (typeT 12))) ∧ Below w.heap.size w w' := by
  have hv : mk (typeT 12) = mk (typeT 12) := rfl
  go_enter Tryd.func17, Tryd.ntmps17
  go_wp2_with fail
  go_ret
  exact ⟨rfl, Below.refl _ _⟩
theorem Type_15 (w : World) : Calls Tryd.prog 17 #[.int .i64 15] w fun e w' => e = .returned (.string (mk (typeT 15))) ∧ Below w.heap.size w w' := by
  have hv : mk (typeT 15) = mk (typeT 15) := rfl
  go_enter Tryd.func17, Tryd.ntmps17
  go_wp2_with fail
  go_ret
  exact ⟨rfl, Below.refl _ _⟩
theorem Type_16 (w : World) : Calls Tryd.prog 17 #[.int .i64 16] w fun e w' => e = .returned (.string (mk (typeT 16))) ∧ Below w.heap.size w w' := by
  have hv : mk (typeT 16) = mk (typeT 16) := rfl
  go_enter Tryd.func17, Tryd.ntmps17
  go_wp2_with fail
  go_ret
  exact ⟨rfl, Below.refl _ _⟩
theorem Type_28 (w : World) : Calls Tryd.prog 17 #[.int .i64 28] w fun e w' => e = .returned (.string (mk (typeT 28))) ∧ Below w.heap.size w w' := by
  have hv : mk (typeT 28) = mk (typeT 28) := rfl
  go_enter Tryd.func17, Tryd.ntmps17
  go_wp2_with fail
  go_ret
  exact ⟨rfl, Below.refl _ _⟩
theorem Type_33 (w : World) : Calls Tryd.prog 17 #[.int .i64 33] w fun e w' => e = .returned (.string (mk (typeT 33))) ∧ Below w.heap.size w w' := by
  have hv : mk (typeT 33) = mk (typeT 33) := rfl
  go_enter Tryd.func17, Tryd.ntmps17
  go_wp2_with fail
  go_ret
  exact ⟨rfl, Below.refl _ _⟩
theorem Type_41 (w : World) : Calls Tryd.prog 17 #[.int .i64 41] w fun e w' => e = .returned (.string (mk (typeT 41))) ∧ Below w.heap.size w w' := by
  have hv : mk (typeT 41) = mk (typeT 41) := rfl
  go_enter Tryd.func17, Tryd.ntmps17
  go_wp2_with fail
  go_ret
  exact ⟨rfl, Below.refl _ _⟩
theorem Type_any (t : Int) (w : World) (h0 : -9223372036854775808 ≤ t) (h1 : t ≤ 9223372036854775807) (htab : Lib.TabIs Tryd.prog w "internal/strconv.uint64pow10" .u64 Lib.pow10Tab) :
    Calls Tryd.prog 17 #[.int .i64 t] w fun e w' => e = .returned (.string (mk (typeT t))) ∧ Below w.heap.size w w' := by
  by_cases h1 : t = 1
  · rw [h1]; exact Type_1 w
  by_cases h2 : t = 2
  · rw [h2]; exact Type_2 w
  by_cases h5 : t = 5
  · rw [h5]; exact Type_5 w
  by_cases h6 : t = 6
  · rw [h6]; exact Type_6 w
  by_cases h12 : t = 12
  · rw [h12]; exact Type_12 w
  by_cases h15 : t = 15
  · rw [h15]; exact Type_15 w
  by_cases h16 : t = 16
  · rw [h16]; exact Type_16 w
  by_cases h28 : t = 28
  · rw [h28]; exact Type_28 w
  by_cases h33 : t = 33
  · rw [h33]; exact Type_33 w
  by_cases h41 : t = 41
  · rw [h41]; exact Type_41 w
  refine Type_end t w (by assumption) (by assumption) (by assumption) (by assumption) (by assumption) (by assumption) (by assumption) (by assumption) (by assumption) (by assumption) (itoa_length h0 (by assumption)) ?_
  refine (Tryd.strconv_Itoa t h0 (by assumption) w htab).mono ?_
  rintro e w' ⟨rfl, k, os, rfl⟩
  exact ⟨rfl, below_grow _ _ _⟩
theorem Type_99 (w : World) : Calls Tryd.prog 17 #[.int .i64 99] w fun e w' => e = .returned (.string (mk [84, 89, 80, 69, 57, 57])) ∧ Below w.heap.size w w' := by
  have hi : Lib.itoa 99 = [57, 57] := by
    show Lib.decDigits 99 = _
    rw [Lib.decDigits_two (by omega) (by omega)]
    rfl
  have ht : typeT 99 = [84, 89, 80, 69, 57, 57] := by unfold typeT; rw [hi]; rfl
  rw [← ht]
  refine Type_end 99 w (by decide) (by decide) (by decide) (by decide) (by decide) (by decide) (by decide) (by decide) (by decide) (by decide) (by rw [hi]; decide) ?_
  refine (Tryd.strconv_Itoa_small 99 (by omega) w).mono ?_
  rintro e w' ⟨rfl, rfl⟩
  exact ⟨rfl, Below.refl _ _⟩
end Go.Proofs.YthfpijacemkbbaaDoor

