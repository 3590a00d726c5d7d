/- The contract of the reference's TypeText. -/
import Derived.Test.YthfpijacemkbbaaDoorRqV
namespace Go.Proofs.YthfpijacemkbbaaDoor
open Go.RowKit
set_option linter.unusedVariables false

def tyL : List Int := [1, 2, 5, 6, 12, 15, 16, 28, 33, 41]
def twL : List (List UInt8) := [[65], [78, 83], [67, 78, 65, 77, 69], [83, 79, 65], [80, 84, 82], [77, 88], [84, 88, 84], [65, 65, 65, 65], [83, 82, 86], [79, 80, 84]]
theorem typ_at {k : Nat} (h : k < 10) : typeT (tyL.getD k 0) = twL.getD k [] := by
  match k, h with
  | 0, _ => rfl
  | 1, _ => rfl
  | 2, _ => rfl
  | 3, _ => rfl
  | 4, _ => rfl
  | 5, _ => rfl
  | 6, _ => rfl
  | 7, _ => rfl
  | 8, _ => rfl
  | 9, _ => rfl
theorem typ_no {t : Int} (h : ∀ j, j < 10 → ¬ tyL.getD j 0 = t) : typeT t = [84, 89, 80, 69] ++ Lib.itoa t := by
  have k0 := h 0 (by omega)
  have k1 := h 1 (by omega)
  have k2 := h 2 (by omega)
  have k3 := h 3 (by omega)
  have k4 := h 4 (by omega)
  have k5 := h 5 (by omega)
  have k6 := h 6 (by omega)
  have k7 := h 7 (by omega)
  have k8 := h 8 (by omega)
  have k9 := h 9 (by omega)
  simp only [tyL, List.getD_cons_zero, List.getD_cons_succ] at k0 k1 k2 k3 k4 k5 k6 k7 k8 k9
  unfold typeT
  rw [if_neg (fun e => k0 e.symm), if_neg (fun e => k1 e.symm), if_neg (fun e => k2 e.symm), if_neg (fun e => k3 e.symm), if_neg (fun e => k4 e.symm), if_neg (fun e => k5 e.symm), if_neg (fun e => k6 e.symm), if_neg (fun e => k7 e.symm), if_neg (fun e => k8 e.symm), if_neg (fun e => k9 e.symm)]
theorem strs_new (W : World) (l : List (List UInt8)) (T : TypeId) (k : Nat) (hk : k < l.length) : (W.alloc (.cells (encS l).toArray T)).cell? ⟨W.heap.size, k, none⟩ = some (.string (mk (l.getD k []))) := by
  rw [World.cell?_alloc_at (hn := rfl)]
  simp [encS, List.getD_eq_getElem?_getD, hk]
theorem Decimal_any (n : Int) (w : World) (h0 : -9223372036854775808 ≤ n) (h1 : n ≤ 9223372036854775807) :
    Calls Tryd.prog 46 #[.int .i64 n] w fun e w' => e = .returned (.string (mk (Lib.itoa n))) ∧ Below w.heap.size w w' := by
  have hlen := itoa_length h0 h1
  by_cases hneg : n < 0
  · have hi : Lib.itoa n = [45] ++ Lib.decDigits n.natAbs := by unfold Lib.itoa; rw [if_pos hneg]; rfl
    rw [hi] at hlen ⊢
    exact Decimal_neg n n.natAbs w (by omega) (by omega) (by omega) (by rw [List.length_append] at hlen; omega)
  · have hi : Lib.itoa n = [] ++ Lib.decDigits n.toNat := by unfold Lib.itoa; rw [if_neg hneg]; rfl
    rw [hi] at hlen ⊢
    exact Decimal_pos n n.toNat w (by omega) (by omega) hlen
set_option maxRecDepth 100000 in
set_option maxHeartbeats 8000000 in
theorem TypeText_any (t : Int) (w : World) (h0 : -9223372036854775808 ≤ t) (h1 : t ≤ 9223372036854775807) :
    Calls Tryd.prog 18 #[.int .i64 t] w fun e w' => e = .returned (.string (mk (typeT t))) ∧ Below w.heap.size w w' := by
  have hdec := fun W => Decimal_any t W h0 h1
  have hlen := itoa_length h0 h1
  have hno := fun (h : ∀ j, j < 10 → ¬ tyL.getD j 0 = t) => typ_no h
  have e3 : (⟨#[84, 89, 80, 69]⟩ : ByteArray) ++ mk (Lib.itoa t) = mk ([84, 89, 80, 69] ++ Lib.itoa t) := mk_app [84, 89, 80, 69] _
  have e4 : (mk (Lib.itoa t)).size = (Lib.itoa t).length := size_mk _
  generalize Lib.itoa t = it at *
  have e5 : ¬ 9223372036854775807 < 4 + it.length := by omega
  have hyes := fun (k : Nat) (h : k < 10) (e : tyL.getD k 0 = t) => (by rw [← e]; exact typ_at h : typeT t = twL.getD k [])
  generalize typeT t = res at *
  have hc1 := fun (k : Nat) (h : k < 10) => ints_new w tyL 3 k h
  have hc2 := fun (k : Nat) (h : k < 10) => strs_new (w.alloc (.cells (tyL.map (Value.int .i64)).toArray 3)) twL 9 k h
  have hb1 : Below w.heap.size w (w.alloc (.cells (tyL.map (Value.int .i64)).toArray 3)) := (Below.refl _ w).alloc (Nat.le_refl _) _
  have hb0 : Below w.heap.size w ((w.alloc (.cells (tyL.map (Value.int .i64)).toArray 3)).alloc (.cells (encS twL).toArray 9)) := hb1.alloc hb1.size _
  have hc1' := fun (k : Nat) (h : k < 10) => (((Below.refl _ (w.alloc (.cells (tyL.map (Value.int .i64)).toArray 3))).alloc (Nat.le_refl _) (.cells (encS twL).toArray 9)).cell (p := ⟨w.heap.size, k, none⟩) (by simp)).trans (hc1 k h)
  simp only [World.size_alloc] at hc2
  clear hc1 hb1
  have HDEC := Go.Lib.hid hdec
  have HNO := Go.Lib.hid hno
  have HYES := Go.Lib.hid hyes
  have HC1 := Go.Lib.hid hc1'
  have HC2 := Go.Lib.hid hc2
  have HB0 := Go.Lib.hid hb0
  clear hdec hno hyes hc1' hc2 hb0
  clear h0 h1 hlen
  go_enter Tryd.func18, Tryd.ntmps18
  go_wp2_with fail
  change Code.wp _ _ _ _ ((w.alloc (.cells (tyL.map (Value.int .i64)).toArray 3)).alloc (.cells (encS twL).toArray 9))
  generalize (w.alloc (.cells (tyL.map (Value.int .i64)).toArray 3)).alloc (.cells (encS twL).toArray 9) = X at *
  generalize w.heap.size + 1 = b2 at *
  go_loopw [5] (fun i wr => wr = X ∧ ∃ k : Nat, i = .int .i64 k ∧ k ≤ 10 ∧ ∀ j, j < k → ¬ tyL.getD j 0 = t) (fun i _ => 10 - (intOf i).toNat)
  case atStart => exact ⟨by first | rfl | trivial, 0, rfl, by omega, fun j h => by omega⟩
  case round =>
    obtain ⟨rfl, k, rfl, hk9, hall⟩ := hrel
    have HALL := Go.Lib.hid hall
    clear hall
    by_cases hlt : k < 10
    · have d0 := HC1.out k hlt
      have d1 := HC2.out k hlt
      by_cases heq : tyL.getD k 0 = t
      · have hres := Go.Lib.hid (HYES.out k hlt heq)
        have q1 : (tyL.getD k 0 == t) = true := by rw [heq]; exact beq_self_eq_true _
        clear heq
        generalize tyL.getD k 0 = v at *
        generalize twL.getD k [] = tx at *
        clear HALL HC1 HC2 HYES
        go_wp2_with fail
        go_ret
        exact ⟨by rw [hres.out]; rfl, HB0.out⟩
      · have hall2 : ∀ j, j < k + 1 → ¬ tyL.getD j 0 = t := fun j hj => by
          rcases Nat.lt_or_ge j k with h | h
          · exact HALL.out j h
          · obtain rfl : j = k := by omega
            exact heq
        have q1 : (tyL.getD k 0 == t) = false := beq_eq_false_iff_ne.2 heq
        have HALL2 := Go.Lib.hid hall2
        clear hall2
        clear heq d1
        generalize tyL.getD k 0 = v at *
        go_wp2_with fail
        go_roundw
        case rel => exact ⟨by first | rfl | trivial, k + 1, by go_num, by omega, HALL2.out⟩
        case measure => simp [intOf]; omega
    · have hres := Go.Lib.hid (HNO.out (fun j hj => HALL.out j (by omega)))
      go_wp2_with fail
      refine (HDEC.out _).mono ?_; rintro e W2 ⟨rfl, hx⟩
      have HX := Go.Lib.hid hx
      clear hx
      go_wp2_with fail
      go_ret
      exact ⟨by rw [hres.out]; rfl, HB0.out.trans (HX.out.mono HB0.out.size)⟩
end Go.Proofs.YthfpijacemkbbaaDoor

