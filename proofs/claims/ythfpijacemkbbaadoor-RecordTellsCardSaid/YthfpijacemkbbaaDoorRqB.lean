/- The contract of record.Check. -/
import Derived.Test.YthfpijacemkbbaaDoorRqA
import Derived.Test.YthfpijacemkbbaaDoorNameA
namespace Go.Proofs.YthfpijacemkbbaaDoor
open Go.RowKit
set_option linter.unusedVariables false

/-- may a record be? -/
def checkB (r : Rc.RR) : Bool := Nm.valid r.name && decide (1 ≤ r.ty ∧ r.ty ≤ 65535) && (r.ty != 41) && decide (0 ≤ r.cl ∧ r.cl ≤ 65535) && decide (0 ≤ r.ttl ∧ r.ttl ≤ 2147483647) && Rc.dataB r.ty r.data
set_option maxRecDepth 100000 in
set_option maxHeartbeats 4000000 in
theorem Check_a (rn rd : List UInt8) (ty cl tl : Int) (w : World)
    (HV : Hid (∀ W, Calls Tryd.prog 42 #[.string (mk rn)] W fun e w' => e = .returned (.bool false) ∧ W = w')) :
    Calls Tryd.prog 13 #[.agg #[.string (mk rn), .int .i64 ty, .int .i64 cl, .int .i64 tl, .string (mk rd)]] w fun e w' => e = .returned (.bool false) ∧ Below w.heap.size w w' := by
  have hH := World.alloc_heap_new w (.cells #[.string (mk rn), .int .i64 ty, .int .i64 cl, .int .i64 tl, .string (mk rd)] 23)
  have h0 : Below w.heap.size w (w.alloc (.cells #[.string (mk rn), .int .i64 ty, .int .i64 cl, .int .i64 tl, .string (mk rd)] 23)) := (Below.refl _ w).alloc (Nat.le_refl _) _
  have HH := Go.Lib.hid hH
  have H0 := Go.Lib.hid h0
  clear hH h0
  go_enter Tryd.func13, Tryd.ntmps13
  go_wp2_with fail
  generalize (w.alloc (.cells #[.string (mk rn), .int .i64 ty, .int .i64 cl, .int .i64 tl, .string (mk rd)] 23)) = X at *
  have hg := cell_of_heap HH.out
  have hlt := (Array.getElem?_eq_some_iff.1 HH.out).1
  have a0 : X.cell? ⟨w.heap.size, 0, none⟩ = some (.string (mk rn)) := hg 0
  have a1 : X.cell? ⟨w.heap.size, 1, none⟩ = some (.int .i64 ty) := hg 1
  have a2 : X.cell? ⟨w.heap.size, 2, none⟩ = some (.int .i64 cl) := hg 2
  have a3 : X.cell? ⟨w.heap.size, 3, none⟩ = some (.int .i64 tl) := hg 3
  have a4 : X.cell? ⟨w.heap.size, 4, none⟩ = some (.string (mk rd)) := hg 4
  clear hg hlt
  refine (HV.out _).mono ?_; rintro e _ ⟨rfl, rfl⟩
  go_wp2_with fail
  go_ret
  exact ⟨rfl, H0.out⟩

set_option maxRecDepth 100000 in
set_option maxHeartbeats 4000000 in
theorem Check_b (rn rd : List UInt8) (ty cl tl : Int) (w : World)
    (HV : Hid (∀ W, Calls Tryd.prog 42 #[.string (mk rn)] W fun e w' => e = .returned (.bool true) ∧ W = w'))
    (HT : Hid (∀ W, Calls Tryd.prog 43 #[.int .i64 ty, .int .i64 1, .int .i64 65535] W fun e w' => e = .returned (.bool false) ∧ W = w')) :
    Calls Tryd.prog 13 #[.agg #[.string (mk rn), .int .i64 ty, .int .i64 cl, .int .i64 tl, .string (mk rd)]] w fun e w' => e = .returned (.bool false) ∧ Below w.heap.size w w' := by
  have hH := World.alloc_heap_new w (.cells #[.string (mk rn), .int .i64 ty, .int .i64 cl, .int .i64 tl, .string (mk rd)] 23)
  have h0 : Below w.heap.size w (w.alloc (.cells #[.string (mk rn), .int .i64 ty, .int .i64 cl, .int .i64 tl, .string (mk rd)] 23)) := (Below.refl _ w).alloc (Nat.le_refl _) _
  have HH := Go.Lib.hid hH
  have H0 := Go.Lib.hid h0
  clear hH h0
  go_enter Tryd.func13, Tryd.ntmps13
  go_wp2_with fail
  generalize (w.alloc (.cells #[.string (mk rn), .int .i64 ty, .int .i64 cl, .int .i64 tl, .string (mk rd)] 23)) = X at *
  have hg := cell_of_heap HH.out
  have hlt := (Array.getElem?_eq_some_iff.1 HH.out).1
  have a0 : X.cell? ⟨w.heap.size, 0, none⟩ = some (.string (mk rn)) := hg 0
  have a1 : X.cell? ⟨w.heap.size, 1, none⟩ = some (.int .i64 ty) := hg 1
  have a2 : X.cell? ⟨w.heap.size, 2, none⟩ = some (.int .i64 cl) := hg 2
  have a3 : X.cell? ⟨w.heap.size, 3, none⟩ = some (.int .i64 tl) := hg 3
  have a4 : X.cell? ⟨w.heap.size, 4, none⟩ = some (.string (mk rd)) := hg 4
  clear hg hlt
  refine (HV.out _).mono ?_; rintro e _ ⟨rfl, rfl⟩
  go_wp2_with fail
  refine (HT.out _).mono ?_; rintro e _ ⟨rfl, rfl⟩
  go_wp2_with fail
  go_ret
  exact ⟨rfl, H0.out⟩

set_option maxRecDepth 100000 in
set_option maxHeartbeats 4000000 in
theorem Check_c (rn rd : List UInt8) (ty cl tl : Int) (w : World)
    (HV : Hid (∀ W, Calls Tryd.prog 42 #[.string (mk rn)] W fun e w' => e = .returned (.bool true) ∧ W = w'))
    (HT : Hid (∀ W, Calls Tryd.prog 43 #[.int .i64 ty, .int .i64 1, .int .i64 65535] W fun e w' => e = .returned (.bool true) ∧ W = w'))
    (h41 : (ty != 41) = false) :
    Calls Tryd.prog 13 #[.agg #[.string (mk rn), .int .i64 ty, .int .i64 cl, .int .i64 tl, .string (mk rd)]] w fun e w' => e = .returned (.bool false) ∧ Below w.heap.size w w' := by
  have hH := World.alloc_heap_new w (.cells #[.string (mk rn), .int .i64 ty, .int .i64 cl, .int .i64 tl, .string (mk rd)] 23)
  have h0 : Below w.heap.size w (w.alloc (.cells #[.string (mk rn), .int .i64 ty, .int .i64 cl, .int .i64 tl, .string (mk rd)] 23)) := (Below.refl _ w).alloc (Nat.le_refl _) _
  have HH := Go.Lib.hid hH
  have H0 := Go.Lib.hid h0
  clear hH h0
  go_enter Tryd.func13, Tryd.ntmps13
  go_wp2_with fail
  generalize (w.alloc (.cells #[.string (mk rn), .int .i64 ty, .int .i64 cl, .int .i64 tl, .string (mk rd)] 23)) = X at *
  have hg := cell_of_heap HH.out
  have hlt := (Array.getElem?_eq_some_iff.1 HH.out).1
  have a0 : X.cell? ⟨w.heap.size, 0, none⟩ = some (.string (mk rn)) := hg 0
  have a1 : X.cell? ⟨w.heap.size, 1, none⟩ = some (.int .i64 ty) := hg 1
  have a2 : X.cell? ⟨w.heap.size, 2, none⟩ = some (.int .i64 cl) := hg 2
  have a3 : X.cell? ⟨w.heap.size, 3, none⟩ = some (.int .i64 tl) := hg 3
  have a4 : X.cell? ⟨w.heap.size, 4, none⟩ = some (.string (mk rd)) := hg 4
  clear hg hlt
  refine (HV.out _).mono ?_; rintro e _ ⟨rfl, rfl⟩
  go_wp2_with fail
  refine (HT.out _).mono ?_; rintro e _ ⟨rfl, rfl⟩
  go_wp2_with fail
  go_ret
  exact ⟨rfl, H0.out⟩

set_option maxRecDepth 100000 in
set_option maxHeartbeats 4000000 in
theorem Check_d (rn rd : List UInt8) (ty cl tl : Int) (w : World)
    (HV : Hid (∀ W, Calls Tryd.prog 42 #[.string (mk rn)] W fun e w' => e = .returned (.bool true) ∧ W = w'))
    (HT : Hid (∀ W, Calls Tryd.prog 43 #[.int .i64 ty, .int .i64 1, .int .i64 65535] W fun e w' => e = .returned (.bool true) ∧ W = w'))
    (HC : Hid (∀ W, Calls Tryd.prog 43 #[.int .i64 cl, .int .i64 0, .int .i64 65535] W fun e w' => e = .returned (.bool false) ∧ W = w'))
    (h41 : (ty != 41) = true) :
    Calls Tryd.prog 13 #[.agg #[.string (mk rn), .int .i64 ty, .int .i64 cl, .int .i64 tl, .string (mk rd)]] w fun e w' => e = .returned (.bool false) ∧ Below w.heap.size w w' := by
  have hH := World.alloc_heap_new w (.cells #[.string (mk rn), .int .i64 ty, .int .i64 cl, .int .i64 tl, .string (mk rd)] 23)
  have h0 : Below w.heap.size w (w.alloc (.cells #[.string (mk rn), .int .i64 ty, .int .i64 cl, .int .i64 tl, .string (mk rd)] 23)) := (Below.refl _ w).alloc (Nat.le_refl _) _
  have HH := Go.Lib.hid hH
  have H0 := Go.Lib.hid h0
  clear hH h0
  go_enter Tryd.func13, Tryd.ntmps13
  go_wp2_with fail
  generalize (w.alloc (.cells #[.string (mk rn), .int .i64 ty, .int .i64 cl, .int .i64 tl, .string (mk rd)] 23)) = X at *
  have hg := cell_of_heap HH.out
  have hlt := (Array.getElem?_eq_some_iff.1 HH.out).1
  have a0 : X.cell? ⟨w.heap.size, 0, none⟩ = some (.string (mk rn)) := hg 0
  have a1 : X.cell? ⟨w.heap.size, 1, none⟩ = some (.int .i64 ty) := hg 1
  have a2 : X.cell? ⟨w.heap.size, 2, none⟩ = some (.int .i64 cl) := hg 2
  have a3 : X.cell? ⟨w.heap.size, 3, none⟩ = some (.int .i64 tl) := hg 3
  have a4 : X.cell? ⟨w.heap.size, 4, none⟩ = some (.string (mk rd)) := hg 4
  clear hg hlt
  refine (HV.out _).mono ?_; rintro e _ ⟨rfl, rfl⟩
  go_wp2_with fail
  refine (HT.out _).mono ?_; rintro e _ ⟨rfl, rfl⟩
  go_wp2_with fail
  refine (HC.out _).mono ?_; rintro e _ ⟨rfl, rfl⟩
  go_wp2_with fail
  go_ret
  exact ⟨rfl, H0.out⟩

set_option maxRecDepth 100000 in
set_option maxHeartbeats 4000000 in
theorem Check_e (rn rd : List UInt8) (ty cl tl : Int) (w : World)
    (HV : Hid (∀ W, Calls Tryd.prog 42 #[.string (mk rn)] W fun e w' => e = .returned (.bool true) ∧ W = w'))
    (HT : Hid (∀ W, Calls Tryd.prog 43 #[.int .i64 ty, .int .i64 1, .int .i64 65535] W fun e w' => e = .returned (.bool true) ∧ W = w'))
    (HC : Hid (∀ W, Calls Tryd.prog 43 #[.int .i64 cl, .int .i64 0, .int .i64 65535] W fun e w' => e = .returned (.bool true) ∧ W = w'))
    (HL : Hid (∀ W, Calls Tryd.prog 43 #[.int .i64 tl, .int .i64 0, .int .i64 2147483647] W fun e w' => e = .returned (.bool false) ∧ W = w'))
    (h41 : (ty != 41) = true) :
    Calls Tryd.prog 13 #[.agg #[.string (mk rn), .int .i64 ty, .int .i64 cl, .int .i64 tl, .string (mk rd)]] w fun e w' => e = .returned (.bool false) ∧ Below w.heap.size w w' := by
  have hH := World.alloc_heap_new w (.cells #[.string (mk rn), .int .i64 ty, .int .i64 cl, .int .i64 tl, .string (mk rd)] 23)
  have h0 : Below w.heap.size w (w.alloc (.cells #[.string (mk rn), .int .i64 ty, .int .i64 cl, .int .i64 tl, .string (mk rd)] 23)) := (Below.refl _ w).alloc (Nat.le_refl _) _
  have HH := Go.Lib.hid hH
  have H0 := Go.Lib.hid h0
  clear hH h0
  go_enter Tryd.func13, Tryd.ntmps13
  go_wp2_with fail
  generalize (w.alloc (.cells #[.string (mk rn), .int .i64 ty, .int .i64 cl, .int .i64 tl, .string (mk rd)] 23)) = X at *
  have hg := cell_of_heap HH.out
  have hlt := (Array.getElem?_eq_some_iff.1 HH.out).1
  have a0 : X.cell? ⟨w.heap.size, 0, none⟩ = some (.string (mk rn)) := hg 0
  have a1 : X.cell? ⟨w.heap.size, 1, none⟩ = some (.int .i64 ty) := hg 1
  have a2 : X.cell? ⟨w.heap.size, 2, none⟩ = some (.int .i64 cl) := hg 2
  have a3 : X.cell? ⟨w.heap.size, 3, none⟩ = some (.int .i64 tl) := hg 3
  have a4 : X.cell? ⟨w.heap.size, 4, none⟩ = some (.string (mk rd)) := hg 4
  clear hg hlt
  refine (HV.out _).mono ?_; rintro e _ ⟨rfl, rfl⟩
  go_wp2_with fail
  refine (HT.out _).mono ?_; rintro e _ ⟨rfl, rfl⟩
  go_wp2_with fail
  refine (HC.out _).mono ?_; rintro e _ ⟨rfl, rfl⟩
  go_wp2_with fail
  refine (HL.out _).mono ?_; rintro e _ ⟨rfl, rfl⟩
  go_wp2_with fail
  go_ret
  exact ⟨rfl, H0.out⟩

set_option maxRecDepth 100000 in
set_option maxHeartbeats 4000000 in
theorem Check_f (rn rd : List UInt8) (ty cl tl : Int) (res : Bool) (w : World)
    (HV : Hid (∀ W, Calls Tryd.prog 42 #[.string (mk rn)] W fun e w' => e = .returned (.bool true) ∧ W = w'))
    (HT : Hid (∀ W, Calls Tryd.prog 43 #[.int .i64 ty, .int .i64 1, .int .i64 65535] W fun e w' => e = .returned (.bool true) ∧ W = w'))
    (HC : Hid (∀ W, Calls Tryd.prog 43 #[.int .i64 cl, .int .i64 0, .int .i64 65535] W fun e w' => e = .returned (.bool true) ∧ W = w'))
    (HL : Hid (∀ W, Calls Tryd.prog 43 #[.int .i64 tl, .int .i64 0, .int .i64 2147483647] W fun e w' => e = .returned (.bool true) ∧ W = w'))
    (HD : Hid (∀ W, Calls Tryd.prog 12 #[.int .i64 ty, .string (mk rd)] W fun e w' => e = .returned (.bool res) ∧ Below W.heap.size W w'))
    (h41 : (ty != 41) = true) :
    Calls Tryd.prog 13 #[.agg #[.string (mk rn), .int .i64 ty, .int .i64 cl, .int .i64 tl, .string (mk rd)]] w fun e w' => e = .returned (.bool res) ∧ Below w.heap.size w w' := by
  have hH := World.alloc_heap_new w (.cells #[.string (mk rn), .int .i64 ty, .int .i64 cl, .int .i64 tl, .string (mk rd)] 23)
  have h0 : Below w.heap.size w (w.alloc (.cells #[.string (mk rn), .int .i64 ty, .int .i64 cl, .int .i64 tl, .string (mk rd)] 23)) := (Below.refl _ w).alloc (Nat.le_refl _) _
  have HH := Go.Lib.hid hH
  have H0 := Go.Lib.hid h0
  clear hH h0
  go_enter Tryd.func13, Tryd.ntmps13
  go_wp2_with fail
  generalize (w.alloc (.cells #[.string (mk rn), .int .i64 ty, .int .i64 cl, .int .i64 tl, .string (mk rd)] 23)) = X at *
  have hg := cell_of_heap HH.out
  have hlt := (Array.getElem?_eq_some_iff.1 HH.out).1
  have a0 : X.cell? ⟨w.heap.size, 0, none⟩ = some (.string (mk rn)) := hg 0
  have a1 : X.cell? ⟨w.heap.size, 1, none⟩ = some (.int .i64 ty) := hg 1
  have a2 : X.cell? ⟨w.heap.size, 2, none⟩ = some (.int .i64 cl) := hg 2
  have a3 : X.cell? ⟨w.heap.size, 3, none⟩ = some (.int .i64 tl) := hg 3
  have a4 : X.cell? ⟨w.heap.size, 4, none⟩ = some (.string (mk rd)) := hg 4
  clear hg hlt
  refine (HV.out _).mono ?_; rintro e _ ⟨rfl, rfl⟩
  go_wp2_with fail
  refine (HT.out _).mono ?_; rintro e _ ⟨rfl, rfl⟩
  go_wp2_with fail
  refine (HC.out _).mono ?_; rintro e _ ⟨rfl, rfl⟩
  go_wp2_with fail
  refine (HL.out _).mono ?_; rintro e _ ⟨rfl, rfl⟩
  go_wp2_with fail
  refine (HD.out _).mono ?_; rintro e X2 ⟨rfl, hx⟩
  have HX2 := Go.Lib.hid hx
  clear hx
  go_wp2_with fail
  go_ret
  exact ⟨rfl, H0.out.trans (HX2.out.mono H0.out.size)⟩

theorem Check_any (r : Rc.RR) (w : World) (hr : RROk r) : Calls Tryd.prog 13 #[rrV r] w fun e w' => e = .returned (.bool (checkB r)) ∧ Below w.heap.size w w' := by
  obtain ⟨rn, ty, cl, tl, rd⟩ := r
  obtain ⟨h1, h2⟩ := hr
  simp only at h1 h2
  have hv := fun (b : Bool) (h : Nm.valid rn = b) => Go.Lib.hid fun (W : World) => (valid_any (mk rn) W (by rw [size_mk]; exact h1)).mono fun e w' hh => (⟨hh.1.trans (by rw [bl_mk, h]), hh.2⟩ : e = .returned (.bool b) ∧ W = w')
  have hw := fun (n lo hi : Int) (b : Bool) (h : decide (lo ≤ n ∧ n ≤ hi) = b) => Go.Lib.hid fun (W : World) => (within_any n lo hi W).mono fun e w' hh => (⟨hh.1.trans (by rw [h]), hh.2⟩ : e = .returned (.bool b) ∧ W = w')
  have hd := Go.Lib.hid fun (W : World) => Data_any ty (mk rd) W (by rw [size_mk]; exact h2)
  rw [bl_mk] at hd
  have hc : checkB ⟨rn, ty, cl, tl, rd⟩ = (Nm.valid rn && decide (1 ≤ ty ∧ ty ≤ 65535) && (ty != 41) && decide (0 ≤ cl ∧ cl ≤ 65535) && decide (0 ≤ tl ∧ tl ≤ 2147483647) && Rc.dataB ty rd) := rfl
  rw [hc]
  cases e1 : Nm.valid rn with
  | false => exact Check_a rn rd ty cl tl w (hv _ e1)
  | true =>
    cases e2 : decide (1 ≤ ty ∧ ty ≤ 65535) with
    | false => exact Check_b rn rd ty cl tl w (hv _ e1) (hw _ _ _ _ e2)
    | true =>
      cases e3 : (ty != 41) with
      | false => exact Check_c rn rd ty cl tl w (hv _ e1) (hw _ _ _ _ e2) e3
      | true =>
        cases e4 : decide (0 ≤ cl ∧ cl ≤ 65535) with
        | false => exact Check_d rn rd ty cl tl w (hv _ e1) (hw _ _ _ _ e2) (hw _ _ _ _ e4) e3
        | true =>
          cases e5 : decide (0 ≤ tl ∧ tl ≤ 2147483647) with
          | false => exact Check_e rn rd ty cl tl w (hv _ e1) (hw _ _ _ _ e2) (hw _ _ _ _ e4) (hw _ _ _ _ e5) e3
          | true => exact Check_f rn rd ty cl tl _ w (hv _ e1) (hw _ _ _ _ e2) (hw _ _ _ _ e4) (hw _ _ _ _ e5) hd e3
end Go.Proofs.YthfpijacemkbbaaDoor

