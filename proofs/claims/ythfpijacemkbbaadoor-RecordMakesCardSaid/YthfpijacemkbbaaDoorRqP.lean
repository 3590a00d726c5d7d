/- The contracts of the reference's MakeA, MakeName, MakeSOA. -/
import Derived.Test.YthfpijacemkbbaaDoorRqO
namespace Go.Proofs.YthfpijacemkbbaaDoor
open Go.RowKit
set_option linter.unusedVariables false

theorem madeM_true (r : Rc.RR) : madeM r true = madeN r := by unfold madeM madeN; simp
theorem madeM_false (r : Rc.RR) : madeM r false = rZ := by unfold madeM; simp
theorem makeA_ref (n : List UInt8) (ttl x : Int) : madeM ⟨n, 1, 1, ttl, four x⟩ (decide (0 ≤ x ∧ x ≤ 4294967295)) = makeAN n ttl x := by
  unfold makeAN
  by_cases h : 0 ≤ x ∧ x ≤ 4294967295
  · rw [decide_eq_true h, if_pos h, madeM_true]
  · rw [decide_eq_false h, if_neg h, madeM_false]
theorem makeS_ref (n : List UInt8) (ttl x y : Int) : madeM ⟨n, 6, 1, ttl, soaD n x y⟩ (Nm.valid n && (decide (0 ≤ x ∧ x ≤ 4294967295) && decide (0 ≤ y ∧ y ≤ 4294967295))) = makeSN n ttl x y := by
  unfold makeSN
  by_cases hx : 0 ≤ x ∧ x ≤ 4294967295
  · by_cases hy : 0 ≤ y ∧ y ≤ 4294967295
    · rw [decide_eq_true hx, decide_eq_true hy, if_pos ⟨hx, hy⟩]
      cases hv : Nm.valid n with
      | true => exact madeM_true _
      | false =>
        rw [show (false && (true && true)) = false from rfl, madeM_false]
        unfold madeN
        rw [if_neg]
        unfold checkB
        simp [hv]
    · rw [decide_eq_false hy, if_neg (fun h => hy h.2), Bool.and_false, Bool.and_false, madeM_false]
  · rw [decide_eq_false hx, if_neg (fun h => hx h.1), Bool.false_and, Bool.and_false, madeM_false]

set_option maxRecDepth 100000 in
set_option maxHeartbeats 8000000 in
theorem refMakeA_any (n : List UInt8) (ttl x : Int) (w : World) (hn : n.length ≤ maxLen) :
    Calls Tryd.prog 30 #[.string (mk n), .int .i64 ttl, .int .i64 x] w fun e w' => e = .returned (rrV (makeAN n ttl x)) ∧ Below w.heap.size w w' := by
  have hw := word_any x
  have hby := freshetref1_four_any x
  have hmd := fun W => refMade_any ⟨n, 1, 1, ttl, four x⟩ (decide (0 ≤ x ∧ x ≤ 4294967295)) W ⟨hn, by simp [four_length, maxLen]⟩
  rw [makeA_ref] at hmd
  have hone := one_rrC (makeAN n ttl x)
  have hZ := World.alloc_heap_new w (.cells (rrC rZ) 23)
  have hb0 : Below w.heap.size w (w.alloc (.cells (rrC rZ) 23)) := (Below.refl _ w).alloc (Nat.le_refl _) _
  simp only [rrV] at hmd
  generalize makeAN n ttl x = res at *
  generalize four x = l at *
  generalize decide (0 ≤ x ∧ x ≤ 4294967295) = b at *
  have HW := Go.Lib.hid hw
  have HMD := Go.Lib.hid hmd
  have HBY := Go.Lib.hid hby
  have HONE := Go.Lib.hid hone
  clear hw hmd hby hone
  go_enter Tryd.func30, Tryd.ntmps30
  go_wp2_with fail
  change Calls _ _ _ (w.alloc (.cells (rrC rZ) 23)) _
  generalize w.alloc (.cells (rrC rZ) 23) = X at *
  refine (HBY.out _).mono ?_; rintro e X1 ⟨rfl, hx1⟩
  have HX1 := Go.Lib.hid hx1
  have HZ := Go.Lib.hid hZ
  have HB0 := Go.Lib.hid hb0
  clear hx1 hZ hb0
  go_wp2_with fail
  refine (HW.out _).mono ?_; rintro e _ ⟨rfl, rfl⟩
  go_wp2_with fail
  refine (HMD.out _).mono ?_; rintro e X2 ⟨rfl, hx2⟩
  have hb := HB0.out.trans (((HX1.out).trans (hx2.mono HX1.out.size)).mono HB0.out.size)
  have hZ2 := heap_later (B := 0) HZ.out (HX1.out.trans (hx2.mono HX1.out.size))
  have HB := Go.Lib.hid hb
  have HZ2 := Go.Lib.hid hZ2
  clear hb hZ2
  clear hx2
  go_wp2_with (refine wpList_store_row rfl 23 (.tmp 6) (.tmp 14) rfl w.heap.size (rrC res) rfl rfl _ _ HZ2.out infoR5 rfl HONE.out ?_)
  refine ret_rr (r := res) rfl rfl rfl (setRow_heap X2 w.heap.size _ (rrC res) _ _ HZ2.out) ⟨rfl, below_setRow HB.out (Nat.le_refl _) _⟩
set_option maxRecDepth 100000 in
set_option maxHeartbeats 8000000 in
theorem refMakeName_any (n : List UInt8) (t ttl : Int) (to : List UInt8) (w : World) (hn : n.length ≤ maxLen) (ht : to.length ≤ maxLen) :
    Calls Tryd.prog 32 #[.string (mk n), .int .i64 t, .int .i64 ttl, .string (mk to)] w fun e w' => e = .returned (rrV (makeNN n t ttl to)) ∧ Below w.heap.size w w' := by
  have hmd := fun (b : Bool) W => refMade_any ⟨n, t, 1, ttl, to⟩ b W ⟨hn, ht⟩
  have hZ := World.alloc_heap_new w (.cells (rrC rZ) 23)
  have hb0 : Below w.heap.size w (w.alloc (.cells (rrC rZ) 23)) := (Below.refl _ w).alloc (Nat.le_refl _) _
  simp only [rrV] at hmd
  by_cases hx : t = 2 ∨ t = 5 ∨ t = 12
  · have hm : makeNN n t ttl to = madeN ⟨n, t, 1, ttl, to⟩ := if_pos hx
    have hmd := hmd true
    rw [madeM_true, ← hm] at hmd
    clear hm
    generalize makeNN n t ttl to = res at *
    have hone := one_rrC res
    have HMD := Go.Lib.hid hmd
    have HONE := Go.Lib.hid hone
    have HZ := Go.Lib.hid hZ
    have HB0 := Go.Lib.hid hb0
    clear hmd hone hZ hb0
    rcases hx with rfl | rfl | rfl
    all_goals
      go_enter Tryd.func32, Tryd.ntmps32
      go_wp2_with fail
      change Calls _ _ _ (w.alloc (.cells (rrC rZ) 23)) _
      generalize w.alloc (.cells (rrC rZ) 23) = X at *
      refine (HMD.out _).mono ?_; rintro e X2 ⟨rfl, hx2⟩
      have HB := Go.Lib.hid (HB0.out.trans (hx2.mono HB0.out.size))
      have HZ2 := Go.Lib.hid (heap_later (B := 0) HZ.out hx2)
      clear hx2
      go_wp2_with (refine wpList_store_row rfl 23 (.tmp 8) (.tmp 24) rfl w.heap.size (rrC res) rfl rfl _ _ HZ2.out infoR5 rfl HONE.out ?_)
      refine ret_rr (r := res) rfl rfl rfl (setRow_heap X2 w.heap.size _ (rrC res) _ _ HZ2.out) ⟨rfl, below_setRow HB.out (Nat.le_refl _) _⟩
  · have hm : makeNN n t ttl to = rZ := if_neg hx
    have hmd := hmd false
    rw [madeM_false, ← hm] at hmd
    clear hm
    have e1 : (t == 2) = false := by simp; omega
    have e2 : (t == 5) = false := by simp; omega
    have e3 : (t == 12) = false := by simp; omega
    generalize makeNN n t ttl to = res at *
    have hone := one_rrC res
    have HMD := Go.Lib.hid hmd
    have HONE := Go.Lib.hid hone
    have HZ := Go.Lib.hid hZ
    have HB0 := Go.Lib.hid hb0
    clear hmd hone hZ hb0
    clear hx
    go_enter Tryd.func32, Tryd.ntmps32
    go_wp2_with fail
    change Calls _ _ _ (w.alloc (.cells (rrC rZ) 23)) _
    generalize w.alloc (.cells (rrC rZ) 23) = X at *
    refine (HMD.out _).mono ?_; rintro e X2 ⟨rfl, hx2⟩
    have HB := Go.Lib.hid (HB0.out.trans (hx2.mono HB0.out.size))
    have HZ2 := Go.Lib.hid (heap_later (B := 0) HZ.out hx2)
    clear hx2
    go_wp2_with (refine wpList_store_row rfl 23 (.tmp 8) (.tmp 24) rfl w.heap.size (rrC res) rfl rfl _ _ HZ2.out infoR5 rfl HONE.out ?_)
    refine ret_rr (r := res) rfl rfl rfl (setRow_heap X2 w.heap.size _ (rrC res) _ _ HZ2.out) ⟨rfl, below_setRow HB.out (Nat.le_refl _) _⟩
set_option maxRecDepth 100000 in
set_option maxHeartbeats 8000000 in
theorem refMakeSOA_0 (n : List UInt8) (ttl x y : Int) (w : World) (hn : n.length ≤ 1000) (res : Rc.RR)
    (HV : Hid (∀ W, Calls Tryd.prog 35 #[.string (mk n)] W fun e w' => e = .returned (.bool true) ∧ Below W.heap.size W w'))
    (b : Int → Bool) (kx : true = true → b x = true) (ky : true = true → b y = true) (HW : Hid (∀ (z : Int) W, Calls Tryd.prog 58 #[.int .i64 z] W fun e w' => e = .returned (.bool (b z)) ∧ W = w'))
    (HMD : Hid (∀ W, Calls Tryd.prog 56 #[.agg #[.string (mk n), .int .i64 6, .int .i64 1, .int .i64 ttl, .string (mk (soaD n x y))], .bool (true && (true && true))] W fun e w' => e = .returned (rrV res) ∧ Below W.heap.size W w')) :
    Calls Tryd.prog 34 #[.string (mk n), .int .i64 ttl, .int .i64 x, .int .i64 y] w fun e w' => e = .returned (rrV res) ∧ Below w.heap.size w w' := by
  have kx' : true = true → b x = true := kx
  have ky' : true = true → b y = true := ky
  clear kx ky
  simp at kx' ky'
  have hbx := freshetref1_four_any x
  have hby := freshetref1_four_any y
  have hb1 := freshetref1_four_any 1
  have hb2 := freshetref1_four_any 2
  have hb3 := freshetref1_four_any 3
  have hZ := World.alloc_heap_new w (.cells (rrC rZ) 23)
  have hb0 : Below w.heap.size w (w.alloc (.cells (rrC rZ) 23)) := (Below.refl _ w).alloc (Nat.le_refl _) _
  have hone := one_rrC res
  have s1 : mk n ++ ⟨#[0]⟩ = mk (n ++ [0]) := mk_app n [0]
  have s2 : mk (n ++ [0]) ++ mk (four x) = mk (n ++ [0] ++ four x) := mk_app _ _
  have s3 : mk (n ++ [0] ++ four x) ++ mk (four 1) = mk (n ++ [0] ++ four x ++ four 1) := mk_app _ _
  have s4 : mk (n ++ [0] ++ four x ++ four 1) ++ mk (four 2) = mk (n ++ [0] ++ four x ++ four 1 ++ four 2) := mk_app _ _
  have s5 : mk (n ++ [0] ++ four x ++ four 1 ++ four 2) ++ mk (four 3) = mk (n ++ [0] ++ four x ++ four 1 ++ four 2 ++ four 3) := mk_app _ _
  have s6 : mk (n ++ [0] ++ four x ++ four 1 ++ four 2 ++ four 3) ++ mk (four y) = mk (soaD n x y) := by rw [mk_app]; unfold soaD; simp
  have z0 : (mk n).size = n.length := size_mk _
  have z1 : (mk (n ++ [0])).size = n.length + 1 := by rw [size_mk]; simp
  have z2 : (mk (n ++ [0] ++ four x)).size = n.length + 5 := by rw [size_mk]; simp [four_length]
  have z3 : (mk (n ++ [0] ++ four x ++ four 1)).size = n.length + 9 := by rw [size_mk]; simp [four_length]
  have z4 : (mk (n ++ [0] ++ four x ++ four 1 ++ four 2)).size = n.length + 13 := by rw [size_mk]; simp [four_length]
  have z5 : (mk (n ++ [0] ++ four x ++ four 1 ++ four 2 ++ four 3)).size = n.length + 17 := by rw [size_mk]; simp [four_length]
  have y1 : (mk (four x)).size = 4 := by rw [size_mk]; rfl
  have y2 : (mk (four 1)).size = 4 := by rw [size_mk]; rfl
  have y3 : (mk (four 2)).size = 4 := by rw [size_mk]; rfl
  have y4 : (mk (four 3)).size = 4 := by rw [size_mk]; rfl
  have y5 : (mk (four y)).size = 4 := by rw [size_mk]; rfl
  generalize mk (soaD n x y) = d6 at *
  generalize mk (n ++ [0] ++ four x ++ four 1 ++ four 2 ++ four 3) = d5 at *
  generalize mk (n ++ [0] ++ four x ++ four 1 ++ four 2) = d4 at *
  generalize mk (n ++ [0] ++ four x ++ four 1) = d3 at *
  generalize mk (n ++ [0] ++ four x) = d2 at *
  generalize mk (n ++ [0]) = d1 at *
  generalize mk (four x) = fx at *
  generalize mk (four y) = fy at *
  generalize mk (four 1) = f1 at *
  generalize mk (four 2) = f2 at *
  generalize mk (four 3) = f3 at *
  generalize mk n = sn at *
  generalize n.length = N at *
  have q0 : ¬ 9223372036854775807 < N + 1 := by omega
  have q1 : ¬ 9223372036854775807 < N + 1 + 4 := by omega
  have q2 : ¬ 9223372036854775807 < N + 5 + 4 := by omega
  have q3 : ¬ 9223372036854775807 < N + 9 + 4 := by omega
  have q4 : ¬ 9223372036854775807 < N + 13 + 4 := by omega
  have q5 : ¬ 9223372036854775807 < N + 17 + 4 := by omega
  have HBX := Go.Lib.hid hbx
  have HBY := Go.Lib.hid hby
  have HB1 := Go.Lib.hid hb1
  have HB2 := Go.Lib.hid hb2
  have HB3 := Go.Lib.hid hb3
  have HONE := Go.Lib.hid hone
  clear hbx hby hb1 hb2 hb3 hone
  go_enter Tryd.func34, Tryd.ntmps34
  go_wp2_with fail
  change Calls _ _ _ (w.alloc (.cells (rrC rZ) 23)) _
  generalize w.alloc (.cells (rrC rZ) 23) = X at *
  have HB := Go.Lib.hid (Below.refl X.heap.size X)
  have HZ := Go.Lib.hid hZ
  have HB0 := Go.Lib.hid hb0
  clear hZ hb0
  go_wp2_with fail
  refine (HBX.out _).mono ?_; rintro e wb1 ⟨rfl, hx⟩
  have hb := HB.out.trans (hx.mono HB.out.size)
  clear HB
  have HB := Go.Lib.hid hb
  clear hx hb
  go_wp2_with fail
  refine (HB1.out _).mono ?_; rintro e wb2 ⟨rfl, hx⟩
  have hb := HB.out.trans (hx.mono HB.out.size)
  clear HB
  have HB := Go.Lib.hid hb
  clear hx hb
  go_wp2_with fail
  refine (HB2.out _).mono ?_; rintro e wb3 ⟨rfl, hx⟩
  have hb := HB.out.trans (hx.mono HB.out.size)
  clear HB
  have HB := Go.Lib.hid hb
  clear hx hb
  go_wp2_with fail
  refine (HB3.out _).mono ?_; rintro e wb4 ⟨rfl, hx⟩
  have hb := HB.out.trans (hx.mono HB.out.size)
  clear HB
  have HB := Go.Lib.hid hb
  clear hx hb
  go_wp2_with fail
  refine (HBY.out _).mono ?_; rintro e wb5 ⟨rfl, hx⟩
  have hb := HB.out.trans (hx.mono HB.out.size)
  clear HB
  have HB := Go.Lib.hid hb
  clear hx hb
  go_wp2_with fail
  refine (HV.out _).mono ?_; rintro e wb6 ⟨rfl, hx⟩
  have hb := HB.out.trans (hx.mono HB.out.size)
  clear HB
  have HB := Go.Lib.hid hb
  clear hx hb
  repeat (go_wp2_with fail; go_at_call 58; refine (HW.out _ _).mono ?_; rintro e _ ⟨rfl, rfl⟩)
  go_wp2_with fail
  refine (HMD.out _).mono ?_; rintro e X2 ⟨rfl, hx2⟩
  have hbx := HB.out.trans (hx2.mono HB.out.size)
  have hb := HB0.out.trans (hbx.mono HB0.out.size)
  have hZ2 := heap_later (B := 0) HZ.out hbx
  clear HB
  have HB := Go.Lib.hid hb
  have HZ2 := Go.Lib.hid hZ2
  clear hb hZ2
  clear hx2 hbx
  go_wp2_with (refine wpList_store_row rfl 23 (.tmp 8) (.tmp 36) rfl w.heap.size (rrC res) rfl rfl _ _ HZ2.out infoR5 rfl HONE.out ?_)
  refine ret_rr (r := res) rfl rfl rfl (setRow_heap X2 w.heap.size _ (rrC res) _ _ HZ2.out) ⟨rfl, below_setRow HB.out (Nat.le_refl _) _⟩
set_option maxRecDepth 100000 in
set_option maxHeartbeats 8000000 in
theorem refMakeSOA_1 (n : List UInt8) (ttl x y : Int) (w : World) (hn : n.length ≤ 1000) (res : Rc.RR)
    (HV : Hid (∀ W, Calls Tryd.prog 35 #[.string (mk n)] W fun e w' => e = .returned (.bool true) ∧ Below W.heap.size W w'))
    (b : Int → Bool) (kx : true = true → b x = true) (ky : true = true → b y = false) (HW : Hid (∀ (z : Int) W, Calls Tryd.prog 58 #[.int .i64 z] W fun e w' => e = .returned (.bool (b z)) ∧ W = w'))
    (HMD : Hid (∀ W, Calls Tryd.prog 56 #[.agg #[.string (mk n), .int .i64 6, .int .i64 1, .int .i64 ttl, .string (mk (soaD n x y))], .bool (true && (true && false))] W fun e w' => e = .returned (rrV res) ∧ Below W.heap.size W w')) :
    Calls Tryd.prog 34 #[.string (mk n), .int .i64 ttl, .int .i64 x, .int .i64 y] w fun e w' => e = .returned (rrV res) ∧ Below w.heap.size w w' := by
  have kx' : true = true → b x = true := kx
  have ky' : true = true → b y = false := ky
  clear kx ky
  simp at kx' ky'
  have hbx := freshetref1_four_any x
  have hby := freshetref1_four_any y
  have hb1 := freshetref1_four_any 1
  have hb2 := freshetref1_four_any 2
  have hb3 := freshetref1_four_any 3
  have hZ := World.alloc_heap_new w (.cells (rrC rZ) 23)
  have hb0 : Below w.heap.size w (w.alloc (.cells (rrC rZ) 23)) := (Below.refl _ w).alloc (Nat.le_refl _) _
  have hone := one_rrC res
  have s1 : mk n ++ ⟨#[0]⟩ = mk (n ++ [0]) := mk_app n [0]
  have s2 : mk (n ++ [0]) ++ mk (four x) = mk (n ++ [0] ++ four x) := mk_app _ _
  have s3 : mk (n ++ [0] ++ four x) ++ mk (four 1) = mk (n ++ [0] ++ four x ++ four 1) := mk_app _ _
  have s4 : mk (n ++ [0] ++ four x ++ four 1) ++ mk (four 2) = mk (n ++ [0] ++ four x ++ four 1 ++ four 2) := mk_app _ _
  have s5 : mk (n ++ [0] ++ four x ++ four 1 ++ four 2) ++ mk (four 3) = mk (n ++ [0] ++ four x ++ four 1 ++ four 2 ++ four 3) := mk_app _ _
  have s6 : mk (n ++ [0] ++ four x ++ four 1 ++ four 2 ++ four 3) ++ mk (four y) = mk (soaD n x y) := by rw [mk_app]; unfold soaD; simp
  have z0 : (mk n).size = n.length := size_mk _
  have z1 : (mk (n ++ [0])).size = n.length + 1 := by rw [size_mk]; simp
  have z2 : (mk (n ++ [0] ++ four x)).size = n.length + 5 := by rw [size_mk]; simp [four_length]
  have z3 : (mk (n ++ [0] ++ four x ++ four 1)).size = n.length + 9 := by rw [size_mk]; simp [four_length]
  have z4 : (mk (n ++ [0] ++ four x ++ four 1 ++ four 2)).size = n.length + 13 := by rw [size_mk]; simp [four_length]
  have z5 : (mk (n ++ [0] ++ four x ++ four 1 ++ four 2 ++ four 3)).size = n.length + 17 := by rw [size_mk]; simp [four_length]
  have y1 : (mk (four x)).size = 4 := by rw [size_mk]; rfl
  have y2 : (mk (four 1)).size = 4 := by rw [size_mk]; rfl
  have y3 : (mk (four 2)).size = 4 := by rw [size_mk]; rfl
  have y4 : (mk (four 3)).size = 4 := by rw [size_mk]; rfl
  have y5 : (mk (four y)).size = 4 := by rw [size_mk]; rfl
  generalize mk (soaD n x y) = d6 at *
  generalize mk (n ++ [0] ++ four x ++ four 1 ++ four 2 ++ four 3) = d5 at *
  generalize mk (n ++ [0] ++ four x ++ four 1 ++ four 2) = d4 at *
  generalize mk (n ++ [0] ++ four x ++ four 1) = d3 at *
  generalize mk (n ++ [0] ++ four x) = d2 at *
  generalize mk (n ++ [0]) = d1 at *
  generalize mk (four x) = fx at *
  generalize mk (four y) = fy at *
  generalize mk (four 1) = f1 at *
  generalize mk (four 2) = f2 at *
  generalize mk (four 3) = f3 at *
  generalize mk n = sn at *
  generalize n.length = N at *
  have q0 : ¬ 9223372036854775807 < N + 1 := by omega
  have q1 : ¬ 9223372036854775807 < N + 1 + 4 := by omega
  have q2 : ¬ 9223372036854775807 < N + 5 + 4 := by omega
  have q3 : ¬ 9223372036854775807 < N + 9 + 4 := by omega
  have q4 : ¬ 9223372036854775807 < N + 13 + 4 := by omega
  have q5 : ¬ 9223372036854775807 < N + 17 + 4 := by omega
  have HBX := Go.Lib.hid hbx
  have HBY := Go.Lib.hid hby
  have HB1 := Go.Lib.hid hb1
  have HB2 := Go.Lib.hid hb2
  have HB3 := Go.Lib.hid hb3
  have HONE := Go.Lib.hid hone
  clear hbx hby hb1 hb2 hb3 hone
  go_enter Tryd.func34, Tryd.ntmps34
  go_wp2_with fail
  change Calls _ _ _ (w.alloc (.cells (rrC rZ) 23)) _
  generalize w.alloc (.cells (rrC rZ) 23) = X at *
  have HB := Go.Lib.hid (Below.refl X.heap.size X)
  have HZ := Go.Lib.hid hZ
  have HB0 := Go.Lib.hid hb0
  clear hZ hb0
  go_wp2_with fail
  refine (HBX.out _).mono ?_; rintro e wb7 ⟨rfl, hx⟩
  have hb := HB.out.trans (hx.mono HB.out.size)
  clear HB
  have HB := Go.Lib.hid hb
  clear hx hb
  go_wp2_with fail
  refine (HB1.out _).mono ?_; rintro e wb8 ⟨rfl, hx⟩
  have hb := HB.out.trans (hx.mono HB.out.size)
  clear HB
  have HB := Go.Lib.hid hb
  clear hx hb
  go_wp2_with fail
  refine (HB2.out _).mono ?_; rintro e wb9 ⟨rfl, hx⟩
  have hb := HB.out.trans (hx.mono HB.out.size)
  clear HB
  have HB := Go.Lib.hid hb
  clear hx hb
  go_wp2_with fail
  refine (HB3.out _).mono ?_; rintro e wb10 ⟨rfl, hx⟩
  have hb := HB.out.trans (hx.mono HB.out.size)
  clear HB
  have HB := Go.Lib.hid hb
  clear hx hb
  go_wp2_with fail
  refine (HBY.out _).mono ?_; rintro e wb11 ⟨rfl, hx⟩
  have hb := HB.out.trans (hx.mono HB.out.size)
  clear HB
  have HB := Go.Lib.hid hb
  clear hx hb
  go_wp2_with fail
  refine (HV.out _).mono ?_; rintro e wb12 ⟨rfl, hx⟩
  have hb := HB.out.trans (hx.mono HB.out.size)
  clear HB
  have HB := Go.Lib.hid hb
  clear hx hb
  repeat (go_wp2_with fail; go_at_call 58; refine (HW.out _ _).mono ?_; rintro e _ ⟨rfl, rfl⟩)
  go_wp2_with fail
  refine (HMD.out _).mono ?_; rintro e X2 ⟨rfl, hx2⟩
  have hbx := HB.out.trans (hx2.mono HB.out.size)
  have hb := HB0.out.trans (hbx.mono HB0.out.size)
  have hZ2 := heap_later (B := 0) HZ.out hbx
  clear HB
  have HB := Go.Lib.hid hb
  have HZ2 := Go.Lib.hid hZ2
  clear hb hZ2
  clear hx2 hbx
  go_wp2_with (refine wpList_store_row rfl 23 (.tmp 8) (.tmp 36) rfl w.heap.size (rrC res) rfl rfl _ _ HZ2.out infoR5 rfl HONE.out ?_)
  refine ret_rr (r := res) rfl rfl rfl (setRow_heap X2 w.heap.size _ (rrC res) _ _ HZ2.out) ⟨rfl, below_setRow HB.out (Nat.le_refl _) _⟩
set_option maxRecDepth 100000 in
set_option maxHeartbeats 8000000 in
theorem refMakeSOA_2 (n : List UInt8) (ttl x y : Int) (w : World) (hn : n.length ≤ 1000) (res : Rc.RR)
    (HV : Hid (∀ W, Calls Tryd.prog 35 #[.string (mk n)] W fun e w' => e = .returned (.bool true) ∧ Below W.heap.size W w'))
    (b : Int → Bool) (kx : true = true → b x = false) (ky : true = true → b y = true) (HW : Hid (∀ (z : Int) W, Calls Tryd.prog 58 #[.int .i64 z] W fun e w' => e = .returned (.bool (b z)) ∧ W = w'))
    (HMD : Hid (∀ W, Calls Tryd.prog 56 #[.agg #[.string (mk n), .int .i64 6, .int .i64 1, .int .i64 ttl, .string (mk (soaD n x y))], .bool (true && (false && true))] W fun e w' => e = .returned (rrV res) ∧ Below W.heap.size W w')) :
    Calls Tryd.prog 34 #[.string (mk n), .int .i64 ttl, .int .i64 x, .int .i64 y] w fun e w' => e = .returned (rrV res) ∧ Below w.heap.size w w' := by
  have kx' : true = true → b x = false := kx
  have ky' : true = true → b y = true := ky
  clear kx ky
  simp at kx' ky'
  have hbx := freshetref1_four_any x
  have hby := freshetref1_four_any y
  have hb1 := freshetref1_four_any 1
  have hb2 := freshetref1_four_any 2
  have hb3 := freshetref1_four_any 3
  have hZ := World.alloc_heap_new w (.cells (rrC rZ) 23)
  have hb0 : Below w.heap.size w (w.alloc (.cells (rrC rZ) 23)) := (Below.refl _ w).alloc (Nat.le_refl _) _
  have hone := one_rrC res
  have s1 : mk n ++ ⟨#[0]⟩ = mk (n ++ [0]) := mk_app n [0]
  have s2 : mk (n ++ [0]) ++ mk (four x) = mk (n ++ [0] ++ four x) := mk_app _ _
  have s3 : mk (n ++ [0] ++ four x) ++ mk (four 1) = mk (n ++ [0] ++ four x ++ four 1) := mk_app _ _
  have s4 : mk (n ++ [0] ++ four x ++ four 1) ++ mk (four 2) = mk (n ++ [0] ++ four x ++ four 1 ++ four 2) := mk_app _ _
  have s5 : mk (n ++ [0] ++ four x ++ four 1 ++ four 2) ++ mk (four 3) = mk (n ++ [0] ++ four x ++ four 1 ++ four 2 ++ four 3) := mk_app _ _
  have s6 : mk (n ++ [0] ++ four x ++ four 1 ++ four 2 ++ four 3) ++ mk (four y) = mk (soaD n x y) := by rw [mk_app]; unfold soaD; simp
  have z0 : (mk n).size = n.length := size_mk _
  have z1 : (mk (n ++ [0])).size = n.length + 1 := by rw [size_mk]; simp
  have z2 : (mk (n ++ [0] ++ four x)).size = n.length + 5 := by rw [size_mk]; simp [four_length]
  have z3 : (mk (n ++ [0] ++ four x ++ four 1)).size = n.length + 9 := by rw [size_mk]; simp [four_length]
  have z4 : (mk (n ++ [0] ++ four x ++ four 1 ++ four 2)).size = n.length + 13 := by rw [size_mk]; simp [four_length]
  have z5 : (mk (n ++ [0] ++ four x ++ four 1 ++ four 2 ++ four 3)).size = n.length + 17 := by rw [size_mk]; simp [four_length]
  have y1 : (mk (four x)).size = 4 := by rw [size_mk]; rfl
  have y2 : (mk (four 1)).size = 4 := by rw [size_mk]; rfl
  have y3 : (mk (four 2)).size = 4 := by rw [size_mk]; rfl
  have y4 : (mk (four 3)).size = 4 := by rw [size_mk]; rfl
  have y5 : (mk (four y)).size = 4 := by rw [size_mk]; rfl
  generalize mk (soaD n x y) = d6 at *
  generalize mk (n ++ [0] ++ four x ++ four 1 ++ four 2 ++ four 3) = d5 at *
  generalize mk (n ++ [0] ++ four x ++ four 1 ++ four 2) = d4 at *
  generalize mk (n ++ [0] ++ four x ++ four 1) = d3 at *
  generalize mk (n ++ [0] ++ four x) = d2 at *
  generalize mk (n ++ [0]) = d1 at *
  generalize mk (four x) = fx at *
  generalize mk (four y) = fy at *
  generalize mk (four 1) = f1 at *
  generalize mk (four 2) = f2 at *
  generalize mk (four 3) = f3 at *
  generalize mk n = sn at *
  generalize n.length = N at *
  have q0 : ¬ 9223372036854775807 < N + 1 := by omega
  have q1 : ¬ 9223372036854775807 < N + 1 + 4 := by omega
  have q2 : ¬ 9223372036854775807 < N + 5 + 4 := by omega
  have q3 : ¬ 9223372036854775807 < N + 9 + 4 := by omega
  have q4 : ¬ 9223372036854775807 < N + 13 + 4 := by omega
  have q5 : ¬ 9223372036854775807 < N + 17 + 4 := by omega
  have HBX := Go.Lib.hid hbx
  have HBY := Go.Lib.hid hby
  have HB1 := Go.Lib.hid hb1
  have HB2 := Go.Lib.hid hb2
  have HB3 := Go.Lib.hid hb3
  have HONE := Go.Lib.hid hone
  clear hbx hby hb1 hb2 hb3 hone
  go_enter Tryd.func34, Tryd.ntmps34
  go_wp2_with fail
  change Calls _ _ _ (w.alloc (.cells (rrC rZ) 23)) _
  generalize w.alloc (.cells (rrC rZ) 23) = X at *
  have HB := Go.Lib.hid (Below.refl X.heap.size X)
  have HZ := Go.Lib.hid hZ
  have HB0 := Go.Lib.hid hb0
  clear hZ hb0
  go_wp2_with fail
  refine (HBX.out _).mono ?_; rintro e wb13 ⟨rfl, hx⟩
  have hb := HB.out.trans (hx.mono HB.out.size)
  clear HB
  have HB := Go.Lib.hid hb
  clear hx hb
  go_wp2_with fail
  refine (HB1.out _).mono ?_; rintro e wb14 ⟨rfl, hx⟩
  have hb := HB.out.trans (hx.mono HB.out.size)
  clear HB
  have HB := Go.Lib.hid hb
  clear hx hb
  go_wp2_with fail
  refine (HB2.out _).mono ?_; rintro e wb15 ⟨rfl, hx⟩
  have hb := HB.out.trans (hx.mono HB.out.size)
  clear HB
  have HB := Go.Lib.hid hb
  clear hx hb
  go_wp2_with fail
  refine (HB3.out _).mono ?_; rintro e wb16 ⟨rfl, hx⟩
  have hb := HB.out.trans (hx.mono HB.out.size)
  clear HB
  have HB := Go.Lib.hid hb
  clear hx hb
  go_wp2_with fail
  refine (HBY.out _).mono ?_; rintro e wb17 ⟨rfl, hx⟩
  have hb := HB.out.trans (hx.mono HB.out.size)
  clear HB
  have HB := Go.Lib.hid hb
  clear hx hb
  go_wp2_with fail
  refine (HV.out _).mono ?_; rintro e wb18 ⟨rfl, hx⟩
  have hb := HB.out.trans (hx.mono HB.out.size)
  clear HB
  have HB := Go.Lib.hid hb
  clear hx hb
  repeat (go_wp2_with fail; go_at_call 58; refine (HW.out _ _).mono ?_; rintro e _ ⟨rfl, rfl⟩)
  go_wp2_with fail
  refine (HMD.out _).mono ?_; rintro e X2 ⟨rfl, hx2⟩
  have hbx := HB.out.trans (hx2.mono HB.out.size)
  have hb := HB0.out.trans (hbx.mono HB0.out.size)
  have hZ2 := heap_later (B := 0) HZ.out hbx
  clear HB
  have HB := Go.Lib.hid hb
  have HZ2 := Go.Lib.hid hZ2
  clear hb hZ2
  clear hx2 hbx
  go_wp2_with (refine wpList_store_row rfl 23 (.tmp 8) (.tmp 36) rfl w.heap.size (rrC res) rfl rfl _ _ HZ2.out infoR5 rfl HONE.out ?_)
  refine ret_rr (r := res) rfl rfl rfl (setRow_heap X2 w.heap.size _ (rrC res) _ _ HZ2.out) ⟨rfl, below_setRow HB.out (Nat.le_refl _) _⟩
set_option maxRecDepth 100000 in
set_option maxHeartbeats 8000000 in
theorem refMakeSOA_3 (n : List UInt8) (ttl x y : Int) (w : World) (hn : n.length ≤ 1000) (res : Rc.RR)
    (HV : Hid (∀ W, Calls Tryd.prog 35 #[.string (mk n)] W fun e w' => e = .returned (.bool false) ∧ Below W.heap.size W w'))
    (b : Int → Bool) (kx : false = true → b x = true) (ky : false = true → b y = true) (HW : Hid (∀ (z : Int) W, Calls Tryd.prog 58 #[.int .i64 z] W fun e w' => e = .returned (.bool (b z)) ∧ W = w'))
    (HMD : Hid (∀ W, Calls Tryd.prog 56 #[.agg #[.string (mk n), .int .i64 6, .int .i64 1, .int .i64 ttl, .string (mk (soaD n x y))], .bool (false && (true && true))] W fun e w' => e = .returned (rrV res) ∧ Below W.heap.size W w')) :
    Calls Tryd.prog 34 #[.string (mk n), .int .i64 ttl, .int .i64 x, .int .i64 y] w fun e w' => e = .returned (rrV res) ∧ Below w.heap.size w w' := by
  have kx' : false = true → b x = true := kx
  have ky' : false = true → b y = true := ky
  clear kx ky
  simp at kx' ky'
  have hbx := freshetref1_four_any x
  have hby := freshetref1_four_any y
  have hb1 := freshetref1_four_any 1
  have hb2 := freshetref1_four_any 2
  have hb3 := freshetref1_four_any 3
  have hZ := World.alloc_heap_new w (.cells (rrC rZ) 23)
  have hb0 : Below w.heap.size w (w.alloc (.cells (rrC rZ) 23)) := (Below.refl _ w).alloc (Nat.le_refl _) _
  have hone := one_rrC res
  have s1 : mk n ++ ⟨#[0]⟩ = mk (n ++ [0]) := mk_app n [0]
  have s2 : mk (n ++ [0]) ++ mk (four x) = mk (n ++ [0] ++ four x) := mk_app _ _
  have s3 : mk (n ++ [0] ++ four x) ++ mk (four 1) = mk (n ++ [0] ++ four x ++ four 1) := mk_app _ _
  have s4 : mk (n ++ [0] ++ four x ++ four 1) ++ mk (four 2) = mk (n ++ [0] ++ four x ++ four 1 ++ four 2) := mk_app _ _
  have s5 : mk (n ++ [0] ++ four x ++ four 1 ++ four 2) ++ mk (four 3) = mk (n ++ [0] ++ four x ++ four 1 ++ four 2 ++ four 3) := mk_app _ _
  have s6 : mk (n ++ [0] ++ four x ++ four 1 ++ four 2 ++ four 3) ++ mk (four y) = mk (soaD n x y) := by rw [mk_app]; unfold soaD; simp
  have z0 : (mk n).size = n.length := size_mk _
  have z1 : (mk (n ++ [0])).size = n.length + 1 := by rw [size_mk]; simp
  have z2 : (mk (n ++ [0] ++ four x)).size = n.length + 5 := by rw [size_mk]; simp [four_length]
  have z3 : (mk (n ++ [0] ++ four x ++ four 1)).size = n.length + 9 := by rw [size_mk]; simp [four_length]
  have z4 : (mk (n ++ [0] ++ four x ++ four 1 ++ four 2)).size = n.length + 13 := by rw [size_mk]; simp [four_length]
  have z5 : (mk (n ++ [0] ++ four x ++ four 1 ++ four 2 ++ four 3)).size = n.length + 17 := by rw [size_mk]; simp [four_length]
  have y1 : (mk (four x)).size = 4 := by rw [size_mk]; rfl
  have y2 : (mk (four 1)).size = 4 := by rw [size_mk]; rfl
  have y3 : (mk (four 2)).size = 4 := by rw [size_mk]; rfl
  have y4 : (mk (four 3)).size = 4 := by rw [size_mk]; rfl
  have y5 : (mk (four y)).size = 4 := by rw [size_mk]; rfl
  generalize mk (soaD n x y) = d6 at *
  generalize mk (n ++ [0] ++ four x ++ four 1 ++ four 2 ++ four 3) = d5 at *
  generalize mk (n ++ [0] ++ four x ++ four 1 ++ four 2) = d4 at *
  generalize mk (n ++ [0] ++ four x ++ four 1) = d3 at *
  generalize mk (n ++ [0] ++ four x) = d2 at *
  generalize mk (n ++ [0]) = d1 at *
  generalize mk (four x) = fx at *
  generalize mk (four y) = fy at *
  generalize mk (four 1) = f1 at *
  generalize mk (four 2) = f2 at *
  generalize mk (four 3) = f3 at *
  generalize mk n = sn at *
  generalize n.length = N at *
  have q0 : ¬ 9223372036854775807 < N + 1 := by omega
  have q1 : ¬ 9223372036854775807 < N + 1 + 4 := by omega
  have q2 : ¬ 9223372036854775807 < N + 5 + 4 := by omega
  have q3 : ¬ 9223372036854775807 < N + 9 + 4 := by omega
  have q4 : ¬ 9223372036854775807 < N + 13 + 4 := by omega
  have q5 : ¬ 9223372036854775807 < N + 17 + 4 := by omega
  have HBX := Go.Lib.hid hbx
  have HBY := Go.Lib.hid hby
  have HB1 := Go.Lib.hid hb1
  have HB2 := Go.Lib.hid hb2
  have HB3 := Go.Lib.hid hb3
  have HONE := Go.Lib.hid hone
  clear hbx hby hb1 hb2 hb3 hone
  go_enter Tryd.func34, Tryd.ntmps34
  go_wp2_with fail
  change Calls _ _ _ (w.alloc (.cells (rrC rZ) 23)) _
  generalize w.alloc (.cells (rrC rZ) 23) = X at *
  have HB := Go.Lib.hid (Below.refl X.heap.size X)
  have HZ := Go.Lib.hid hZ
  have HB0 := Go.Lib.hid hb0
  clear hZ hb0
  go_wp2_with fail
  refine (HBX.out _).mono ?_; rintro e wb19 ⟨rfl, hx⟩
  have hb := HB.out.trans (hx.mono HB.out.size)
  clear HB
  have HB := Go.Lib.hid hb
  clear hx hb
  go_wp2_with fail
  refine (HB1.out _).mono ?_; rintro e wb20 ⟨rfl, hx⟩
  have hb := HB.out.trans (hx.mono HB.out.size)
  clear HB
  have HB := Go.Lib.hid hb
  clear hx hb
  go_wp2_with fail
  refine (HB2.out _).mono ?_; rintro e wb21 ⟨rfl, hx⟩
  have hb := HB.out.trans (hx.mono HB.out.size)
  clear HB
  have HB := Go.Lib.hid hb
  clear hx hb
  go_wp2_with fail
  refine (HB3.out _).mono ?_; rintro e wb22 ⟨rfl, hx⟩
  have hb := HB.out.trans (hx.mono HB.out.size)
  clear HB
  have HB := Go.Lib.hid hb
  clear hx hb
  go_wp2_with fail
  refine (HBY.out _).mono ?_; rintro e wb23 ⟨rfl, hx⟩
  have hb := HB.out.trans (hx.mono HB.out.size)
  clear HB
  have HB := Go.Lib.hid hb
  clear hx hb
  go_wp2_with fail
  refine (HV.out _).mono ?_; rintro e wb24 ⟨rfl, hx⟩
  have hb := HB.out.trans (hx.mono HB.out.size)
  clear HB
  have HB := Go.Lib.hid hb
  clear hx hb
  repeat (go_wp2_with fail; go_at_call 58; refine (HW.out _ _).mono ?_; rintro e _ ⟨rfl, rfl⟩)
  go_wp2_with fail
  refine (HMD.out _).mono ?_; rintro e X2 ⟨rfl, hx2⟩
  have hbx := HB.out.trans (hx2.mono HB.out.size)
  have hb := HB0.out.trans (hbx.mono HB0.out.size)
  have hZ2 := heap_later (B := 0) HZ.out hbx
  clear HB
  have HB := Go.Lib.hid hb
  have HZ2 := Go.Lib.hid hZ2
  clear hb hZ2
  clear hx2 hbx
  go_wp2_with (refine wpList_store_row rfl 23 (.tmp 8) (.tmp 36) rfl w.heap.size (rrC res) rfl rfl _ _ HZ2.out infoR5 rfl HONE.out ?_)
  refine ret_rr (r := res) rfl rfl rfl (setRow_heap X2 w.heap.size _ (rrC res) _ _ HZ2.out) ⟨rfl, below_setRow HB.out (Nat.le_refl _) _⟩
set_option maxRecDepth 100000 in
set_option maxHeartbeats 8000000 in
theorem refMakeSOA_4 (n : List UInt8) (ttl x y : Int) (w : World) (hn : n.length ≤ 1000) (res : Rc.RR)
    (HV : Hid (∀ W, Calls Tryd.prog 35 #[.string (mk n)] W fun e w' => e = .returned (.bool true) ∧ Below W.heap.size W w'))
    (b : Int → Bool) (kx : true = true → b x = false) (ky : true = true → b y = false) (HW : Hid (∀ (z : Int) W, Calls Tryd.prog 58 #[.int .i64 z] W fun e w' => e = .returned (.bool (b z)) ∧ W = w'))
    (HMD : Hid (∀ W, Calls Tryd.prog 56 #[.agg #[.string (mk n), .int .i64 6, .int .i64 1, .int .i64 ttl, .string (mk (soaD n x y))], .bool (true && (false && false))] W fun e w' => e = .returned (rrV res) ∧ Below W.heap.size W w')) :
    Calls Tryd.prog 34 #[.string (mk n), .int .i64 ttl, .int .i64 x, .int .i64 y] w fun e w' => e = .returned (rrV res) ∧ Below w.heap.size w w' := by
  have kx' : true = true → b x = false := kx
  have ky' : true = true → b y = false := ky
  clear kx ky
  simp at kx' ky'
  have hbx := freshetref1_four_any x
  have hby := freshetref1_four_any y
  have hb1 := freshetref1_four_any 1
  have hb2 := freshetref1_four_any 2
  have hb3 := freshetref1_four_any 3
  have hZ := World.alloc_heap_new w (.cells (rrC rZ) 23)
  have hb0 : Below w.heap.size w (w.alloc (.cells (rrC rZ) 23)) := (Below.refl _ w).alloc (Nat.le_refl _) _
  have hone := one_rrC res
  have s1 : mk n ++ ⟨#[0]⟩ = mk (n ++ [0]) := mk_app n [0]
  have s2 : mk (n ++ [0]) ++ mk (four x) = mk (n ++ [0] ++ four x) := mk_app _ _
  have s3 : mk (n ++ [0] ++ four x) ++ mk (four 1) = mk (n ++ [0] ++ four x ++ four 1) := mk_app _ _
  have s4 : mk (n ++ [0] ++ four x ++ four 1) ++ mk (four 2) = mk (n ++ [0] ++ four x ++ four 1 ++ four 2) := mk_app _ _
  have s5 : mk (n ++ [0] ++ four x ++ four 1 ++ four 2) ++ mk (four 3) = mk (n ++ [0] ++ four x ++ four 1 ++ four 2 ++ four 3) := mk_app _ _
  have s6 : mk (n ++ [0] ++ four x ++ four 1 ++ four 2 ++ four 3) ++ mk (four y) = mk (soaD n x y) := by rw [mk_app]; unfold soaD; simp
  have z0 : (mk n).size = n.length := size_mk _
  have z1 : (mk (n ++ [0])).size = n.length + 1 := by rw [size_mk]; simp
  have z2 : (mk (n ++ [0] ++ four x)).size = n.length + 5 := by rw [size_mk]; simp [four_length]
  have z3 : (mk (n ++ [0] ++ four x ++ four 1)).size = n.length + 9 := by rw [size_mk]; simp [four_length]
  have z4 : (mk (n ++ [0] ++ four x ++ four 1 ++ four 2)).size = n.length + 13 := by rw [size_mk]; simp [four_length]
  have z5 : (mk (n ++ [0] ++ four x ++ four 1 ++ four 2 ++ four 3)).size = n.length + 17 := by rw [size_mk]; simp [four_length]
  have y1 : (mk (four x)).size = 4 := by rw [size_mk]; rfl
  have y2 : (mk (four 1)).size = 4 := by rw [size_mk]; rfl
  have y3 : (mk (four 2)).size = 4 := by rw [size_mk]; rfl
  have y4 : (mk (four 3)).size = 4 := by rw [size_mk]; rfl
  have y5 : (mk (four y)).size = 4 := by rw [size_mk]; rfl
  generalize mk (soaD n x y) = d6 at *
  generalize mk (n ++ [0] ++ four x ++ four 1 ++ four 2 ++ four 3) = d5 at *
  generalize mk (n ++ [0] ++ four x ++ four 1 ++ four 2) = d4 at *
  generalize mk (n ++ [0] ++ four x ++ four 1) = d3 at *
  generalize mk (n ++ [0] ++ four x) = d2 at *
  generalize mk (n ++ [0]) = d1 at *
  generalize mk (four x) = fx at *
  generalize mk (four y) = fy at *
  generalize mk (four 1) = f1 at *
  generalize mk (four 2) = f2 at *
  generalize mk (four 3) = f3 at *
  generalize mk n = sn at *
  generalize n.length = N at *
  have q0 : ¬ 9223372036854775807 < N + 1 := by omega
  have q1 : ¬ 9223372036854775807 < N + 1 + 4 := by omega
  have q2 : ¬ 9223372036854775807 < N + 5 + 4 := by omega
  have q3 : ¬ 9223372036854775807 < N + 9 + 4 := by omega
  have q4 : ¬ 9223372036854775807 < N + 13 + 4 := by omega
  have q5 : ¬ 9223372036854775807 < N + 17 + 4 := by omega
  have HBX := Go.Lib.hid hbx
  have HBY := Go.Lib.hid hby
  have HB1 := Go.Lib.hid hb1
  have HB2 := Go.Lib.hid hb2
  have HB3 := Go.Lib.hid hb3
  have HONE := Go.Lib.hid hone
  clear hbx hby hb1 hb2 hb3 hone
  go_enter Tryd.func34, Tryd.ntmps34
  go_wp2_with fail
  change Calls _ _ _ (w.alloc (.cells (rrC rZ) 23)) _
  generalize w.alloc (.cells (rrC rZ) 23) = X at *
  have HB := Go.Lib.hid (Below.refl X.heap.size X)
  have HZ := Go.Lib.hid hZ
  have HB0 := Go.Lib.hid hb0
  clear hZ hb0
  go_wp2_with fail
  refine (HBX.out _).mono ?_; rintro e wb25 ⟨rfl, hx⟩
  have hb := HB.out.trans (hx.mono HB.out.size)
  clear HB
  have HB := Go.Lib.hid hb
  clear hx hb
  go_wp2_with fail
  refine (HB1.out _).mono ?_; rintro e wb26 ⟨rfl, hx⟩
  have hb := HB.out.trans (hx.mono HB.out.size)
  clear HB
  have HB := Go.Lib.hid hb
  clear hx hb
  go_wp2_with fail
  refine (HB2.out _).mono ?_; rintro e wb27 ⟨rfl, hx⟩
  have hb := HB.out.trans (hx.mono HB.out.size)
  clear HB
  have HB := Go.Lib.hid hb
  clear hx hb
  go_wp2_with fail
  refine (HB3.out _).mono ?_; rintro e wb28 ⟨rfl, hx⟩
  have hb := HB.out.trans (hx.mono HB.out.size)
  clear HB
  have HB := Go.Lib.hid hb
  clear hx hb
  go_wp2_with fail
  refine (HBY.out _).mono ?_; rintro e wb29 ⟨rfl, hx⟩
  have hb := HB.out.trans (hx.mono HB.out.size)
  clear HB
  have HB := Go.Lib.hid hb
  clear hx hb
  go_wp2_with fail
  refine (HV.out _).mono ?_; rintro e wb30 ⟨rfl, hx⟩
  have hb := HB.out.trans (hx.mono HB.out.size)
  clear HB
  have HB := Go.Lib.hid hb
  clear hx hb
  repeat (go_wp2_with fail; go_at_call 58; refine (HW.out _ _).mono ?_; rintro e _ ⟨rfl, rfl⟩)
  go_wp2_with fail
  refine (HMD.out _).mono ?_; rintro e X2 ⟨rfl, hx2⟩
  have hbx := HB.out.trans (hx2.mono HB.out.size)
  have hb := HB0.out.trans (hbx.mono HB0.out.size)
  have hZ2 := heap_later (B := 0) HZ.out hbx
  clear HB
  have HB := Go.Lib.hid hb
  have HZ2 := Go.Lib.hid hZ2
  clear hb hZ2
  clear hx2 hbx
  go_wp2_with (refine wpList_store_row rfl 23 (.tmp 8) (.tmp 36) rfl w.heap.size (rrC res) rfl rfl _ _ HZ2.out infoR5 rfl HONE.out ?_)
  refine ret_rr (r := res) rfl rfl rfl (setRow_heap X2 w.heap.size _ (rrC res) _ _ HZ2.out) ⟨rfl, below_setRow HB.out (Nat.le_refl _) _⟩
theorem refMakeSOA_any (n : List UInt8) (ttl x y : Int) (w : World) (hn : n.length ≤ 1000) :
    Calls Tryd.prog 34 #[.string (mk n), .int .i64 ttl, .int .i64 x, .int .i64 y] w fun e w' => e = .returned (rrV (makeSN n ttl x y)) ∧ Below w.heap.size w w' := by
  have hv := fun (b : Bool) (h : Nm.valid n = b) => Go.Lib.hid fun (W : World) => (by have k := refValid_any (mk n) W; rw [bl_mk, h] at k; exact k : Calls Tryd.prog 35 #[.string (mk n)] W fun e w' => e = .returned (.bool b) ∧ Below W.heap.size W w')
  have hw := Go.Lib.hid word_any
  have hmd := fun (b : Bool) (h : (Nm.valid n && (decide (0 ≤ x ∧ x ≤ 4294967295) && decide (0 ≤ y ∧ y ≤ 4294967295))) = b) => Go.Lib.hid fun (W : World) => (by
    have k := refMade_any ⟨n, 6, 1, ttl, soaD n x y⟩ b W ⟨show n.length ≤ maxLen by unfold maxLen; omega, by simp [soaD, four_length, maxLen]; omega⟩
    rw [← h, makeS_ref] at k
    rw [h] at k
    exact k : Calls Tryd.prog 56 #[.agg #[.string (mk n), .int .i64 6, .int .i64 1, .int .i64 ttl, .string (mk (soaD n x y))], .bool b] W fun e w' => e = .returned (rrV (makeSN n ttl x y)) ∧ Below W.heap.size W w')
  cases hvn : Nm.valid n with
  | false => exact refMakeSOA_3 n ttl x y w hn _ (hv _ hvn) _ (fun h => by cases h) (fun h => by cases h) hw (hmd _ (by rw [hvn]; rfl))
  | true =>
    by_cases hx : 0 ≤ x ∧ x ≤ 4294967295
    · by_cases hy : 0 ≤ y ∧ y ≤ 4294967295
      · exact refMakeSOA_0 n ttl x y w hn _ (hv _ hvn) _ (fun _ => decide_eq_true hx) (fun _ => decide_eq_true hy) hw (hmd _ (by rw [hvn, decide_eq_true hx, decide_eq_true hy]))
      · exact refMakeSOA_1 n ttl x y w hn _ (hv _ hvn) _ (fun _ => decide_eq_true hx) (fun _ => decide_eq_false hy) hw (hmd _ (by rw [hvn, decide_eq_true hx, decide_eq_false hy]))
    · by_cases hy : 0 ≤ y ∧ y ≤ 4294967295
      · exact refMakeSOA_2 n ttl x y w hn _ (hv _ hvn) _ (fun _ => decide_eq_false hx) (fun _ => decide_eq_true hy) hw (hmd _ (by rw [hvn, decide_eq_false hx, decide_eq_true hy]))
      · exact refMakeSOA_4 n ttl x y w hn _ (hv _ hvn) _ (fun _ => decide_eq_false hx) (fun _ => decide_eq_false hy) hw (hmd _ (by rw [hvn, decide_eq_false hx, decide_eq_false hy]))
end Go.Proofs.YthfpijacemkbbaaDoor

