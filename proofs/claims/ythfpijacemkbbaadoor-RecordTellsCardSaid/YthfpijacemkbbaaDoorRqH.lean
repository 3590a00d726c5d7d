/- The contract of record.MakeSOA. -/
import Derived.Test.YthfpijacemkbbaaDoorRqF
namespace Go.Proofs.YthfpijacemkbbaaDoor
open Go.RowKit
set_option linter.unusedVariables false

/-- a SOA's data -/
def soaD (n : List UInt8) (x y : Int) : List UInt8 := n ++ ([0] ++ (four x ++ (four 1 ++ (four 2 ++ (four 3 ++ four y)))))
def makeSN (n : List UInt8) (ttl x y : Int) : Rc.RR := if (0 ≤ x ∧ x ≤ 4294967295) ∧ 0 ≤ y ∧ y ≤ 4294967295 then madeN ⟨n, 6, 1, ttl, soaD n x y⟩ else rZ
theorem four_length (x : Int) : (four x).length = 4 := rfl
theorem mk_app (a b : List UInt8) : mk a ++ mk b = mk (a ++ b) := by apply bl_inj; rw [bl_append, bl_mk, bl_mk, bl_mk]
set_option maxRecDepth 100000 in
set_option maxHeartbeats 4000000 in
theorem MakeSOA_any (n : List UInt8) (ttl x y : Int) (w : World) (hn : n.length ≤ 1000) :
    Calls Tryd.prog 33 #[.string (mk n), .int .i64 ttl, .int .i64 x, .int .i64 y] w fun e w' => e = .returned (rrV (makeSN n ttl x y)) ∧ Below w.heap.size w w' := by
  have hwx := within_any x 0 4294967295
  have hwy := within_any y 0 4294967295
  have hmd := fun W => made_any n (soaD n x y) 6 ttl W (by unfold maxLen; omega) (by simp [soaD, four_length, maxLen]; omega)
  have hbx := record_bytes_any x
  have hby := record_bytes_any y
  have hb1 := record_bytes_any 1
  have hb2 := record_bytes_any 2
  have hb3 := record_bytes_any 3
  have hZ := World.alloc_heap_new w (.cells (rrC rZ) 23)
  have hb0 : Below w.heap.size w (w.alloc (.cells (rrC rZ) 23)) := (Below.refl _ w).alloc (Nat.le_refl _) _
  by_cases hx : 0 ≤ x ∧ x ≤ 4294967295
  · by_cases hy : 0 ≤ y ∧ y ≤ 4294967295
    · have hm : makeSN n ttl x y = madeN ⟨n, 6, 1, ttl, soaD n x y⟩ := if_pos ⟨hx, hy⟩
      rw [decide_eq_true hx] at hwx
      rw [decide_eq_true hy] at hwy
      have hone := one_rrC (madeN ⟨n, 6, 1, ttl, soaD n x y⟩)
      generalize madeN ⟨n, 6, 1, ttl, soaD n x y⟩ = res at *
      have s1 : mk n ++ ⟨#[0]⟩ = mk (n ++ [0]) := mk_app n [0]
      have s2 : mk (n ++ [0]) ++ mk (four x) = mk (n ++ [0] ++ four x) := mk_app _ _
      have s3 : mk (n ++ [0] ++ four x) ++ mk (four 1) = mk (n ++ [0] ++ four x ++ four 1) := mk_app _ _
      have s4 : mk (n ++ [0] ++ four x ++ four 1) ++ mk (four 2) = mk (n ++ [0] ++ four x ++ four 1 ++ four 2) := mk_app _ _
      have s5 : mk (n ++ [0] ++ four x ++ four 1 ++ four 2) ++ mk (four 3) = mk (n ++ [0] ++ four x ++ four 1 ++ four 2 ++ four 3) := mk_app _ _
      have s6 : mk (n ++ [0] ++ four x ++ four 1 ++ four 2 ++ four 3) ++ mk (four y) = mk (soaD n x y) := by rw [mk_app]; unfold soaD; simp
      have z0 : (mk n).size = n.length := size_mk _
      have z1 : (mk (n ++ [0])).size = n.length + 1 := by rw [size_mk]; simp
      have z2 : (mk (n ++ [0] ++ four x)).size = n.length + 5 := by rw [size_mk]; simp [four_length]
      have z3 : (mk (n ++ [0] ++ four x ++ four 1)).size = n.length + 9 := by rw [size_mk]; simp [four_length]
      have z4 : (mk (n ++ [0] ++ four x ++ four 1 ++ four 2)).size = n.length + 13 := by rw [size_mk]; simp [four_length]
      have z5 : (mk (n ++ [0] ++ four x ++ four 1 ++ four 2 ++ four 3)).size = n.length + 17 := by rw [size_mk]; simp [four_length]
      have y1 : (mk (four x)).size = 4 := by rw [size_mk]; rfl
      have y2 : (mk (four 1)).size = 4 := by rw [size_mk]; rfl
      have y3 : (mk (four 2)).size = 4 := by rw [size_mk]; rfl
      have y4 : (mk (four 3)).size = 4 := by rw [size_mk]; rfl
      have y5 : (mk (four y)).size = 4 := by rw [size_mk]; rfl
      generalize mk (soaD n x y) = d6 at *
      generalize mk (n ++ [0] ++ four x ++ four 1 ++ four 2 ++ four 3) = d5 at *
      generalize mk (n ++ [0] ++ four x ++ four 1 ++ four 2) = d4 at *
      generalize mk (n ++ [0] ++ four x ++ four 1) = d3 at *
      generalize mk (n ++ [0] ++ four x) = d2 at *
      generalize mk (n ++ [0]) = d1 at *
      generalize mk (four x) = fx at *
      generalize mk (four y) = fy at *
      generalize mk (four 1) = f1 at *
      generalize mk (four 2) = f2 at *
      generalize mk (four 3) = f3 at *
      generalize mk n = sn at *
      generalize n.length = N at *
      have q0 : ¬ 9223372036854775807 < N + 1 := by omega
      have q1 : ¬ 9223372036854775807 < N + 1 + 4 := by omega
      have q2 : ¬ 9223372036854775807 < N + 5 + 4 := by omega
      have q3 : ¬ 9223372036854775807 < N + 9 + 4 := by omega
      have q4 : ¬ 9223372036854775807 < N + 13 + 4 := by omega
      have q5 : ¬ 9223372036854775807 < N + 17 + 4 := by omega
      have HWX := Go.Lib.hid hwx
      have HWY := Go.Lib.hid hwy
      have HMD := Go.Lib.hid hmd
      have HBX := Go.Lib.hid hbx
      have HBY := Go.Lib.hid hby
      have HB1 := Go.Lib.hid hb1
      have HB2 := Go.Lib.hid hb2
      have HB3 := Go.Lib.hid hb3
      have HM := Go.Lib.hid hm
      have HONE := Go.Lib.hid hone
      clear hwx hwy hmd hbx hby hb1 hb2 hb3 hm hone
      clear hx hy
      go_enter Tryd.func33, Tryd.ntmps33
      go_wp2_with fail
      change Calls _ _ _ (w.alloc (.cells (rrC rZ) 23)) _
      generalize w.alloc (.cells (rrC rZ) 23) = X at *
      refine (HWX.out _).mono ?_; rintro e _ ⟨rfl, rfl⟩
      have HB := Go.Lib.hid (Below.refl X.heap.size X)
      have HZ := Go.Lib.hid hZ
      have HB0 := Go.Lib.hid hb0
      clear hZ hb0
      go_wp2_with fail
      refine (HWY.out _).mono ?_; rintro e _ ⟨rfl, rfl⟩
      go_wp2_with fail
      refine (HBX.out _).mono ?_; rintro e wb1 ⟨rfl, hx⟩
      have hb := HB.out.trans (hx.mono HB.out.size)
      clear HB
      have HB := Go.Lib.hid hb
      clear hx hb
      go_wp2_with fail
      refine (HB1.out _).mono ?_; rintro e wb2 ⟨rfl, hx⟩
      have hb := HB.out.trans (hx.mono HB.out.size)
      clear HB
      have HB := Go.Lib.hid hb
      clear hx hb
      go_wp2_with fail
      refine (HB2.out _).mono ?_; rintro e wb3 ⟨rfl, hx⟩
      have hb := HB.out.trans (hx.mono HB.out.size)
      clear HB
      have HB := Go.Lib.hid hb
      clear hx hb
      go_wp2_with fail
      refine (HB3.out _).mono ?_; rintro e wb4 ⟨rfl, hx⟩
      have hb := HB.out.trans (hx.mono HB.out.size)
      clear HB
      have HB := Go.Lib.hid hb
      clear hx hb
      go_wp2_with fail
      refine (HBY.out _).mono ?_; rintro e wb5 ⟨rfl, hx⟩
      have hb := HB.out.trans (hx.mono HB.out.size)
      clear HB
      have HB := Go.Lib.hid hb
      clear hx hb
      go_wp2_with fail
      refine (HMD.out _).mono ?_; rintro e X2 ⟨rfl, hx2⟩
      have hbx := HB.out.trans (hx2.mono HB.out.size)
      have hb := HB0.out.trans (hbx.mono HB0.out.size)
      have hZ2 := (hbx.block _ (Array.getElem?_eq_some_iff.1 HZ.out).1).trans HZ.out
      clear HB
      have HB := Go.Lib.hid hb
      have HZ2 := Go.Lib.hid hZ2
      clear hb hZ2
      clear hx2 hbx
      go_wp2_with (refine wpList_store_row rfl 23 (.tmp 8) (.tmp 34) rfl w.heap.size (rrC res) rfl rfl _ _ HZ2.out infoR5 rfl HONE.out ?_)
      refine ret_rr (r := res) rfl rfl rfl (setRow_heap X2 w.heap.size _ (rrC res) _ _ HZ2.out) ⟨by rw [HM.out], below_setRow HB.out (Nat.le_refl _) _⟩
    · have hm : makeSN n ttl x y = rZ := if_neg (fun h => hy h.2)
      rw [decide_eq_true hx] at hwx
      rw [decide_eq_false hy] at hwy
      have hone := one_rrC rZ
      have HWX := Go.Lib.hid hwx
      have HWY := Go.Lib.hid hwy
      have HM := Go.Lib.hid hm
      have HONE := Go.Lib.hid hone
      clear hwx hwy hm hone
      clear hx hy hmd hbx hby hb1 hb2 hb3
      go_enter Tryd.func33, Tryd.ntmps33
      go_wp2_with fail
      change Calls _ _ _ (w.alloc (.cells (rrC rZ) 23)) _
      generalize w.alloc (.cells (rrC rZ) 23) = X at *
      refine (HWX.out _).mono ?_; rintro e _ ⟨rfl, rfl⟩
      have HZ := Go.Lib.hid hZ
      have HB0 := Go.Lib.hid hb0
      clear hZ hb0
      go_wp2_with fail
      refine (HWY.out _).mono ?_; rintro e _ ⟨rfl, rfl⟩
      go_wp2_with (refine wpList_store_row rfl 23 (.tmp 8) (.tmp 17) rfl w.heap.size (rrC rZ) rfl rfl _ _ HZ.out infoR5 rfl HONE.out ?_)
      refine ret_rr (r := rZ) rfl rfl rfl (setRow_heap X w.heap.size _ (rrC rZ) _ _ HZ.out) ⟨by rw [HM.out], below_setRow HB0.out (Nat.le_refl _) _⟩
  · have hm : makeSN n ttl x y = rZ := if_neg (fun h => hx h.1)
    rw [decide_eq_false hx] at hwx
    have hone := one_rrC rZ
    have HWX := Go.Lib.hid hwx
    have HM := Go.Lib.hid hm
    have HONE := Go.Lib.hid hone
    clear hwx hm hone
    clear hx hmd hbx hby hb1 hb2 hb3 hwy
    go_enter Tryd.func33, Tryd.ntmps33
    go_wp2_with fail
    change Calls _ _ _ (w.alloc (.cells (rrC rZ) 23)) _
    generalize w.alloc (.cells (rrC rZ) 23) = X at *
    refine (HWX.out _).mono ?_; rintro e _ ⟨rfl, rfl⟩
    have HZ := Go.Lib.hid hZ
    have HB0 := Go.Lib.hid hb0
    clear hZ hb0
    go_wp2_with (refine wpList_store_row rfl 23 (.tmp 8) (.tmp 17) rfl w.heap.size (rrC rZ) rfl rfl _ _ HZ.out infoR5 rfl HONE.out ?_)
    refine ret_rr (r := rZ) rfl rfl rfl (setRow_heap X w.heap.size _ (rrC rZ) _ _ HZ.out) ⟨by rw [HM.out], below_setRow HB0.out (Nat.le_refl _) _⟩
end Go.Proofs.YthfpijacemkbbaaDoor

