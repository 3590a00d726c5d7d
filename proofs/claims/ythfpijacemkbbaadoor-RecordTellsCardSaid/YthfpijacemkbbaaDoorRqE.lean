/- The contract of record.MakeA. -/
import Derived.Test.YthfpijacemkbbaaDoorRqD
namespace Go.Proofs.YthfpijacemkbbaaDoor
open Go.RowKit
set_option linter.unusedVariables false

def makeAN (n : List UInt8) (ttl x : Int) : Rc.RR := if 0 ≤ x ∧ x ≤ 4294967295 then madeN ⟨n, 1, 1, ttl, four x⟩ else rZ
theorem one_rrC (r : Rc.RR) : (rrC r).all (·.oneCell') = true := by simp [rrC, Value.oneCell']
set_option maxRecDepth 100000 in
set_option maxHeartbeats 4000000 in
theorem MakeA_any (n : List UInt8) (ttl x : Int) (w : World) (hn : n.length ≤ maxLen) :
    Calls Tryd.prog 29 #[.string (mk n), .int .i64 ttl, .int .i64 x] w fun e w' => e = .returned (rrV (makeAN n ttl x)) ∧ Below w.heap.size w w' := by
  have hw := within_any x 0 4294967295
  have hmd := fun W => made_any n (four x) 1 ttl W hn (by simp [four, maxLen])
  have hby := record_bytes_any x
  have hZ := World.alloc_heap_new w (.cells (rrC rZ) 23)
  have hb0 : Below w.heap.size w (w.alloc (.cells (rrC rZ) 23)) := (Below.refl _ w).alloc (Nat.le_refl _) _
  by_cases hx : 0 ≤ x ∧ x ≤ 4294967295
  · have hm : makeAN n ttl x = madeN ⟨n, 1, 1, ttl, four x⟩ := if_pos hx
    rw [decide_eq_true hx] at hw
    generalize madeN ⟨n, 1, 1, ttl, four x⟩ = res at *
    generalize four x = l at *
    have hone := one_rrC res
    have HW := Go.Lib.hid hw
    have HMD := Go.Lib.hid hmd
    have HBY := Go.Lib.hid hby
    have HM := Go.Lib.hid hm
    have HONE := Go.Lib.hid hone
    clear hw hmd hby hm hone
    clear hx
    go_enter Tryd.func29, Tryd.ntmps29
    go_wp2_with fail
    change Calls _ _ _ (w.alloc (.cells (rrC rZ) 23)) _
    generalize w.alloc (.cells (rrC rZ) 23) = X at *
    refine (HW.out _).mono ?_; rintro e _ ⟨rfl, rfl⟩
    have HZ := Go.Lib.hid hZ
    have HB0 := Go.Lib.hid hb0
    clear hZ hb0
    go_wp2_with fail
    refine (HBY.out _).mono ?_; rintro e X1 ⟨rfl, hx1⟩
    have HX1 := Go.Lib.hid hx1
    clear hx1
    go_wp2_with fail
    refine (HMD.out _).mono ?_; rintro e X2 ⟨rfl, hx2⟩
    have hb := HB0.out.trans (((HX1.out).trans (hx2.mono HX1.out.size)).mono HB0.out.size)
    have hZ2 := ((HX1.out.trans (hx2.mono HX1.out.size)).block _ (Array.getElem?_eq_some_iff.1 HZ.out).1).trans HZ.out
    have HB := Go.Lib.hid hb
    have HZ2 := Go.Lib.hid hZ2
    clear hb hZ2
    clear hx2
    go_wp2_with (refine wpList_store_row rfl 23 (.tmp 6) (.tmp 15) rfl w.heap.size (rrC res) rfl rfl _ _ HZ2.out infoR5 rfl HONE.out ?_)
    refine ret_rr (r := res) rfl rfl rfl (setRow_heap X2 w.heap.size _ (rrC res) _ _ HZ2.out) ⟨by rw [HM.out], below_setRow HB.out (Nat.le_refl _) _⟩
  · have hm : makeAN n ttl x = rZ := if_neg hx
    rw [decide_eq_false hx] at hw
    have hone := one_rrC rZ
    have HW := Go.Lib.hid hw
    have HM := Go.Lib.hid hm
    have HONE := Go.Lib.hid hone
    clear hw hm hone
    clear hx hmd hby
    go_enter Tryd.func29, Tryd.ntmps29
    go_wp2_with fail
    change Calls _ _ _ (w.alloc (.cells (rrC rZ) 23)) _
    generalize w.alloc (.cells (rrC rZ) 23) = X at *
    refine (HW.out _).mono ?_; rintro e _ ⟨rfl, rfl⟩
    have HZ := Go.Lib.hid hZ
    have HB0 := Go.Lib.hid hb0
    clear hZ hb0
    go_wp2_with (refine wpList_store_row rfl 23 (.tmp 6) (.tmp 10) rfl w.heap.size (rrC rZ) rfl rfl _ _ HZ.out infoR5 rfl HONE.out ?_)
    refine ret_rr (r := rZ) rfl rfl rfl (setRow_heap X w.heap.size _ (rrC rZ) _ _ HZ.out) ⟨by rw [HM.out], below_setRow HB0.out (Nat.le_refl _) _⟩
end Go.Proofs.YthfpijacemkbbaaDoor

