/- The contract of record.MakeName. -/
import Derived.Test.YthfpijacemkbbaaDoorRqE
namespace Go.Proofs.YthfpijacemkbbaaDoor
open Go.RowKit
set_option linter.unusedVariables false

def makeNN (n : List UInt8) (t ttl : Int) (to : List UInt8) : Rc.RR := if t = 2 ∨ t = 5 ∨ t = 12 then madeN ⟨n, t, 1, ttl, to⟩ else rZ
set_option maxRecDepth 100000 in
set_option maxHeartbeats 4000000 in
theorem MakeName_any (n : List UInt8) (t ttl : Int) (to : List UInt8) (w : World) (hn : n.length ≤ maxLen) (ht : to.length ≤ maxLen) :
    Calls Tryd.prog 31 #[.string (mk n), .int .i64 t, .int .i64 ttl, .string (mk to)] w fun e w' => e = .returned (rrV (makeNN n t ttl to)) ∧ Below w.heap.size w w' := by
  have hmd := fun W => made_any n to t ttl W hn ht
  have hZ := World.alloc_heap_new w (.cells (rrC rZ) 23)
  have hb0 : Below w.heap.size w (w.alloc (.cells (rrC rZ) 23)) := (Below.refl _ w).alloc (Nat.le_refl _) _
  by_cases hx : t = 2 ∨ t = 5 ∨ t = 12
  · have hm : makeNN n t ttl to = madeN ⟨n, t, 1, ttl, to⟩ := if_pos hx
    generalize madeN ⟨n, t, 1, ttl, to⟩ = res at *
    have hone := one_rrC res
    have HMD := Go.Lib.hid hmd
    have HM := Go.Lib.hid hm
    have HONE := Go.Lib.hid hone
    have HZ := Go.Lib.hid hZ
    have HB0 := Go.Lib.hid hb0
    clear hmd hm hone hZ hb0
    rcases hx with rfl | rfl | rfl
    all_goals
      go_enter Tryd.func31, Tryd.ntmps31
      go_wp2_with fail
      change Calls _ _ _ (w.alloc (.cells (rrC rZ) 23)) _
      generalize w.alloc (.cells (rrC rZ) 23) = X at *
      refine (HMD.out _).mono ?_; rintro e X2 ⟨rfl, hx2⟩
      have hb := HB0.out.trans (hx2.mono HB0.out.size)
      have hZ2 := (hx2.block _ (Array.getElem?_eq_some_iff.1 HZ.out).1).trans HZ.out
      have HB := Go.Lib.hid hb
      have HZ2 := Go.Lib.hid hZ2
      clear hx2 hb hZ2
      go_wp2_with (refine wpList_store_row rfl 23 (.tmp 8) (.tmp 24) rfl w.heap.size (rrC res) rfl rfl _ _ HZ2.out infoR5 rfl HONE.out ?_)
      refine ret_rr (r := res) rfl rfl rfl (setRow_heap X2 w.heap.size _ (rrC res) _ _ HZ2.out) ⟨by rw [HM.out], below_setRow HB.out (Nat.le_refl _) _⟩
  · have hm : makeNN n t ttl to = rZ := if_neg hx
    have e1 : (t != 2) = true := by simp; omega
    have e2 : (t != 5) = true := by simp; omega
    have e3 : (t != 12) = true := by simp; omega
    have hone := one_rrC rZ
    have HM := Go.Lib.hid hm
    have HONE := Go.Lib.hid hone
    have HZ := Go.Lib.hid hZ
    have HB0 := Go.Lib.hid hb0
    clear hm hone hZ hb0
    clear hx hmd
    go_enter Tryd.func31, Tryd.ntmps31
    go_wp2_with (refine wpList_store_row rfl 23 (.tmp 8) (.tmp 19) rfl w.heap.size (rrC rZ) rfl rfl _ _ HZ.out infoR5 rfl HONE.out ?_)
    refine ret_rr (r := rZ) rfl rfl rfl (setRow_heap (w.alloc (.cells (rrC rZ) 23)) w.heap.size _ (rrC rZ) _ _ HZ.out) ⟨by rw [HM.out], below_setRow HB0.out (Nat.le_refl _) _⟩
end Go.Proofs.YthfpijacemkbbaaDoor

