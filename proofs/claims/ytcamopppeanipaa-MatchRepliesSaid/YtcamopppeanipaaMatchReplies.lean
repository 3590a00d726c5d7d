/- MatchReplies: a reply has the asked number, question and wishes, and says that it is one; beside its records nothing else. For every input; no conditions. -/
import Derived.Test.YtcamopppeanipaaMgF
import Derived.Test.YtcamopppeanipaaOpnM
namespace Go.Proofs.Ytcamopppeanipaa.matchReplies
open Go.ChangeShapes Go.WideShapes Go.ChangeAt Go.RowKit
open Go.ChangeMaps (open_string shut_string)
set_option linter.unusedVariables false

set_option maxRecDepth 100000 in
set_option maxHeartbeats 16000000 in
theorem t1T (code : Int) (mid mop mco msi : Int) (mre mau mcu mde mav : Bool) (xq xa xs xd : Option Addr) (mnq mna mns mnd xcq xca xcs xcd : Nat) (la : Option Addr) (ln lc : Nat) (w : World)
    (HAW : Hid (∀ W, Calls Try.prog 10 #[] W fun e w' => e = .returned (.bool true) ∧ Below W.heap.size W w'))
    (HSM : Hid (∀ W, Below w.heap.size w W → Calls Try.prog 8 #[.agg #[.int .i64 mid, .bool mre, .int .i64 mop, .bool mau, .bool mcu, .bool mde, .bool mav, .int .i64 mco, .slice xq mnq xcq, .slice xa mna xca, .slice xs mns xcs, .slice xd mnd xcd, .bool true, .int .i64 msi], .int .i64 2000] W fun e w' => e = .returned (.bool false) ∧ Below W.heap.size W w')) :
    Calls Try.prog 6 #[.agg #[.int .i64 mid, .bool mre, .int .i64 mop, .bool mau, .bool mcu, .bool mde, .bool mav, .int .i64 mco, .slice xq mnq xcq, .slice xa mna xca, .slice xs mns xcs, .slice xd mnd xcd, .bool true, .int .i64 msi], .int .i64 code, .slice la ln lc] w fun e w' => e = .returned (.bool true) ∧ Below w.heap.size w w' := by
  have hb0 : Below w.heap.size w (w.alloc (.cells #[.int .i64 mid, .bool mre, .int .i64 mop, .bool mau, .bool mcu, .bool mde, .bool mav, .int .i64 mco, .slice xq mnq xcq, .slice xa mna xca, .slice xs mns xcs, .slice xd mnd xcd, .bool true, .int .i64 msi] 27)) := (Below.refl _ w).alloc (Nat.le_refl _) _
  have hM0 : (w.alloc (.cells #[.int .i64 mid, .bool mre, .int .i64 mop, .bool mau, .bool mcu, .bool mde, .bool mav, .int .i64 mco, .slice xq mnq xcq, .slice xa mna xca, .slice xs mns xcs, .slice xd mnd xcd, .bool true, .int .i64 msi] 27)).heap[w.heap.size]? = some (.cells #[.int .i64 mid, .bool mre, .int .i64 mop, .bool mau, .bool mcu, .bool mde, .bool mav, .int .i64 mco, .slice xq mnq xcq, .slice xa mna xca, .slice xs mns xcs, .slice xd mnd xcd, .bool true, .int .i64 msi] 27 (0, 0)) := World.alloc_heap_new w _
  have HB0 := Go.Lib.hid hb0
  have HM0 := Go.Lib.hid hM0
  clear hb0 hM0
  go_enter Try.func6, Try.ntmps6
  go_wp2_with fail
  refine (HSM.out _ HB0.out).mono ?_; rintro e w1 ⟨rfl, hx⟩
  have hb1 := HB0.out.trans (hx.mono HB0.out.size)
  have hM1 := (hx.block _ (Array.getElem?_eq_some_iff.1 HM0.out).1).trans HM0.out
  clear hx HM0 HB0
  have HB1 := Go.Lib.hid hb1
  have HM1 := Go.Lib.hid hM1
  clear hb1 hM1
  go_wp2_with fail
  refine (HAW.out _).mono ?_; rintro e wz ⟨rfl, hx⟩
  have HXX := Go.Lib.hid hx
  clear hx
  go_wp2_with fail
  go_ret
  exact ⟨rfl, HB1.out.trans (HXX.out.mono HB1.out.size)⟩

set_option maxRecDepth 100000 in
set_option maxHeartbeats 16000000 in
theorem t2T (code : Int) (mid mop mco msi : Int) (mre mau mcu mde mav : Bool) (xq xa xs xd : Option Addr) (mnq mna mns mnd xcq xca xcs xcd : Nat) (la : Option Addr) (ln lc : Nat) (w : World)
    (HAW : Hid (∀ W, Calls Try.prog 10 #[] W fun e w' => e = .returned (.bool true) ∧ Below W.heap.size W w'))
    (HSM : Hid (∀ W, Below w.heap.size w W → Calls Try.prog 8 #[.agg #[.int .i64 mid, .bool mre, .int .i64 mop, .bool mau, .bool mcu, .bool mde, .bool mav, .int .i64 mco, .slice xq mnq xcq, .slice xa mna xca, .slice xs mns xcs, .slice xd mnd xcd, .bool true, .int .i64 msi], .int .i64 2000] W fun e w' => e = .returned (.bool true) ∧ Below W.heap.size W w'))
    (HRC : Hid (∀ W, Below w.heap.size w W → Calls Try.prog 9 #[.slice la ln lc, .int .i64 2000] W fun e w' => e = .returned (.bool false) ∧ Below W.heap.size W w')) :
    Calls Try.prog 6 #[.agg #[.int .i64 mid, .bool mre, .int .i64 mop, .bool mau, .bool mcu, .bool mde, .bool mav, .int .i64 mco, .slice xq mnq xcq, .slice xa mna xca, .slice xs mns xcs, .slice xd mnd xcd, .bool true, .int .i64 msi], .int .i64 code, .slice la ln lc] w fun e w' => e = .returned (.bool true) ∧ Below w.heap.size w w' := by
  have hb0 : Below w.heap.size w (w.alloc (.cells #[.int .i64 mid, .bool mre, .int .i64 mop, .bool mau, .bool mcu, .bool mde, .bool mav, .int .i64 mco, .slice xq mnq xcq, .slice xa mna xca, .slice xs mns xcs, .slice xd mnd xcd, .bool true, .int .i64 msi] 27)) := (Below.refl _ w).alloc (Nat.le_refl _) _
  have hM0 : (w.alloc (.cells #[.int .i64 mid, .bool mre, .int .i64 mop, .bool mau, .bool mcu, .bool mde, .bool mav, .int .i64 mco, .slice xq mnq xcq, .slice xa mna xca, .slice xs mns xcs, .slice xd mnd xcd, .bool true, .int .i64 msi] 27)).heap[w.heap.size]? = some (.cells #[.int .i64 mid, .bool mre, .int .i64 mop, .bool mau, .bool mcu, .bool mde, .bool mav, .int .i64 mco, .slice xq mnq xcq, .slice xa mna xca, .slice xs mns xcs, .slice xd mnd xcd, .bool true, .int .i64 msi] 27 (0, 0)) := World.alloc_heap_new w _
  have HB0 := Go.Lib.hid hb0
  have HM0 := Go.Lib.hid hM0
  clear hb0 hM0
  go_enter Try.func6, Try.ntmps6
  go_wp2_with fail
  refine (HSM.out _ HB0.out).mono ?_; rintro e w1 ⟨rfl, hx⟩
  have hb1 := HB0.out.trans (hx.mono HB0.out.size)
  have hM1 := (hx.block _ (Array.getElem?_eq_some_iff.1 HM0.out).1).trans HM0.out
  clear hx HM0 HB0
  have HB1 := Go.Lib.hid hb1
  have HM1 := Go.Lib.hid hM1
  clear hb1 hM1
  go_wp2_with fail
  refine (HRC.out _ HB1.out).mono ?_; rintro e w2 ⟨rfl, hx⟩
  have hb2 := HB1.out.trans (hx.mono HB1.out.size)
  have hM2 := (hx.block _ (Array.getElem?_eq_some_iff.1 HM1.out).1).trans HM1.out
  clear hx HM1 HB1
  have HB2 := Go.Lib.hid hb2
  clear hb2
  go_wp2_with fail
  refine (HAW.out _).mono ?_; rintro e wz ⟨rfl, hx⟩
  have HXX := Go.Lib.hid hx
  clear hx
  go_wp2_with fail
  go_ret
  exact ⟨rfl, HB2.out.trans (HXX.out.mono HB2.out.size)⟩

set_option maxRecDepth 100000 in
set_option maxHeartbeats 16000000 in
theorem t3T (code : Int) (mid mop mco msi : Int) (mre mau mcu mde mav : Bool) (xq xa xs xd : Option Addr) (mnq mna mns mnd xcq xca xcs xcd : Nat) (la : Option Addr) (ln lc : Nat) (w : World) (cq cl : List Value)
    (HAW : Hid (∀ W, Calls Try.prog 10 #[] W fun e w' => e = .returned (.bool true) ∧ Below W.heap.size W w'))
    (HSM : Hid (∀ W, Below w.heap.size w W → Calls Try.prog 8 #[.agg #[.int .i64 mid, .bool mre, .int .i64 mop, .bool mau, .bool mcu, .bool mde, .bool mav, .int .i64 mco, .slice xq mnq xcq, .slice xa mna xca, .slice xs mns xcs, .slice xd mnd xcd, .bool true, .int .i64 msi], .int .i64 2000] W fun e w' => e = .returned (.bool true) ∧ Below W.heap.size W w'))
    (HRC : Hid (∀ W, Below w.heap.size w W → Calls Try.prog 9 #[.slice la ln lc, .int .i64 2000] W fun e w' => e = .returned (.bool true) ∧ Below W.heap.size W w'))
    (HREP : Hid (∀ W, Below w.heap.size w W → Calls Try.prog 18 #[.agg #[.int .i64 mid, .bool mre, .int .i64 mop, .bool mau, .bool mcu, .bool mde, .bool mav, .int .i64 mco, .slice xq mnq xcq, .slice xa mna xca, .slice xs mns xcs, .slice xd mnd xcd, .bool true, .int .i64 msi], .int .i64 code, .slice la ln lc, .slice none 0 0] W fun e w' => ∃ rq rcq ra rca rs rcs rd rcd, e = .returned (.agg #[.int .i64 mid, .bool true, .int .i64 mop, .bool false, .bool false, .bool mde, .bool true, .int .i64 code, .slice rq mnq rcq, .slice ra ln rca, .slice rs 0 rcs, .slice rd 0 rcd, .bool true, .int .i64 1232]) ∧ SlC w' 3 (.slice rq mnq rcq) mnq cq ∧ SlC w' 5 (.slice ra ln rca) ln cl ∧ Below W.heap.size W w'))
    (HREF : Hid (∀ W, Below w.heap.size w W → Calls Try.prog 16 #[.agg #[.int .i64 mid, .bool mre, .int .i64 mop, .bool mau, .bool mcu, .bool mde, .bool mav, .int .i64 mco, .slice xq mnq xcq, .slice xa mna xca, .slice xs mns xcs, .slice xd mnd xcd, .bool true, .int .i64 msi], .int .i64 code] W fun e w' => ∃ sq scq sa sca ss scs sd scd, e = .returned (.agg #[.int .i64 mid, .bool true, .int .i64 mop, .bool false, .bool false, .bool mde, .bool true, .int .i64 code, .slice sq mnq scq, .slice sa 0 sca, .slice ss 0 scs, .slice sd 0 scd, .bool true, .int .i64 1232]) ∧ Below W.heap.size W w'))
    (HRRS : Hid (∀ W ra rca, Below w.heap.size w W → SlC W 5 (.slice ra ln rca) ln cl → Calls Try.prog 27 #[.slice ra ln rca, .slice la ln lc] W fun e w' => e = .returned (.bool true) ∧ Below W.heap.size W w'))
    (HMQ : Hid (SlC w 3 (.slice xq mnq xcq) mnq cq))
    (HENC : Hid (∀ k, k < mnq → ∃ n t c, cq[k * 3]? = some (.string (mk n)) ∧ cq[k * 3 + 1]? = some (.int .i64 t) ∧ cq[k * 3 + 2]? = some (.int .i64 c))) :
    Calls Try.prog 6 #[.agg #[.int .i64 mid, .bool mre, .int .i64 mop, .bool mau, .bool mcu, .bool mde, .bool mav, .int .i64 mco, .slice xq mnq xcq, .slice xa mna xca, .slice xs mns xcs, .slice xd mnd xcd, .bool true, .int .i64 msi], .int .i64 code, .slice la ln lc] w fun e w' => e = .returned (.bool true) ∧ Below w.heap.size w w' := by
  have hb0 : Below w.heap.size w (w.alloc (.cells #[.int .i64 mid, .bool mre, .int .i64 mop, .bool mau, .bool mcu, .bool mde, .bool mav, .int .i64 mco, .slice xq mnq xcq, .slice xa mna xca, .slice xs mns xcs, .slice xd mnd xcd, .bool true, .int .i64 msi] 27)) := (Below.refl _ w).alloc (Nat.le_refl _) _
  have hM0 : (w.alloc (.cells #[.int .i64 mid, .bool mre, .int .i64 mop, .bool mau, .bool mcu, .bool mde, .bool mav, .int .i64 mco, .slice xq mnq xcq, .slice xa mna xca, .slice xs mns xcs, .slice xd mnd xcd, .bool true, .int .i64 msi] 27)).heap[w.heap.size]? = some (.cells #[.int .i64 mid, .bool mre, .int .i64 mop, .bool mau, .bool mcu, .bool mde, .bool mav, .int .i64 mco, .slice xq mnq xcq, .slice xa mna xca, .slice xs mns xcs, .slice xd mnd xcd, .bool true, .int .i64 msi] 27 (0, 0)) := World.alloc_heap_new w _
  have HB0 := Go.Lib.hid hb0
  have HM0 := Go.Lib.hid hM0
  clear hb0 hM0
  go_enter Try.func6, Try.ntmps6
  go_wp2_with fail
  refine (HSM.out _ HB0.out).mono ?_; rintro e w1 ⟨rfl, hx⟩
  have hb1 := HB0.out.trans (hx.mono HB0.out.size)
  have hM1 := (hx.block _ (Array.getElem?_eq_some_iff.1 HM0.out).1).trans HM0.out
  clear hx HM0 HB0
  have HB1 := Go.Lib.hid hb1
  have HM1 := Go.Lib.hid hM1
  clear hb1 hM1
  go_wp2_with fail
  refine (HRC.out _ HB1.out).mono ?_; rintro e w2 ⟨rfl, hx⟩
  have hb2 := HB1.out.trans (hx.mono HB1.out.size)
  have hM2 := (hx.block _ (Array.getElem?_eq_some_iff.1 HM1.out).1).trans HM1.out
  clear hx HM1 HB1
  have hg := cell_of_heap hM2
  have m0 := hg 0
  have m1 := hg 1
  have m2 := hg 2
  have m3 := hg 3
  have m4 := hg 4
  have m5 := hg 5
  have m6 := hg 6
  have m7 := hg 7
  have m8 := hg 8
  have m9 := hg 9
  have m10 := hg 10
  have m11 := hg 11
  have m12 := hg 12
  have m13 := hg 13
  simp only [List.getElem?_toArray, List.getElem?_cons_succ, List.getElem?_cons_zero] at m0 m1 m2 m3 m4 m5 m6 m7 m8 m9 m10 m11 m12 m13
  clear hg
  have HB2 := Go.Lib.hid hb2
  have HM2 := Go.Lib.hid hM2
  clear hb2 hM2
  go_wp2_with fail
  refine (HREP.out _ HB2.out).mono ?_; rintro e w3 ⟨rq, rcq, ra, rca, rs, rcs, rd, rcd, rfl, hq3, hl3, hx⟩
  have hb3 := HB2.out.trans (hx.mono HB2.out.size)
  have hz3 := hb3.size
  have hM3 := heap_old ((hx.block _ (Array.getElem?_eq_some_iff.1 HM2.out).1).trans HM2.out) (.cells #[.int .i64 mid, .bool true, .int .i64 mop, .bool false, .bool false, .bool mde, .bool true, .int .i64 code, .slice rq mnq rcq, .slice ra ln rca, .slice rs 0 rcs, .slice rd 0 rcd, .bool true, .int .i64 1232] 27)
  have hR3 : (w3.alloc (.cells #[.int .i64 mid, .bool true, .int .i64 mop, .bool false, .bool false, .bool mde, .bool true, .int .i64 code, .slice rq mnq rcq, .slice ra ln rca, .slice rs 0 rcs, .slice rd 0 rcd, .bool true, .int .i64 1232] 27)).heap[w3.heap.size]? = some (.cells #[.int .i64 mid, .bool true, .int .i64 mop, .bool false, .bool false, .bool mde, .bool true, .int .i64 code, .slice rq mnq rcq, .slice ra ln rca, .slice rs 0 rcs, .slice rd 0 rcd, .bool true, .int .i64 1232] 27 (0, 0)) := World.alloc_heap_new _ _
  have hb4 : Below w.heap.size w (w3.alloc (.cells #[.int .i64 mid, .bool true, .int .i64 mop, .bool false, .bool false, .bool mde, .bool true, .int .i64 code, .slice rq mnq rcq, .slice ra ln rca, .slice rs 0 rcs, .slice rd 0 rcd, .bool true, .int .i64 1232] 27)) := hb3.alloc hz3 _
  have hq4 := hq3.below ((Below.refl _ w3).alloc (Nat.le_refl _) (.cells #[.int .i64 mid, .bool true, .int .i64 mop, .bool false, .bool false, .bool mde, .bool true, .int .i64 code, .slice rq mnq rcq, .slice ra ln rca, .slice rs 0 rcs, .slice rd 0 rcd, .bool true, .int .i64 1232] 27)) (Nat.le_refl _)
  have hl4 := hl3.below ((Below.refl _ w3).alloc (Nat.le_refl _) (.cells #[.int .i64 mid, .bool true, .int .i64 mop, .bool false, .bool false, .bool mde, .bool true, .int .i64 code, .slice rq mnq rcq, .slice ra ln rca, .slice rs 0 rcs, .slice rd 0 rcd, .bool true, .int .i64 1232] 27)) (Nat.le_refl _)
  have hone : (#[.int .i64 mid, .bool true, .int .i64 mop, .bool false, .bool false, .bool mde, .bool true, .int .i64 code, .slice rq mnq rcq, .slice ra ln rca, .slice rs 0 rcs, .slice rd 0 rcd, .bool true, .int .i64 1232] : Array Value).all (·.oneCell') = true := by simp [Value.oneCell']
  clear hx hq3 hl3 HM2 HB2 m0 m1 m2 m3 m4 m5 m6 m7 m8 m9 m10 m11 m12 m13 hb3
  have hg := cell_of_heap hM3
  have m0 := hg 0
  have m1 := hg 1
  have m2 := hg 2
  have m3 := hg 3
  have m4 := hg 4
  have m5 := hg 5
  have m6 := hg 6
  have m7 := hg 7
  have m8 := hg 8
  have m9 := hg 9
  have m10 := hg 10
  have m11 := hg 11
  have m12 := hg 12
  have m13 := hg 13
  simp only [List.getElem?_toArray, List.getElem?_cons_succ, List.getElem?_cons_zero] at m0 m1 m2 m3 m4 m5 m6 m7 m8 m9 m10 m11 m12 m13
  clear hg
  have HB4 := Go.Lib.hid hb4
  have HM3 := Go.Lib.hid hM3
  have HR3 := Go.Lib.hid hR3
  have HQ4 := Go.Lib.hid hq4
  have HL4 := Go.Lib.hid hl4
  have HONE := Go.Lib.hid hone
  clear hb4 hM3 hR3 hq4 hl4 hone
  go_wp2_with (refine wpList_store_row rfl 27 (.tmp 7) (.tmp 22) rfl w3.heap.size #[.int .i64 mid, .bool true, .int .i64 mop, .bool false, .bool false, .bool mde, .bool true, .int .i64 code, .slice rq mnq rcq, .slice ra ln rca, .slice rs 0 rcs, .slice rd 0 rcd, .bool true, .int .i64 1232] rfl rfl _ _ (World.alloc_heap_new _ _) infoMsg rfl HONE.out ?_; rw [World.setRow_alloc_new])
  refine (HREF.out _ HB4.out).mono ?_; rintro e w4 ⟨sq, scq, sa, sca, ss, scs, sd, scd, rfl, hx⟩
  have hb5 := HB4.out.trans (hx.mono HB4.out.size)
  have hz5 := hb5.size
  have hM5 := heap_old ((hx.block _ (Array.getElem?_eq_some_iff.1 HM3.out).1).trans HM3.out) (.cells #[.int .i64 mid, .bool true, .int .i64 mop, .bool false, .bool false, .bool mde, .bool true, .int .i64 code, .slice sq mnq scq, .slice sa 0 sca, .slice ss 0 scs, .slice sd 0 scd, .bool true, .int .i64 1232] 27)
  have hR5 := heap_old ((hx.block _ (Array.getElem?_eq_some_iff.1 HR3.out).1).trans HR3.out) (.cells #[.int .i64 mid, .bool true, .int .i64 mop, .bool false, .bool false, .bool mde, .bool true, .int .i64 code, .slice sq mnq scq, .slice sa 0 sca, .slice ss 0 scs, .slice sd 0 scd, .bool true, .int .i64 1232] 27)
  have hS5 : (w4.alloc (.cells #[.int .i64 mid, .bool true, .int .i64 mop, .bool false, .bool false, .bool mde, .bool true, .int .i64 code, .slice sq mnq scq, .slice sa 0 sca, .slice ss 0 scs, .slice sd 0 scd, .bool true, .int .i64 1232] 27)).heap[w4.heap.size]? = some (.cells #[.int .i64 mid, .bool true, .int .i64 mop, .bool false, .bool false, .bool mde, .bool true, .int .i64 code, .slice sq mnq scq, .slice sa 0 sca, .slice ss 0 scs, .slice sd 0 scd, .bool true, .int .i64 1232] 27 (0, 0)) := World.alloc_heap_new _ _
  have hb6 : Below w.heap.size w (w4.alloc (.cells #[.int .i64 mid, .bool true, .int .i64 mop, .bool false, .bool false, .bool mde, .bool true, .int .i64 code, .slice sq mnq scq, .slice sa 0 sca, .slice ss 0 scs, .slice sd 0 scd, .bool true, .int .i64 1232] 27)) := hb5.alloc hz5 _
  have hq6 := (HQ4.out.below hx (Nat.le_refl _)).below ((Below.refl _ w4).alloc (Nat.le_refl _) (.cells #[.int .i64 mid, .bool true, .int .i64 mop, .bool false, .bool false, .bool mde, .bool true, .int .i64 code, .slice sq mnq scq, .slice sa 0 sca, .slice ss 0 scs, .slice sd 0 scd, .bool true, .int .i64 1232] 27)) (Nat.le_refl _)
  have hl6 := (HL4.out.below hx (Nat.le_refl _)).below ((Below.refl _ w4).alloc (Nat.le_refl _) (.cells #[.int .i64 mid, .bool true, .int .i64 mop, .bool false, .bool false, .bool mde, .bool true, .int .i64 code, .slice sq mnq scq, .slice sa 0 sca, .slice ss 0 scs, .slice sd 0 scd, .bool true, .int .i64 1232] 27)) (Nat.le_refl _)
  have hone2 : (#[.int .i64 mid, .bool true, .int .i64 mop, .bool false, .bool false, .bool mde, .bool true, .int .i64 code, .slice sq mnq scq, .slice sa 0 sca, .slice ss 0 scs, .slice sd 0 scd, .bool true, .int .i64 1232] : Array Value).all (·.oneCell') = true := by simp [Value.oneCell']
  clear hx HQ4 HL4 HM3 HR3 HB4 m0 m1 m2 m3 m4 m5 m6 m7 m8 m9 m10 m11 m12 m13 hb5
  have hg := cell_of_heap hM5
  have m0 := hg 0
  have m1 := hg 1
  have m2 := hg 2
  have m3 := hg 3
  have m4 := hg 4
  have m5 := hg 5
  have m6 := hg 6
  have m7 := hg 7
  have m8 := hg 8
  have m9 := hg 9
  have m10 := hg 10
  have m11 := hg 11
  have m12 := hg 12
  have m13 := hg 13
  simp only [List.getElem?_toArray, List.getElem?_cons_succ, List.getElem?_cons_zero] at m0 m1 m2 m3 m4 m5 m6 m7 m8 m9 m10 m11 m12 m13
  clear hg
  have hg := cell_of_heap hR5
  have r0 := hg 0
  have r1 := hg 1
  have r2 := hg 2
  have r3 := hg 3
  have r4 := hg 4
  have r5 := hg 5
  have r6 := hg 6
  have r7 := hg 7
  have r8 := hg 8
  have r9 := hg 9
  have r10 := hg 10
  have r11 := hg 11
  have r12 := hg 12
  have r13 := hg 13
  simp only [List.getElem?_toArray, List.getElem?_cons_succ, List.getElem?_cons_zero] at r0 r1 r2 r3 r4 r5 r6 r7 r8 r9 r10 r11 r12 r13
  clear hg
  have HB6 := Go.Lib.hid hb6
  have HM5 := Go.Lib.hid hM5
  have HR5 := Go.Lib.hid hR5
  have HS5 := Go.Lib.hid hS5
  have HQ6 := Go.Lib.hid hq6
  have HL6 := Go.Lib.hid hl6
  have HONE2 := Go.Lib.hid hone2
  clear hb6 hM5 hR5 hS5 hq6 hl6 hone2
  go_wp2_with (refine wpList_store_row rfl 27 (.tmp 8) (.tmp 25) rfl w4.heap.size #[.int .i64 mid, .bool true, .int .i64 mop, .bool false, .bool false, .bool mde, .bool true, .int .i64 code, .slice sq mnq scq, .slice sa 0 sca, .slice ss 0 scs, .slice sd 0 scd, .bool true, .int .i64 1232] rfl rfl _ _ (World.alloc_heap_new _ _) infoMsg rfl HONE2.out ?_; rw [World.setRow_alloc_new])
  generalize w4.alloc (.cells #[.int .i64 mid, .bool true, .int .i64 mop, .bool false, .bool false, .bool mde, .bool true, .int .i64 code, .slice sq mnq scq, .slice sa 0 sca, .slice ss 0 scs, .slice sd 0 scd, .bool true, .int .i64 1232] 27) = X at *
  clear m0 m1 m2 m3 m4 m5 m6 m7 m8 m9 m10 m11 m12 m13 r0 r1 r2 r3 r4 r5 r6 r7 r8 r9 r10 r11 r12 r13
  have HMQX := Go.Lib.hid (HMQ.out.below HB6.out (Nat.le_refl _))
  have hcapq := (slc_bounds HMQ.out)
  obtain ⟨hcq1, hcq2⟩ := hcapq
  unfold maxLen at hcq2
  go_loopw [9] (fun i wr => ∃ k : Nat, i = .int .i64 k ∧ k ≤ mnq ∧ Below X.heap.size X wr) (fun i _ => mnq - (intOf i).toNat)
  case atStart => exact ⟨0, rfl, by omega, Below.refl _ _⟩
  case round =>
    obtain ⟨k, rfl, hk, hbr⟩ := hrel
    have hM7 := (hbr.block _ (Array.getElem?_eq_some_iff.1 HM5.out).1).trans HM5.out
    have hR7 := (hbr.block _ (Array.getElem?_eq_some_iff.1 HR5.out).1).trans HR5.out
    have hlM := (Array.getElem?_eq_some_iff.1 hM7).1
    have hlR := (Array.getElem?_eq_some_iff.1 hR7).1
    have hbb := HB6.out.trans (hbr.mono HB6.out.size)
    have hg := cell_of_heap hM7
    have m0 := hg 0
    have m1 := hg 1
    have m2 := hg 2
    have m3 := hg 3
    have m4 := hg 4
    have m5 := hg 5
    have m6 := hg 6
    have m7 := hg 7
    have m8 := hg 8
    simp only [List.getElem?_toArray, List.getElem?_cons_succ, List.getElem?_cons_zero] at m0 m1 m2 m3 m4 m5 m6 m7 m8
    clear hg
    have hg := cell_of_heap hR7
    have r0 := hg 0
    have r1 := hg 1
    have r2 := hg 2
    have r3 := hg 3
    have r4 := hg 4
    have r5 := hg 5
    have r6 := hg 6
    have r7 := hg 7
    have r8 := hg 8
    have r9 := hg 9
    have r10 := hg 10
    have r11 := hg 11
    simp only [List.getElem?_toArray, List.getElem?_cons_succ, List.getElem?_cons_zero] at r0 r1 r2 r3 r4 r5 r6 r7 r8 r9 r10 r11
    clear hg

    have HB := Go.Lib.hid hbr
    have HBB := Go.Lib.hid hbb
    have HM7 := Go.Lib.hid hM7
    have HR7 := Go.Lib.hid hR7
    clear hbr hbb hM7 hR7
    by_cases hlt : k < mnq
    · obtain ⟨_, b, off, rfl, hbw, hcell⟩ := SlC.at (HMQX.out.below HB.out (Nat.le_refl _)) (by omega)
      obtain ⟨_, b', off', rfl, hbw', hcell'⟩ := SlC.at (HQ6.out.below HB.out (Nat.le_refl _)) (by omega)
      obtain ⟨n, t, c, h0, h1, h2⟩ := HENC.out k hlt
      have c0 := (hcell (k * 3) (by omega)).trans h0
      have c1 := (hcell (k * 3 + 1) (by omega)).trans h1
      have c2 := (hcell (k * 3 + 2) (by omega)).trans h2
      have d0 := (hcell' (k * 3) (by omega)).trans h0
      have d1 := (hcell' (k * 3 + 1) (by omega)).trans h1
      have d2 := (hcell' (k * 3 + 2) (by omega)).trans h2
      rw [← Nat.add_assoc] at c1 c2 d1 d2
      clear hcell hcell' h0 h1 h2
      have C0 := BelowC.cell (W := wr) c0 hbw
      have C1 := BelowC.cell (W := wr) c1 hbw
      have C2 := BelowC.cell (W := wr) c2 hbw
      have D0 := BelowC.cell (W := wr) d0 hbw'
      have D1 := BelowC.cell (W := wr) d1 hbw'
      have D2 := BelowC.cell (W := wr) d2 hbw'
      have M8 := BelowC.cell (W := wr) m8 hlM
      have R8 := BelowC.cell (W := wr) r8 hlR
      have hne : Nonempty (Subtype (Below wr.heap.size wr)) := ⟨⟨wr, Below.refl _ _⟩⟩
      have HLT := Go.Lib.hid hlt
      clear c0 c1 c2 d0 d1 d2
      go_wp2_with fail
      refine Go.Mix.wp_region_mix (Es := []) (Below wr.heap.size wr) mixed (by kernel_rfl) (Below.refl _ _).drew (fun _ => ?_)
      iterate 11 (refine Go.Mix.mix_step rfl (fun K hK => ?_); have HKK := Go.Lib.hid hK; clear hK; go_simp; refine HKK.out _ _ ?_; clear HKK K)
      refine Go.Mix.mix_nil ?_
      go_wp2_with fail
      go_roundw
      case rel => exact ⟨k + 1, by go_num, HLT.out, HB.out.drew⟩
      case measure => have := HLT.out; simp [intOf]; omega
    · obtain rfl : k = mnq := by omega
      have hrr := HRRS.out wr ra rca HBB.out (HL6.out.below HB.out (Nat.le_refl _))
      have HRR := Go.Lib.hid hrr
      clear hrr
      go_wp2_with fail
      refine HRR.out.mono ?_; rintro e wz ⟨rfl, hx⟩
      have hR8 := (hx.block _ hlR).trans HR7.out
      have hS8 := (hx.block _ (Nat.lt_of_lt_of_le (Array.getElem?_eq_some_iff.1 HS5.out).1 HB.out.size)).trans ((HB.out.block _ (Array.getElem?_eq_some_iff.1 HS5.out).1).trans HS5.out)
      have hb9 := HBB.out.trans (hx.mono HBB.out.size)
      have hg := cell_of_heap hR8
      have p0 := hg 0
      have p1 := hg 1
      have p2 := hg 2
      have p3 := hg 3
      have p4 := hg 4
      have p5 := hg 5
      have p6 := hg 6
      have p7 := hg 7
      have p8 := hg 8
      have p9 := hg 9
      have p10 := hg 10
      have p11 := hg 11
      simp only [List.getElem?_toArray, List.getElem?_cons_succ, List.getElem?_cons_zero] at p0 p1 p2 p3 p4 p5 p6 p7 p8 p9 p10 p11
      clear hg
      have hg := cell_of_heap hS8
      have s0 := hg 0
      have s1 := hg 1
      have s2 := hg 2
      have s3 := hg 3
      have s4 := hg 4
      have s5 := hg 5
      have s6 := hg 6
      have s7 := hg 7
      have s8 := hg 8
      have s9 := hg 9
      simp only [List.getElem?_toArray, List.getElem?_cons_succ, List.getElem?_cons_zero] at s0 s1 s2 s3 s4 s5 s6 s7 s8 s9
      clear hg

      clear hx m0 m1 m2 m3 m4 m5 m6 m7 m8 r0 r1 r2 r3 r4 r5 r6 r7 r8 r9 r10 r11
      have HR8 := Go.Lib.hid hR8
      have HS8 := Go.Lib.hid hS8
      have HB9 := Go.Lib.hid hb9
      clear hR8 hS8 hb9
      go_wp2_with fail
      refine (HAW.out _).mono ?_; rintro e wy ⟨rfl, hx⟩
      have HXX := Go.Lib.hid hx
      clear hx
      go_wp2_with fail
      go_ret
      exact ⟨rfl, HB9.out.trans (HXX.out.mono HB9.out.size)⟩

set_option maxRecDepth 100000 in
set_option maxHeartbeats 16000000 in
theorem t1F (code : Int) (mid mop mco msi : Int) (mre mau mcu mde mav : Bool) (xq xa xs xd : Option Addr) (mnq mna mns mnd xcq xca xcs xcd : Nat) (la : Option Addr) (ln lc : Nat) (w : World)
    (HAW : Hid (∀ W, Calls Try.prog 10 #[] W fun e w' => e = .returned (.bool true) ∧ Below W.heap.size W w'))
    (HSM : Hid (∀ W, Below w.heap.size w W → Calls Try.prog 8 #[.agg #[.int .i64 mid, .bool mre, .int .i64 mop, .bool mau, .bool mcu, .bool mde, .bool mav, .int .i64 mco, .slice xq mnq xcq, .slice xa mna xca, .slice xs mns xcs, .slice xd mnd xcd, .bool false, .int .i64 msi], .int .i64 2000] W fun e w' => e = .returned (.bool false) ∧ Below W.heap.size W w')) :
    Calls Try.prog 6 #[.agg #[.int .i64 mid, .bool mre, .int .i64 mop, .bool mau, .bool mcu, .bool mde, .bool mav, .int .i64 mco, .slice xq mnq xcq, .slice xa mna xca, .slice xs mns xcs, .slice xd mnd xcd, .bool false, .int .i64 msi], .int .i64 code, .slice la ln lc] w fun e w' => e = .returned (.bool true) ∧ Below w.heap.size w w' := by
  have hb0 : Below w.heap.size w (w.alloc (.cells #[.int .i64 mid, .bool mre, .int .i64 mop, .bool mau, .bool mcu, .bool mde, .bool mav, .int .i64 mco, .slice xq mnq xcq, .slice xa mna xca, .slice xs mns xcs, .slice xd mnd xcd, .bool false, .int .i64 msi] 27)) := (Below.refl _ w).alloc (Nat.le_refl _) _
  have hM0 : (w.alloc (.cells #[.int .i64 mid, .bool mre, .int .i64 mop, .bool mau, .bool mcu, .bool mde, .bool mav, .int .i64 mco, .slice xq mnq xcq, .slice xa mna xca, .slice xs mns xcs, .slice xd mnd xcd, .bool false, .int .i64 msi] 27)).heap[w.heap.size]? = some (.cells #[.int .i64 mid, .bool mre, .int .i64 mop, .bool mau, .bool mcu, .bool mde, .bool mav, .int .i64 mco, .slice xq mnq xcq, .slice xa mna xca, .slice xs mns xcs, .slice xd mnd xcd, .bool false, .int .i64 msi] 27 (0, 0)) := World.alloc_heap_new w _
  have HB0 := Go.Lib.hid hb0
  have HM0 := Go.Lib.hid hM0
  clear hb0 hM0
  go_enter Try.func6, Try.ntmps6
  go_wp2_with fail
  refine (HSM.out _ HB0.out).mono ?_; rintro e w1 ⟨rfl, hx⟩
  have hb1 := HB0.out.trans (hx.mono HB0.out.size)
  have hM1 := (hx.block _ (Array.getElem?_eq_some_iff.1 HM0.out).1).trans HM0.out
  clear hx HM0 HB0
  have HB1 := Go.Lib.hid hb1
  have HM1 := Go.Lib.hid hM1
  clear hb1 hM1
  go_wp2_with fail
  refine (HAW.out _).mono ?_; rintro e wz ⟨rfl, hx⟩
  have HXX := Go.Lib.hid hx
  clear hx
  go_wp2_with fail
  go_ret
  exact ⟨rfl, HB1.out.trans (HXX.out.mono HB1.out.size)⟩

set_option maxRecDepth 100000 in
set_option maxHeartbeats 16000000 in
theorem t2F (code : Int) (mid mop mco msi : Int) (mre mau mcu mde mav : Bool) (xq xa xs xd : Option Addr) (mnq mna mns mnd xcq xca xcs xcd : Nat) (la : Option Addr) (ln lc : Nat) (w : World)
    (HAW : Hid (∀ W, Calls Try.prog 10 #[] W fun e w' => e = .returned (.bool true) ∧ Below W.heap.size W w'))
    (HSM : Hid (∀ W, Below w.heap.size w W → Calls Try.prog 8 #[.agg #[.int .i64 mid, .bool mre, .int .i64 mop, .bool mau, .bool mcu, .bool mde, .bool mav, .int .i64 mco, .slice xq mnq xcq, .slice xa mna xca, .slice xs mns xcs, .slice xd mnd xcd, .bool false, .int .i64 msi], .int .i64 2000] W fun e w' => e = .returned (.bool true) ∧ Below W.heap.size W w'))
    (HRC : Hid (∀ W, Below w.heap.size w W → Calls Try.prog 9 #[.slice la ln lc, .int .i64 2000] W fun e w' => e = .returned (.bool false) ∧ Below W.heap.size W w')) :
    Calls Try.prog 6 #[.agg #[.int .i64 mid, .bool mre, .int .i64 mop, .bool mau, .bool mcu, .bool mde, .bool mav, .int .i64 mco, .slice xq mnq xcq, .slice xa mna xca, .slice xs mns xcs, .slice xd mnd xcd, .bool false, .int .i64 msi], .int .i64 code, .slice la ln lc] w fun e w' => e = .returned (.bool true) ∧ Below w.heap.size w w' := by
  have hb0 : Below w.heap.size w (w.alloc (.cells #[.int .i64 mid, .bool mre, .int .i64 mop, .bool mau, .bool mcu, .bool mde, .bool mav, .int .i64 mco, .slice xq mnq xcq, .slice xa mna xca, .slice xs mns xcs, .slice xd mnd xcd, .bool false, .int .i64 msi] 27)) := (Below.refl _ w).alloc (Nat.le_refl _) _
  have hM0 : (w.alloc (.cells #[.int .i64 mid, .bool mre, .int .i64 mop, .bool mau, .bool mcu, .bool mde, .bool mav, .int .i64 mco, .slice xq mnq xcq, .slice xa mna xca, .slice xs mns xcs, .slice xd mnd xcd, .bool false, .int .i64 msi] 27)).heap[w.heap.size]? = some (.cells #[.int .i64 mid, .bool mre, .int .i64 mop, .bool mau, .bool mcu, .bool mde, .bool mav, .int .i64 mco, .slice xq mnq xcq, .slice xa mna xca, .slice xs mns xcs, .slice xd mnd xcd, .bool false, .int .i64 msi] 27 (0, 0)) := World.alloc_heap_new w _
  have HB0 := Go.Lib.hid hb0
  have HM0 := Go.Lib.hid hM0
  clear hb0 hM0
  go_enter Try.func6, Try.ntmps6
  go_wp2_with fail
  refine (HSM.out _ HB0.out).mono ?_; rintro e w1 ⟨rfl, hx⟩
  have hb1 := HB0.out.trans (hx.mono HB0.out.size)
  have hM1 := (hx.block _ (Array.getElem?_eq_some_iff.1 HM0.out).1).trans HM0.out
  clear hx HM0 HB0
  have HB1 := Go.Lib.hid hb1
  have HM1 := Go.Lib.hid hM1
  clear hb1 hM1
  go_wp2_with fail
  refine (HRC.out _ HB1.out).mono ?_; rintro e w2 ⟨rfl, hx⟩
  have hb2 := HB1.out.trans (hx.mono HB1.out.size)
  have hM2 := (hx.block _ (Array.getElem?_eq_some_iff.1 HM1.out).1).trans HM1.out
  clear hx HM1 HB1
  have HB2 := Go.Lib.hid hb2
  clear hb2
  go_wp2_with fail
  refine (HAW.out _).mono ?_; rintro e wz ⟨rfl, hx⟩
  have HXX := Go.Lib.hid hx
  clear hx
  go_wp2_with fail
  go_ret
  exact ⟨rfl, HB2.out.trans (HXX.out.mono HB2.out.size)⟩

set_option maxRecDepth 100000 in
set_option maxHeartbeats 16000000 in
theorem t3F (code : Int) (mid mop mco msi : Int) (mre mau mcu mde mav : Bool) (xq xa xs xd : Option Addr) (mnq mna mns mnd xcq xca xcs xcd : Nat) (la : Option Addr) (ln lc : Nat) (w : World) (cq cl : List Value)
    (HAW : Hid (∀ W, Calls Try.prog 10 #[] W fun e w' => e = .returned (.bool true) ∧ Below W.heap.size W w'))
    (HSM : Hid (∀ W, Below w.heap.size w W → Calls Try.prog 8 #[.agg #[.int .i64 mid, .bool mre, .int .i64 mop, .bool mau, .bool mcu, .bool mde, .bool mav, .int .i64 mco, .slice xq mnq xcq, .slice xa mna xca, .slice xs mns xcs, .slice xd mnd xcd, .bool false, .int .i64 msi], .int .i64 2000] W fun e w' => e = .returned (.bool true) ∧ Below W.heap.size W w'))
    (HRC : Hid (∀ W, Below w.heap.size w W → Calls Try.prog 9 #[.slice la ln lc, .int .i64 2000] W fun e w' => e = .returned (.bool true) ∧ Below W.heap.size W w'))
    (HREP : Hid (∀ W, Below w.heap.size w W → Calls Try.prog 18 #[.agg #[.int .i64 mid, .bool mre, .int .i64 mop, .bool mau, .bool mcu, .bool mde, .bool mav, .int .i64 mco, .slice xq mnq xcq, .slice xa mna xca, .slice xs mns xcs, .slice xd mnd xcd, .bool false, .int .i64 msi], .int .i64 code, .slice la ln lc, .slice none 0 0] W fun e w' => ∃ rq rcq ra rca rs rcs rd rcd, e = .returned (.agg #[.int .i64 mid, .bool true, .int .i64 mop, .bool false, .bool false, .bool mde, .bool true, .int .i64 code, .slice rq mnq rcq, .slice ra ln rca, .slice rs 0 rcs, .slice rd 0 rcd, .bool false, .int .i64 0]) ∧ SlC w' 3 (.slice rq mnq rcq) mnq cq ∧ SlC w' 5 (.slice ra ln rca) ln cl ∧ Below W.heap.size W w'))
    (HREF : Hid (∀ W, Below w.heap.size w W → Calls Try.prog 16 #[.agg #[.int .i64 mid, .bool mre, .int .i64 mop, .bool mau, .bool mcu, .bool mde, .bool mav, .int .i64 mco, .slice xq mnq xcq, .slice xa mna xca, .slice xs mns xcs, .slice xd mnd xcd, .bool false, .int .i64 msi], .int .i64 code] W fun e w' => ∃ sq scq sa sca ss scs sd scd, e = .returned (.agg #[.int .i64 mid, .bool true, .int .i64 mop, .bool false, .bool false, .bool mde, .bool true, .int .i64 code, .slice sq mnq scq, .slice sa 0 sca, .slice ss 0 scs, .slice sd 0 scd, .bool false, .int .i64 0]) ∧ Below W.heap.size W w'))
    (HRRS : Hid (∀ W ra rca, Below w.heap.size w W → SlC W 5 (.slice ra ln rca) ln cl → Calls Try.prog 27 #[.slice ra ln rca, .slice la ln lc] W fun e w' => e = .returned (.bool true) ∧ Below W.heap.size W w'))
    (HMQ : Hid (SlC w 3 (.slice xq mnq xcq) mnq cq))
    (HENC : Hid (∀ k, k < mnq → ∃ n t c, cq[k * 3]? = some (.string (mk n)) ∧ cq[k * 3 + 1]? = some (.int .i64 t) ∧ cq[k * 3 + 2]? = some (.int .i64 c))) :
    Calls Try.prog 6 #[.agg #[.int .i64 mid, .bool mre, .int .i64 mop, .bool mau, .bool mcu, .bool mde, .bool mav, .int .i64 mco, .slice xq mnq xcq, .slice xa mna xca, .slice xs mns xcs, .slice xd mnd xcd, .bool false, .int .i64 msi], .int .i64 code, .slice la ln lc] w fun e w' => e = .returned (.bool true) ∧ Below w.heap.size w w' := by
  have hb0 : Below w.heap.size w (w.alloc (.cells #[.int .i64 mid, .bool mre, .int .i64 mop, .bool mau, .bool mcu, .bool mde, .bool mav, .int .i64 mco, .slice xq mnq xcq, .slice xa mna xca, .slice xs mns xcs, .slice xd mnd xcd, .bool false, .int .i64 msi] 27)) := (Below.refl _ w).alloc (Nat.le_refl _) _
  have hM0 : (w.alloc (.cells #[.int .i64 mid, .bool mre, .int .i64 mop, .bool mau, .bool mcu, .bool mde, .bool mav, .int .i64 mco, .slice xq mnq xcq, .slice xa mna xca, .slice xs mns xcs, .slice xd mnd xcd, .bool false, .int .i64 msi] 27)).heap[w.heap.size]? = some (.cells #[.int .i64 mid, .bool mre, .int .i64 mop, .bool mau, .bool mcu, .bool mde, .bool mav, .int .i64 mco, .slice xq mnq xcq, .slice xa mna xca, .slice xs mns xcs, .slice xd mnd xcd, .bool false, .int .i64 msi] 27 (0, 0)) := World.alloc_heap_new w _
  have HB0 := Go.Lib.hid hb0
  have HM0 := Go.Lib.hid hM0
  clear hb0 hM0
  go_enter Try.func6, Try.ntmps6
  go_wp2_with fail
  refine (HSM.out _ HB0.out).mono ?_; rintro e w1 ⟨rfl, hx⟩
  have hb1 := HB0.out.trans (hx.mono HB0.out.size)
  have hM1 := (hx.block _ (Array.getElem?_eq_some_iff.1 HM0.out).1).trans HM0.out
  clear hx HM0 HB0
  have HB1 := Go.Lib.hid hb1
  have HM1 := Go.Lib.hid hM1
  clear hb1 hM1
  go_wp2_with fail
  refine (HRC.out _ HB1.out).mono ?_; rintro e w2 ⟨rfl, hx⟩
  have hb2 := HB1.out.trans (hx.mono HB1.out.size)
  have hM2 := (hx.block _ (Array.getElem?_eq_some_iff.1 HM1.out).1).trans HM1.out
  clear hx HM1 HB1
  have hg := cell_of_heap hM2
  have m0 := hg 0
  have m1 := hg 1
  have m2 := hg 2
  have m3 := hg 3
  have m4 := hg 4
  have m5 := hg 5
  have m6 := hg 6
  have m7 := hg 7
  have m8 := hg 8
  have m9 := hg 9
  have m10 := hg 10
  have m11 := hg 11
  have m12 := hg 12
  have m13 := hg 13
  simp only [List.getElem?_toArray, List.getElem?_cons_succ, List.getElem?_cons_zero] at m0 m1 m2 m3 m4 m5 m6 m7 m8 m9 m10 m11 m12 m13
  clear hg
  have HB2 := Go.Lib.hid hb2
  have HM2 := Go.Lib.hid hM2
  clear hb2 hM2
  go_wp2_with fail
  refine (HREP.out _ HB2.out).mono ?_; rintro e w3 ⟨rq, rcq, ra, rca, rs, rcs, rd, rcd, rfl, hq3, hl3, hx⟩
  have hb3 := HB2.out.trans (hx.mono HB2.out.size)
  have hz3 := hb3.size
  have hM3 := heap_old ((hx.block _ (Array.getElem?_eq_some_iff.1 HM2.out).1).trans HM2.out) (.cells #[.int .i64 mid, .bool true, .int .i64 mop, .bool false, .bool false, .bool mde, .bool true, .int .i64 code, .slice rq mnq rcq, .slice ra ln rca, .slice rs 0 rcs, .slice rd 0 rcd, .bool false, .int .i64 0] 27)
  have hR3 : (w3.alloc (.cells #[.int .i64 mid, .bool true, .int .i64 mop, .bool false, .bool false, .bool mde, .bool true, .int .i64 code, .slice rq mnq rcq, .slice ra ln rca, .slice rs 0 rcs, .slice rd 0 rcd, .bool false, .int .i64 0] 27)).heap[w3.heap.size]? = some (.cells #[.int .i64 mid, .bool true, .int .i64 mop, .bool false, .bool false, .bool mde, .bool true, .int .i64 code, .slice rq mnq rcq, .slice ra ln rca, .slice rs 0 rcs, .slice rd 0 rcd, .bool false, .int .i64 0] 27 (0, 0)) := World.alloc_heap_new _ _
  have hb4 : Below w.heap.size w (w3.alloc (.cells #[.int .i64 mid, .bool true, .int .i64 mop, .bool false, .bool false, .bool mde, .bool true, .int .i64 code, .slice rq mnq rcq, .slice ra ln rca, .slice rs 0 rcs, .slice rd 0 rcd, .bool false, .int .i64 0] 27)) := hb3.alloc hz3 _
  have hq4 := hq3.below ((Below.refl _ w3).alloc (Nat.le_refl _) (.cells #[.int .i64 mid, .bool true, .int .i64 mop, .bool false, .bool false, .bool mde, .bool true, .int .i64 code, .slice rq mnq rcq, .slice ra ln rca, .slice rs 0 rcs, .slice rd 0 rcd, .bool false, .int .i64 0] 27)) (Nat.le_refl _)
  have hl4 := hl3.below ((Below.refl _ w3).alloc (Nat.le_refl _) (.cells #[.int .i64 mid, .bool true, .int .i64 mop, .bool false, .bool false, .bool mde, .bool true, .int .i64 code, .slice rq mnq rcq, .slice ra ln rca, .slice rs 0 rcs, .slice rd 0 rcd, .bool false, .int .i64 0] 27)) (Nat.le_refl _)
  have hone : (#[.int .i64 mid, .bool true, .int .i64 mop, .bool false, .bool false, .bool mde, .bool true, .int .i64 code, .slice rq mnq rcq, .slice ra ln rca, .slice rs 0 rcs, .slice rd 0 rcd, .bool false, .int .i64 0] : Array Value).all (·.oneCell') = true := by simp [Value.oneCell']
  clear hx hq3 hl3 HM2 HB2 m0 m1 m2 m3 m4 m5 m6 m7 m8 m9 m10 m11 m12 m13 hb3
  have hg := cell_of_heap hM3
  have m0 := hg 0
  have m1 := hg 1
  have m2 := hg 2
  have m3 := hg 3
  have m4 := hg 4
  have m5 := hg 5
  have m6 := hg 6
  have m7 := hg 7
  have m8 := hg 8
  have m9 := hg 9
  have m10 := hg 10
  have m11 := hg 11
  have m12 := hg 12
  have m13 := hg 13
  simp only [List.getElem?_toArray, List.getElem?_cons_succ, List.getElem?_cons_zero] at m0 m1 m2 m3 m4 m5 m6 m7 m8 m9 m10 m11 m12 m13
  clear hg
  have HB4 := Go.Lib.hid hb4
  have HM3 := Go.Lib.hid hM3
  have HR3 := Go.Lib.hid hR3
  have HQ4 := Go.Lib.hid hq4
  have HL4 := Go.Lib.hid hl4
  have HONE := Go.Lib.hid hone
  clear hb4 hM3 hR3 hq4 hl4 hone
  go_wp2_with (refine wpList_store_row rfl 27 (.tmp 7) (.tmp 22) rfl w3.heap.size #[.int .i64 mid, .bool true, .int .i64 mop, .bool false, .bool false, .bool mde, .bool true, .int .i64 code, .slice rq mnq rcq, .slice ra ln rca, .slice rs 0 rcs, .slice rd 0 rcd, .bool false, .int .i64 0] rfl rfl _ _ (World.alloc_heap_new _ _) infoMsg rfl HONE.out ?_; rw [World.setRow_alloc_new])
  refine (HREF.out _ HB4.out).mono ?_; rintro e w4 ⟨sq, scq, sa, sca, ss, scs, sd, scd, rfl, hx⟩
  have hb5 := HB4.out.trans (hx.mono HB4.out.size)
  have hz5 := hb5.size
  have hM5 := heap_old ((hx.block _ (Array.getElem?_eq_some_iff.1 HM3.out).1).trans HM3.out) (.cells #[.int .i64 mid, .bool true, .int .i64 mop, .bool false, .bool false, .bool mde, .bool true, .int .i64 code, .slice sq mnq scq, .slice sa 0 sca, .slice ss 0 scs, .slice sd 0 scd, .bool false, .int .i64 0] 27)
  have hR5 := heap_old ((hx.block _ (Array.getElem?_eq_some_iff.1 HR3.out).1).trans HR3.out) (.cells #[.int .i64 mid, .bool true, .int .i64 mop, .bool false, .bool false, .bool mde, .bool true, .int .i64 code, .slice sq mnq scq, .slice sa 0 sca, .slice ss 0 scs, .slice sd 0 scd, .bool false, .int .i64 0] 27)
  have hS5 : (w4.alloc (.cells #[.int .i64 mid, .bool true, .int .i64 mop, .bool false, .bool false, .bool mde, .bool true, .int .i64 code, .slice sq mnq scq, .slice sa 0 sca, .slice ss 0 scs, .slice sd 0 scd, .bool false, .int .i64 0] 27)).heap[w4.heap.size]? = some (.cells #[.int .i64 mid, .bool true, .int .i64 mop, .bool false, .bool false, .bool mde, .bool true, .int .i64 code, .slice sq mnq scq, .slice sa 0 sca, .slice ss 0 scs, .slice sd 0 scd, .bool false, .int .i64 0] 27 (0, 0)) := World.alloc_heap_new _ _
  have hb6 : Below w.heap.size w (w4.alloc (.cells #[.int .i64 mid, .bool true, .int .i64 mop, .bool false, .bool false, .bool mde, .bool true, .int .i64 code, .slice sq mnq scq, .slice sa 0 sca, .slice ss 0 scs, .slice sd 0 scd, .bool false, .int .i64 0] 27)) := hb5.alloc hz5 _
  have hq6 := (HQ4.out.below hx (Nat.le_refl _)).below ((Below.refl _ w4).alloc (Nat.le_refl _) (.cells #[.int .i64 mid, .bool true, .int .i64 mop, .bool false, .bool false, .bool mde, .bool true, .int .i64 code, .slice sq mnq scq, .slice sa 0 sca, .slice ss 0 scs, .slice sd 0 scd, .bool false, .int .i64 0] 27)) (Nat.le_refl _)
  have hl6 := (HL4.out.below hx (Nat.le_refl _)).below ((Below.refl _ w4).alloc (Nat.le_refl _) (.cells #[.int .i64 mid, .bool true, .int .i64 mop, .bool false, .bool false, .bool mde, .bool true, .int .i64 code, .slice sq mnq scq, .slice sa 0 sca, .slice ss 0 scs, .slice sd 0 scd, .bool false, .int .i64 0] 27)) (Nat.le_refl _)
  have hone2 : (#[.int .i64 mid, .bool true, .int .i64 mop, .bool false, .bool false, .bool mde, .bool true, .int .i64 code, .slice sq mnq scq, .slice sa 0 sca, .slice ss 0 scs, .slice sd 0 scd, .bool false, .int .i64 0] : Array Value).all (·.oneCell') = true := by simp [Value.oneCell']
  clear hx HQ4 HL4 HM3 HR3 HB4 m0 m1 m2 m3 m4 m5 m6 m7 m8 m9 m10 m11 m12 m13 hb5
  have hg := cell_of_heap hM5
  have m0 := hg 0
  have m1 := hg 1
  have m2 := hg 2
  have m3 := hg 3
  have m4 := hg 4
  have m5 := hg 5
  have m6 := hg 6
  have m7 := hg 7
  have m8 := hg 8
  have m9 := hg 9
  have m10 := hg 10
  have m11 := hg 11
  have m12 := hg 12
  have m13 := hg 13
  simp only [List.getElem?_toArray, List.getElem?_cons_succ, List.getElem?_cons_zero] at m0 m1 m2 m3 m4 m5 m6 m7 m8 m9 m10 m11 m12 m13
  clear hg
  have hg := cell_of_heap hR5
  have r0 := hg 0
  have r1 := hg 1
  have r2 := hg 2
  have r3 := hg 3
  have r4 := hg 4
  have r5 := hg 5
  have r6 := hg 6
  have r7 := hg 7
  have r8 := hg 8
  have r9 := hg 9
  have r10 := hg 10
  have r11 := hg 11
  have r12 := hg 12
  have r13 := hg 13
  simp only [List.getElem?_toArray, List.getElem?_cons_succ, List.getElem?_cons_zero] at r0 r1 r2 r3 r4 r5 r6 r7 r8 r9 r10 r11 r12 r13
  clear hg
  have HB6 := Go.Lib.hid hb6
  have HM5 := Go.Lib.hid hM5
  have HR5 := Go.Lib.hid hR5
  have HS5 := Go.Lib.hid hS5
  have HQ6 := Go.Lib.hid hq6
  have HL6 := Go.Lib.hid hl6
  have HONE2 := Go.Lib.hid hone2
  clear hb6 hM5 hR5 hS5 hq6 hl6 hone2
  go_wp2_with (refine wpList_store_row rfl 27 (.tmp 8) (.tmp 25) rfl w4.heap.size #[.int .i64 mid, .bool true, .int .i64 mop, .bool false, .bool false, .bool mde, .bool true, .int .i64 code, .slice sq mnq scq, .slice sa 0 sca, .slice ss 0 scs, .slice sd 0 scd, .bool false, .int .i64 0] rfl rfl _ _ (World.alloc_heap_new _ _) infoMsg rfl HONE2.out ?_; rw [World.setRow_alloc_new])
  generalize w4.alloc (.cells #[.int .i64 mid, .bool true, .int .i64 mop, .bool false, .bool false, .bool mde, .bool true, .int .i64 code, .slice sq mnq scq, .slice sa 0 sca, .slice ss 0 scs, .slice sd 0 scd, .bool false, .int .i64 0] 27) = X at *
  clear m0 m1 m2 m3 m4 m5 m6 m7 m8 m9 m10 m11 m12 m13 r0 r1 r2 r3 r4 r5 r6 r7 r8 r9 r10 r11 r12 r13
  have HMQX := Go.Lib.hid (HMQ.out.below HB6.out (Nat.le_refl _))
  have hcapq := (slc_bounds HMQ.out)
  obtain ⟨hcq1, hcq2⟩ := hcapq
  unfold maxLen at hcq2
  go_loopw [9] (fun i wr => ∃ k : Nat, i = .int .i64 k ∧ k ≤ mnq ∧ Below X.heap.size X wr) (fun i _ => mnq - (intOf i).toNat)
  case atStart => exact ⟨0, rfl, by omega, Below.refl _ _⟩
  case round =>
    obtain ⟨k, rfl, hk, hbr⟩ := hrel
    have hM7 := (hbr.block _ (Array.getElem?_eq_some_iff.1 HM5.out).1).trans HM5.out
    have hR7 := (hbr.block _ (Array.getElem?_eq_some_iff.1 HR5.out).1).trans HR5.out
    have hlM := (Array.getElem?_eq_some_iff.1 hM7).1
    have hlR := (Array.getElem?_eq_some_iff.1 hR7).1
    have hbb := HB6.out.trans (hbr.mono HB6.out.size)
    have hg := cell_of_heap hM7
    have m0 := hg 0
    have m1 := hg 1
    have m2 := hg 2
    have m3 := hg 3
    have m4 := hg 4
    have m5 := hg 5
    have m6 := hg 6
    have m7 := hg 7
    have m8 := hg 8
    simp only [List.getElem?_toArray, List.getElem?_cons_succ, List.getElem?_cons_zero] at m0 m1 m2 m3 m4 m5 m6 m7 m8
    clear hg
    have hg := cell_of_heap hR7
    have r0 := hg 0
    have r1 := hg 1
    have r2 := hg 2
    have r3 := hg 3
    have r4 := hg 4
    have r5 := hg 5
    have r6 := hg 6
    have r7 := hg 7
    have r8 := hg 8
    have r9 := hg 9
    have r10 := hg 10
    have r11 := hg 11
    simp only [List.getElem?_toArray, List.getElem?_cons_succ, List.getElem?_cons_zero] at r0 r1 r2 r3 r4 r5 r6 r7 r8 r9 r10 r11
    clear hg

    have HB := Go.Lib.hid hbr
    have HBB := Go.Lib.hid hbb
    have HM7 := Go.Lib.hid hM7
    have HR7 := Go.Lib.hid hR7
    clear hbr hbb hM7 hR7
    by_cases hlt : k < mnq
    · obtain ⟨_, b, off, rfl, hbw, hcell⟩ := SlC.at (HMQX.out.below HB.out (Nat.le_refl _)) (by omega)
      obtain ⟨_, b', off', rfl, hbw', hcell'⟩ := SlC.at (HQ6.out.below HB.out (Nat.le_refl _)) (by omega)
      obtain ⟨n, t, c, h0, h1, h2⟩ := HENC.out k hlt
      have c0 := (hcell (k * 3) (by omega)).trans h0
      have c1 := (hcell (k * 3 + 1) (by omega)).trans h1
      have c2 := (hcell (k * 3 + 2) (by omega)).trans h2
      have d0 := (hcell' (k * 3) (by omega)).trans h0
      have d1 := (hcell' (k * 3 + 1) (by omega)).trans h1
      have d2 := (hcell' (k * 3 + 2) (by omega)).trans h2
      rw [← Nat.add_assoc] at c1 c2 d1 d2
      clear hcell hcell' h0 h1 h2
      have C0 := BelowC.cell (W := wr) c0 hbw
      have C1 := BelowC.cell (W := wr) c1 hbw
      have C2 := BelowC.cell (W := wr) c2 hbw
      have D0 := BelowC.cell (W := wr) d0 hbw'
      have D1 := BelowC.cell (W := wr) d1 hbw'
      have D2 := BelowC.cell (W := wr) d2 hbw'
      have M8 := BelowC.cell (W := wr) m8 hlM
      have R8 := BelowC.cell (W := wr) r8 hlR
      have hne : Nonempty (Subtype (Below wr.heap.size wr)) := ⟨⟨wr, Below.refl _ _⟩⟩
      have HLT := Go.Lib.hid hlt
      clear c0 c1 c2 d0 d1 d2
      go_wp2_with fail
      refine Go.Mix.wp_region_mix (Es := []) (Below wr.heap.size wr) mixed (by kernel_rfl) (Below.refl _ _).drew (fun _ => ?_)
      iterate 11 (refine Go.Mix.mix_step rfl (fun K hK => ?_); have HKK := Go.Lib.hid hK; clear hK; go_simp; refine HKK.out _ _ ?_; clear HKK K)
      refine Go.Mix.mix_nil ?_
      go_wp2_with fail
      go_roundw
      case rel => exact ⟨k + 1, by go_num, HLT.out, HB.out.drew⟩
      case measure => have := HLT.out; simp [intOf]; omega
    · obtain rfl : k = mnq := by omega
      have hrr := HRRS.out wr ra rca HBB.out (HL6.out.below HB.out (Nat.le_refl _))
      have HRR := Go.Lib.hid hrr
      clear hrr
      go_wp2_with fail
      refine HRR.out.mono ?_; rintro e wz ⟨rfl, hx⟩
      have hR8 := (hx.block _ hlR).trans HR7.out
      have hS8 := (hx.block _ (Nat.lt_of_lt_of_le (Array.getElem?_eq_some_iff.1 HS5.out).1 HB.out.size)).trans ((HB.out.block _ (Array.getElem?_eq_some_iff.1 HS5.out).1).trans HS5.out)
      have hb9 := HBB.out.trans (hx.mono HBB.out.size)
      have hg := cell_of_heap hR8
      have p0 := hg 0
      have p1 := hg 1
      have p2 := hg 2
      have p3 := hg 3
      have p4 := hg 4
      have p5 := hg 5
      have p6 := hg 6
      have p7 := hg 7
      have p8 := hg 8
      have p9 := hg 9
      have p10 := hg 10
      have p11 := hg 11
      simp only [List.getElem?_toArray, List.getElem?_cons_succ, List.getElem?_cons_zero] at p0 p1 p2 p3 p4 p5 p6 p7 p8 p9 p10 p11
      clear hg
      have hg := cell_of_heap hS8
      have s0 := hg 0
      have s1 := hg 1
      have s2 := hg 2
      have s3 := hg 3
      have s4 := hg 4
      have s5 := hg 5
      have s6 := hg 6
      have s7 := hg 7
      have s8 := hg 8
      have s9 := hg 9
      simp only [List.getElem?_toArray, List.getElem?_cons_succ, List.getElem?_cons_zero] at s0 s1 s2 s3 s4 s5 s6 s7 s8 s9
      clear hg

      clear hx m0 m1 m2 m3 m4 m5 m6 m7 m8 r0 r1 r2 r3 r4 r5 r6 r7 r8 r9 r10 r11
      have HR8 := Go.Lib.hid hR8
      have HS8 := Go.Lib.hid hS8
      have HB9 := Go.Lib.hid hb9
      clear hR8 hS8 hb9
      go_wp2_with fail
      refine (HAW.out _).mono ?_; rintro e wy ⟨rfl, hx⟩
      have HXX := Go.Lib.hid hx
      clear hx
      go_wp2_with fail
      go_ret
      exact ⟨rfl, HB9.out.trans (HXX.out.mono HB9.out.size)⟩


set_option maxHeartbeats 4000000 in
theorem walk (m : Msg) (v1 v2 v3 v4 : Value) (code : Int) (la : Option Addr) (l : List Rc.RR) (lc : Nat) (w : World) (hm : MsgL w m v1 v2 v3 v4) (hmf : MsgFit m) (hcd : Fits code) (hl : RRs w (.slice la l.length lc) l) (hlf : ∀ r ∈ l, RRFit r) :
    Calls Try.prog 6 #[MV m v1 v2 v3 v4, .int .i64 code, .slice la l.length lc] w fun e w' => e = .returned (.bool true) ∧ Below w.heap.size w w' := by
  obtain ⟨xq, xcq, rfl, _, _⟩ := hm.qs.slice
  obtain ⟨xa, xca, rfl, _, _⟩ := hm.an.slice
  obtain ⟨xs, xcs, rfl, _, _⟩ := hm.sv.slice
  obtain ⟨xd, xcd, rfl, _, _⟩ := hm.ad.slice
  have hrok : ∀ r ∈ l, RROk r := fun r hr => (hlf r hr).1
  have haw := Go.Lib.hid awake5_any
  have hsm := fun (b : Bool) (hb : smallB m 2000 = b) => Go.Lib.hid fun (W : World) (h : Below w.heap.size w W) => hb ▸ Small_any m _ _ _ _ 2000 W (hm.below h (Nat.le_refl _)) (by decide) hmf.ok
  have hrc := fun (b : Bool) (hb : recordsB l 2000 = b) => Go.Lib.hid fun (W : World) (h : Below w.heap.size w W) => hb ▸ Records_any l la lc 2000 W (SlC.below hl h (Nat.le_refl _)) (by decide) hrok
  obtain ⟨b, hed⟩ : ∃ b, m.edns = b := ⟨_, rfl⟩
  simp only [MV, MC, hed] at hsm ⊢
  cases b with
  | true =>
      cases hb1 : smallB m 2000 with
      | false => exact t1T _ _ _ _ _ _ _ _ _ _ _ _ _ _ _ _ _ _ _ _ _ _ _ _ _ _ haw (hsm _ hb1)
      | true =>
        cases hb3 : recordsB l 2000 with
        | false => exact t2T _ _ _ _ _ _ _ _ _ _ _ _ _ _ _ _ _ _ _ _ _ _ _ _ _ _ haw (hsm _ hb1) (hrc _ hb3)
        | true =>
          have hs : m.qs.length ≤ 1000000 := by
            unfold smallB at hb1
            simp only [Bool.and_eq_true, decide_eq_true_eq] at hb1
            obtain ⟨⟨⟨⟨h1, _⟩, _⟩, h4⟩, _⟩ := hb1
            omega
          have hll : l.length ≤ 1000000 := by have := (recordsB_true hb3).1; omega
          refine t3T _ _ _ _ _ _ _ _ _ _ _ _ _ _ _ _ _ _ _ _ _ _ _ _ _ _ (encQn m.qs) (encR l) haw (hsm _ hb1) (hrc _ hb3) (Go.Lib.hid fun W h => ?_) (Go.Lib.hid fun W h => ?_) (Go.Lib.hid fun W ra rca h hs2 => ?_) (Go.Lib.hid hm.qs) (Go.Lib.hid fun k hk => ?_)
          · have hr := Reply_any m _ _ _ _ code (.slice la l.length lc) (.slice none 0 0) l [] W (hm.below h (Nat.le_refl _)) (SlC.below hl h (Nat.le_refl _)) (SlC.nil _ _) hs hll (by decide)
            simp only [MV, MC, hed] at hr
            refine hr.mono ?_
            rintro e w' ⟨q, a, s, d, rfl, ht, hb⟩
            obtain ⟨aq, cq, aa, ca, as', cs, ad, cd, rfl, rfl, rfl, rfl⟩ := ht.places
            refine ⟨aq, cq, aa, ca, as', cs, ad, cd, ?_, ht.qs.1, ht.an.1, hb⟩
            simp [MV, MC, replyN, hed]
          · have hr := Refuse_any m _ _ _ _ code W (hm.below h (Nat.le_refl _)) hs
            simp only [MV, MC, hed] at hr
            refine hr.mono ?_
            rintro e w' ⟨q, a, s, d, rfl, ht, hb⟩
            obtain ⟨aq, cq, aa, ca, as', cs, ad, cd, rfl, rfl, rfl, rfl⟩ := ht.places
            refine ⟨aq, cq, aa, ca, as', cs, ad, cd, ?_, hb⟩
            simp [MV, MC, replyN, hed]
          · exact RRs_same l ra la rca lc W hs2 (SlC.below hl h (Nat.le_refl _))
          · obtain ⟨e0, e1, e2⟩ := encQn_get m.qs k hk
            exact ⟨_, _, _, e0, e1, e2⟩

  | false =>
      cases hb1 : smallB m 2000 with
      | false => exact t1F _ _ _ _ _ _ _ _ _ _ _ _ _ _ _ _ _ _ _ _ _ _ _ _ _ _ haw (hsm _ hb1)
      | true =>
        cases hb3 : recordsB l 2000 with
        | false => exact t2F _ _ _ _ _ _ _ _ _ _ _ _ _ _ _ _ _ _ _ _ _ _ _ _ _ _ haw (hsm _ hb1) (hrc _ hb3)
        | true =>
          have hs : m.qs.length ≤ 1000000 := by
            unfold smallB at hb1
            simp only [Bool.and_eq_true, decide_eq_true_eq] at hb1
            obtain ⟨⟨⟨⟨h1, _⟩, _⟩, h4⟩, _⟩ := hb1
            omega
          have hll : l.length ≤ 1000000 := by have := (recordsB_true hb3).1; omega
          refine t3F _ _ _ _ _ _ _ _ _ _ _ _ _ _ _ _ _ _ _ _ _ _ _ _ _ _ (encQn m.qs) (encR l) haw (hsm _ hb1) (hrc _ hb3) (Go.Lib.hid fun W h => ?_) (Go.Lib.hid fun W h => ?_) (Go.Lib.hid fun W ra rca h hs2 => ?_) (Go.Lib.hid hm.qs) (Go.Lib.hid fun k hk => ?_)
          · have hr := Reply_any m _ _ _ _ code (.slice la l.length lc) (.slice none 0 0) l [] W (hm.below h (Nat.le_refl _)) (SlC.below hl h (Nat.le_refl _)) (SlC.nil _ _) hs hll (by decide)
            simp only [MV, MC, hed] at hr
            refine hr.mono ?_
            rintro e w' ⟨q, a, s, d, rfl, ht, hb⟩
            obtain ⟨aq, cq, aa, ca, as', cs, ad, cd, rfl, rfl, rfl, rfl⟩ := ht.places
            refine ⟨aq, cq, aa, ca, as', cs, ad, cd, ?_, ht.qs.1, ht.an.1, hb⟩
            simp [MV, MC, replyN, hed]
          · have hr := Refuse_any m _ _ _ _ code W (hm.below h (Nat.le_refl _)) hs
            simp only [MV, MC, hed] at hr
            refine hr.mono ?_
            rintro e w' ⟨q, a, s, d, rfl, ht, hb⟩
            obtain ⟨aq, cq, aa, ca, as', cs, ad, cd, rfl, rfl, rfl, rfl⟩ := ht.places
            refine ⟨aq, cq, aa, ca, as', cs, ad, cd, ?_, hb⟩
            simp [MV, MC, replyN, hed]
          · exact RRs_same l ra la rca lc W hs2 (SlC.below hl h (Nat.le_refl _))
          · obtain ⟨e0, e1, e2⟩ := encQn_get m.qs k hk
            exact ⟨_, _, _, e0, e1, e2⟩


set_option maxRecDepth 100000 in
theorem lifted (os : Os) (started : os.Started) (H : Type) (enc : TypeId × Value → H) :
    ReturnsInHanded {} Try.checked os 6 .any (Rows.matchRepliesSpec.pre6 enc Try.prog Try.f6 Rows.matchRepliesRow.domain false) (Rows.matchRepliesSpec.post enc Try.prog Try.f6 false true false false) := by
  refine returnsInHanded_of_change (C := Try.checked) own started (by kernel_rfl) Try.func6
    (ChangeSpec.witness6 (enc := enc) (C := Try.checked) false ⟨#[], #[.agg #[.int .i64 0, .bool false, .int .i64 0, .bool false, .bool false, .bool false, .bool false, .int .i64 0, .slice none 0 0, .slice none 0 0, .slice none 0 0, .slice none 0 0, .bool false, .int .i64 0], .int .i64 0, .slice none 0 0], []⟩ 8 (by kernel_rfl) (by kernel_rfl) (by kernel_rfl) (by kernel_rfl)) ?_
  intro W base args ds gs before hval0 hW hcnd _
  have hval : ∀ (j : Nat) t v, Try.f6.params[j]? = some t → args[j]? = some v → Value.okWide Try.prog W .any base t v := hval0
  refine law_post enc 3 (by kernel_rfl) rfl rfl (by kernel_rfl) (fun ds h => match ds, h with | [_, _, _], _ => rfl) hW ?_
  obtain ⟨p, q, hA0, hV, rfl, _, _⟩ := hW
  have hA : DataW.TrodAll enc Try.prog W 0 (fun _ => true) true Try.f6.params.toList args.toList ds p := hA0
  rw [Try.params6] at hA hval
  obtain ⟨v0, vs0, d0, ds0, p0, q0, hargs, rfl, rfl, h0, r0⟩ := trodAll_cons hA
  obtain ⟨v1, vs1, d1, ds1, p1, q1, rfl, rfl, rfl, h1, r1⟩ := trodAll_cons r0
  obtain ⟨v2, vs2, d2, ds2, p2, q2, rfl, rfl, rfl, h2, r2⟩ := trodAll_cons r1
  obtain ⟨rfl, rfl, rfl⟩ := trodAll_nil r2
  obtain rfl : args = #[v0, v1, v2] := by cases args; simp_all
  obtain ⟨m0, a0, b0, c0, e0, rfl, l0, w0⟩ := open_Msg (hval 0 27 v0 rfl rfl) h0
  obtain ⟨a1, rfl, rfl, rfl, w1⟩ := open_int Try.underlying3 (hval 1 3 v1 rfl rfl) h1
  obtain ⟨a2, z2, c2, rfl, l2, w2⟩ := open_RRs (hval 2 25 v2 rfl rfl) h2
  exact walk m0 a0 b0 c0 e0 a1 a2 z2 c2 W l0 w0 (fits_of_wf w1) l2 w2

theorem over : Rows.matchRepliesRow.holds Try.pinned (OpenSpec.ofChange Rows.matchRepliesSpec) :=
  OpenClaim.holds_of_wide 6 Try.f6 rfl rfl rfl rfl rfl rfl rfl ⟨rfl, rfl, rfl, rfl, rfl⟩ rfl rfl rfl rfl rfl (by kernel_rfl) Try.func6 (by kernel_rfl)
    (of_decide_eq_true (by kernel_rfl)) (by unfold Func.isWrapper; first | (rw [if_pos (by decide +kernel)]; kernel_rfl) | (rw [if_neg (by decide +kernel)]; exact ⟨rfl, rfl⟩))
    (fun os started H enc _ => lifted os started H enc)

/-- the statement -/
theorem proved : Rows.MatchRepliesSaid := over
#print axioms proved
end Go.Proofs.Ytcamopppeanipaa.matchReplies

