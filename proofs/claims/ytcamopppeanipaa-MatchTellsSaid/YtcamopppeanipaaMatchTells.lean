/- MatchTells: of any messages and records, what is asked, whose answer one is, how it is answered, and which sets there are, is as the document says. For every input; no conditions. -/
import Derived.Test.YtcamopppeanipaaMgF
import Derived.Test.YtcamopppeanipaaRpC
import Derived.Test.YtcamopppeanipaaOpnM
import Derived.Test.YtcamopppeanipaaOrdC
namespace Go.Proofs.Ytcamopppeanipaa.matchTells
open Go.ChangeShapes Go.WideShapes Go.ChangeAt Go.RowKit
open Go.ChangeMaps (open_string shut_string)
set_option linter.unusedVariables false

theorem walkG_neg (gs : List Gr) : walkG (-1) gs = gs := by
  unfold walkG
  rw [if_neg (by omega)]
theorem grp_of_own {w : World} {base : Nat} {v : Value} {gs : List Gr} {vs : List Value} (h : Rf.OwnsG w base v gs vs) : GrpV w v gs := by
  have hl := h.len
  have hz : (gs.zip vs).map Prod.fst = gs := List.map_fst_zip (Nat.le_of_eq hl.symm)
  have hz2 : (gs.zip vs).map Prod.snd = vs := List.map_snd_zip (Nat.le_of_eq hl)
  have hlen : (gs.zip vs).length = gs.length := by rw [List.length_zip]; omega
  refine ⟨gs.zip vs, hz, ?_, fun x hx => ?_⟩
  · rw [encQ_eq, hz, hz2, hlen]
    exact SlC.of_owns h.row
  · obtain ⟨i, hi, rfl⟩ := List.getElem_of_mem hx
    have hi2 : i < gs.length := by omega
    have hi3 : i < vs.length := by omega
    have := SlC.of_owns (h.each i hi2)
    simp only [List.getD_eq_getElem?_getD, List.getElem?_eq_getElem hi2, List.getElem?_eq_getElem hi3, Option.getD_some] at this
    rw [List.getElem_zip]
    exact this

set_option maxRecDepth 100000 in
set_option maxHeartbeats 16000000 in
theorem t1 (id code : Int) (qn : List UInt8) (qt qc : Int) (mid mop mco msi : Int) (mre mau mcu mde mav med : Bool) (xq xa xs xd : Option Addr) (mnq mna mns mnd xcq xca xcs xcd : Nat) (oid oop oco osi : Int) (ore oau ocu ode oav oed : Bool) (yq ya ys yd : Option Addr) (onq ona ons ond ycq yca ycs ycd : Nat) (la : Option Addr) (ln lc : Nat) (w : World) (hqn : qn.length ≤ maxLen) (hlong : 400 < qn.length)
    (HAW : Hid (∀ W, Calls Try.prog 10 #[] W fun e w' => e = .returned (.bool true) ∧ Below W.heap.size W w')) :
    Calls Try.prog 3 #[.int .i64 id, .agg #[.string (mk qn), .int .i64 qt, .int .i64 qc], .agg #[.int .i64 mid, .bool mre, .int .i64 mop, .bool mau, .bool mcu, .bool mde, .bool mav, .int .i64 mco, .slice xq mnq xcq, .slice xa mna xca, .slice xs mns xcs, .slice xd mnd xcd, .bool med, .int .i64 msi], .agg #[.int .i64 oid, .bool ore, .int .i64 oop, .bool oau, .bool ocu, .bool ode, .bool oav, .int .i64 oco, .slice yq onq ycq, .slice ya ona yca, .slice ys ons ycs, .slice yd ond ycd, .bool oed, .int .i64 osi], .int .i64 code, .slice la ln lc] w fun e w' => e = .returned (.bool true) ∧ Below w.heap.size w w' := by
  have hb0 : Below w.heap.size w (((w.alloc (.cells #[.string (mk qn), .int .i64 qt, .int .i64 qc] 23)).alloc (.cells #[.int .i64 mid, .bool mre, .int .i64 mop, .bool mau, .bool mcu, .bool mde, .bool mav, .int .i64 mco, .slice xq mnq xcq, .slice xa mna xca, .slice xs mns xcs, .slice xd mnd xcd, .bool med, .int .i64 msi] 27)).alloc (.cells #[.int .i64 oid, .bool ore, .int .i64 oop, .bool oau, .bool ocu, .bool ode, .bool oav, .int .i64 oco, .slice yq onq ycq, .slice ya ona yca, .slice ys ons ycs, .slice yd ond ycd, .bool oed, .int .i64 osi] 27)) := (((Below.refl _ w).alloc (Nat.le_refl _) _).alloc (by simp) _).alloc (by simp; omega) _
  have hQ0 : (((w.alloc (.cells #[.string (mk qn), .int .i64 qt, .int .i64 qc] 23)).alloc (.cells #[.int .i64 mid, .bool mre, .int .i64 mop, .bool mau, .bool mcu, .bool mde, .bool mav, .int .i64 mco, .slice xq mnq xcq, .slice xa mna xca, .slice xs mns xcs, .slice xd mnd xcd, .bool med, .int .i64 msi] 27)).alloc (.cells #[.int .i64 oid, .bool ore, .int .i64 oop, .bool oau, .bool ocu, .bool ode, .bool oav, .int .i64 oco, .slice yq onq ycq, .slice ya ona yca, .slice ys ons ycs, .slice yd ond ycd, .bool oed, .int .i64 osi] 27)).heap[w.heap.size]? = some (.cells #[.string (mk qn), .int .i64 qt, .int .i64 qc] 23 (0, 0)) := heap_old (heap_old (World.alloc_heap_new w _) _) _
  have hM0 : (((w.alloc (.cells #[.string (mk qn), .int .i64 qt, .int .i64 qc] 23)).alloc (.cells #[.int .i64 mid, .bool mre, .int .i64 mop, .bool mau, .bool mcu, .bool mde, .bool mav, .int .i64 mco, .slice xq mnq xcq, .slice xa mna xca, .slice xs mns xcs, .slice xd mnd xcd, .bool med, .int .i64 msi] 27)).alloc (.cells #[.int .i64 oid, .bool ore, .int .i64 oop, .bool oau, .bool ocu, .bool ode, .bool oav, .int .i64 oco, .slice yq onq ycq, .slice ya ona yca, .slice ys ons ycs, .slice yd ond ycd, .bool oed, .int .i64 osi] 27)).heap[w.heap.size + 1]? = some (.cells #[.int .i64 mid, .bool mre, .int .i64 mop, .bool mau, .bool mcu, .bool mde, .bool mav, .int .i64 mco, .slice xq mnq xcq, .slice xa mna xca, .slice xs mns xcs, .slice xd mnd xcd, .bool med, .int .i64 msi] 27 (0, 0)) := heap_old (heap_new1 w _ _) _
  have hO0 : (((w.alloc (.cells #[.string (mk qn), .int .i64 qt, .int .i64 qc] 23)).alloc (.cells #[.int .i64 mid, .bool mre, .int .i64 mop, .bool mau, .bool mcu, .bool mde, .bool mav, .int .i64 mco, .slice xq mnq xcq, .slice xa mna xca, .slice xs mns xcs, .slice xd mnd xcd, .bool med, .int .i64 msi] 27)).alloc (.cells #[.int .i64 oid, .bool ore, .int .i64 oop, .bool oau, .bool ocu, .bool ode, .bool oav, .int .i64 oco, .slice yq onq ycq, .slice ya ona yca, .slice ys ons ycs, .slice yd ond ycd, .bool oed, .int .i64 osi] 27)).heap[w.heap.size + 1 + 1]? = some (.cells #[.int .i64 oid, .bool ore, .int .i64 oop, .bool oau, .bool ocu, .bool ode, .bool oav, .int .i64 oco, .slice yq onq ycq, .slice ya ona yca, .slice ys ons ycs, .slice yd ond ycd, .bool oed, .int .i64 osi] 27 (0, 0)) := by
    have := World.alloc_heap_new ((w.alloc (.cells #[.string (mk qn), .int .i64 qt, .int .i64 qc] 23)).alloc (.cells #[.int .i64 mid, .bool mre, .int .i64 mop, .bool mau, .bool mcu, .bool mde, .bool mav, .int .i64 mco, .slice xq mnq xcq, .slice xa mna xca, .slice xs mns xcs, .slice xd mnd xcd, .bool med, .int .i64 msi] 27)) (.cells #[.int .i64 oid, .bool ore, .int .i64 oop, .bool oau, .bool ocu, .bool ode, .bool oav, .int .i64 oco, .slice yq onq ycq, .slice ya ona yca, .slice ys ons ycs, .slice yd ond ycd, .bool oed, .int .i64 osi] 27)
    rwa [World.size_alloc, World.size_alloc] at this
  have hnm : (mk qn).size = qn.length := size_mk qn
  unfold maxLen at hqn
  have HB0 := Go.Lib.hid hb0
  have HQ0 := Go.Lib.hid hQ0
  have HM0 := Go.Lib.hid hM0
  have HO0 := Go.Lib.hid hO0
  clear hb0 hQ0 hM0 hO0
  have e1 : (400 : Int) < (qn.length : Int) := by omega
  clear hlong
  go_enter Try.func3, Try.ntmps3
  go_wp2_with fail
  refine (HAW.out _).mono ?_; rintro e wz ⟨rfl, hx⟩
  have HXX := Go.Lib.hid hx
  clear hx
  go_wp2_with fail
  go_ret
  exact ⟨rfl, HB0.out.trans (HXX.out.mono HB0.out.size)⟩

set_option maxRecDepth 100000 in
set_option maxHeartbeats 16000000 in
theorem t2 (id code : Int) (qn : List UInt8) (qt qc : Int) (mid mop mco msi : Int) (mre mau mcu mde mav med : Bool) (xq xa xs xd : Option Addr) (mnq mna mns mnd xcq xca xcs xcd : Nat) (oid oop oco osi : Int) (ore oau ocu ode oav oed : Bool) (yq ya ys yd : Option Addr) (onq ona ons ond ycq yca ycs ycd : Nat) (la : Option Addr) (ln lc : Nat) (w : World) (hqn : qn.length ≤ maxLen) (hlong : qn.length ≤ 400)
    (HAW : Hid (∀ W, Calls Try.prog 10 #[] W fun e w' => e = .returned (.bool true) ∧ Below W.heap.size W w'))
    (HSM : Hid (∀ W, Below w.heap.size w W → Calls Try.prog 8 #[.agg #[.int .i64 mid, .bool mre, .int .i64 mop, .bool mau, .bool mcu, .bool mde, .bool mav, .int .i64 mco, .slice xq mnq xcq, .slice xa mna xca, .slice xs mns xcs, .slice xd mnd xcd, .bool med, .int .i64 msi], .int .i64 3000] W fun e w' => e = .returned (.bool false) ∧ Below W.heap.size W w')) :
    Calls Try.prog 3 #[.int .i64 id, .agg #[.string (mk qn), .int .i64 qt, .int .i64 qc], .agg #[.int .i64 mid, .bool mre, .int .i64 mop, .bool mau, .bool mcu, .bool mde, .bool mav, .int .i64 mco, .slice xq mnq xcq, .slice xa mna xca, .slice xs mns xcs, .slice xd mnd xcd, .bool med, .int .i64 msi], .agg #[.int .i64 oid, .bool ore, .int .i64 oop, .bool oau, .bool ocu, .bool ode, .bool oav, .int .i64 oco, .slice yq onq ycq, .slice ya ona yca, .slice ys ons ycs, .slice yd ond ycd, .bool oed, .int .i64 osi], .int .i64 code, .slice la ln lc] w fun e w' => e = .returned (.bool true) ∧ Below w.heap.size w w' := by
  have hb0 : Below w.heap.size w (((w.alloc (.cells #[.string (mk qn), .int .i64 qt, .int .i64 qc] 23)).alloc (.cells #[.int .i64 mid, .bool mre, .int .i64 mop, .bool mau, .bool mcu, .bool mde, .bool mav, .int .i64 mco, .slice xq mnq xcq, .slice xa mna xca, .slice xs mns xcs, .slice xd mnd xcd, .bool med, .int .i64 msi] 27)).alloc (.cells #[.int .i64 oid, .bool ore, .int .i64 oop, .bool oau, .bool ocu, .bool ode, .bool oav, .int .i64 oco, .slice yq onq ycq, .slice ya ona yca, .slice ys ons ycs, .slice yd ond ycd, .bool oed, .int .i64 osi] 27)) := (((Below.refl _ w).alloc (Nat.le_refl _) _).alloc (by simp) _).alloc (by simp; omega) _
  have hQ0 : (((w.alloc (.cells #[.string (mk qn), .int .i64 qt, .int .i64 qc] 23)).alloc (.cells #[.int .i64 mid, .bool mre, .int .i64 mop, .bool mau, .bool mcu, .bool mde, .bool mav, .int .i64 mco, .slice xq mnq xcq, .slice xa mna xca, .slice xs mns xcs, .slice xd mnd xcd, .bool med, .int .i64 msi] 27)).alloc (.cells #[.int .i64 oid, .bool ore, .int .i64 oop, .bool oau, .bool ocu, .bool ode, .bool oav, .int .i64 oco, .slice yq onq ycq, .slice ya ona yca, .slice ys ons ycs, .slice yd ond ycd, .bool oed, .int .i64 osi] 27)).heap[w.heap.size]? = some (.cells #[.string (mk qn), .int .i64 qt, .int .i64 qc] 23 (0, 0)) := heap_old (heap_old (World.alloc_heap_new w _) _) _
  have hM0 : (((w.alloc (.cells #[.string (mk qn), .int .i64 qt, .int .i64 qc] 23)).alloc (.cells #[.int .i64 mid, .bool mre, .int .i64 mop, .bool mau, .bool mcu, .bool mde, .bool mav, .int .i64 mco, .slice xq mnq xcq, .slice xa mna xca, .slice xs mns xcs, .slice xd mnd xcd, .bool med, .int .i64 msi] 27)).alloc (.cells #[.int .i64 oid, .bool ore, .int .i64 oop, .bool oau, .bool ocu, .bool ode, .bool oav, .int .i64 oco, .slice yq onq ycq, .slice ya ona yca, .slice ys ons ycs, .slice yd ond ycd, .bool oed, .int .i64 osi] 27)).heap[w.heap.size + 1]? = some (.cells #[.int .i64 mid, .bool mre, .int .i64 mop, .bool mau, .bool mcu, .bool mde, .bool mav, .int .i64 mco, .slice xq mnq xcq, .slice xa mna xca, .slice xs mns xcs, .slice xd mnd xcd, .bool med, .int .i64 msi] 27 (0, 0)) := heap_old (heap_new1 w _ _) _
  have hO0 : (((w.alloc (.cells #[.string (mk qn), .int .i64 qt, .int .i64 qc] 23)).alloc (.cells #[.int .i64 mid, .bool mre, .int .i64 mop, .bool mau, .bool mcu, .bool mde, .bool mav, .int .i64 mco, .slice xq mnq xcq, .slice xa mna xca, .slice xs mns xcs, .slice xd mnd xcd, .bool med, .int .i64 msi] 27)).alloc (.cells #[.int .i64 oid, .bool ore, .int .i64 oop, .bool oau, .bool ocu, .bool ode, .bool oav, .int .i64 oco, .slice yq onq ycq, .slice ya ona yca, .slice ys ons ycs, .slice yd ond ycd, .bool oed, .int .i64 osi] 27)).heap[w.heap.size + 1 + 1]? = some (.cells #[.int .i64 oid, .bool ore, .int .i64 oop, .bool oau, .bool ocu, .bool ode, .bool oav, .int .i64 oco, .slice yq onq ycq, .slice ya ona yca, .slice ys ons ycs, .slice yd ond ycd, .bool oed, .int .i64 osi] 27 (0, 0)) := by
    have := World.alloc_heap_new ((w.alloc (.cells #[.string (mk qn), .int .i64 qt, .int .i64 qc] 23)).alloc (.cells #[.int .i64 mid, .bool mre, .int .i64 mop, .bool mau, .bool mcu, .bool mde, .bool mav, .int .i64 mco, .slice xq mnq xcq, .slice xa mna xca, .slice xs mns xcs, .slice xd mnd xcd, .bool med, .int .i64 msi] 27)) (.cells #[.int .i64 oid, .bool ore, .int .i64 oop, .bool oau, .bool ocu, .bool ode, .bool oav, .int .i64 oco, .slice yq onq ycq, .slice ya ona yca, .slice ys ons ycs, .slice yd ond ycd, .bool oed, .int .i64 osi] 27)
    rwa [World.size_alloc, World.size_alloc] at this
  have hnm : (mk qn).size = qn.length := size_mk qn
  unfold maxLen at hqn
  have HB0 := Go.Lib.hid hb0
  have HQ0 := Go.Lib.hid hQ0
  have HM0 := Go.Lib.hid hM0
  have HO0 := Go.Lib.hid hO0
  clear hb0 hQ0 hM0 hO0
  have e1 : ¬ (400 : Int) < (qn.length : Int) := by omega
  clear hlong
  go_enter Try.func3, Try.ntmps3
  go_wp2_with fail
  refine (HSM.out _ HB0.out).mono ?_; rintro e w1 ⟨rfl, hx⟩
  have hb1 := HB0.out.trans (hx.mono HB0.out.size)
  have hQ1 := (hx.block _ (Array.getElem?_eq_some_iff.1 HQ0.out).1).trans HQ0.out
  have hM1 := (hx.block _ (Array.getElem?_eq_some_iff.1 HM0.out).1).trans HM0.out
  have hO1 := (hx.block _ (Array.getElem?_eq_some_iff.1 HO0.out).1).trans HO0.out
  clear hx HQ0 HM0 HO0 HB0
  have hg := cell_of_heap hO1
  have y0 := hg 0
  have y1 := hg 1
  have y2 := hg 2
  have y3 := hg 3
  have y4 := hg 4
  have y5 := hg 5
  have y6 := hg 6
  have y7 := hg 7
  have y8 := hg 8
  have y9 := hg 9
  have y10 := hg 10
  have y11 := hg 11
  have y12 := hg 12
  have y13 := hg 13
  simp only [List.getElem?_toArray, List.getElem?_cons_succ, List.getElem?_cons_zero] at y0 y1 y2 y3 y4 y5 y6 y7 y8 y9 y10 y11 y12 y13
  clear hg
  have HB1 := Go.Lib.hid hb1
  have HQ1 := Go.Lib.hid hQ1
  have HM1 := Go.Lib.hid hM1
  have HO1 := Go.Lib.hid hO1
  clear hb1 hQ1 hM1 hO1
  go_wp2_with fail
  refine (HAW.out _).mono ?_; rintro e wz ⟨rfl, hx⟩
  have HXX := Go.Lib.hid hx
  clear hx
  go_wp2_with fail
  go_ret
  exact ⟨rfl, HB1.out.trans (HXX.out.mono HB1.out.size)⟩

set_option maxRecDepth 100000 in
set_option maxHeartbeats 16000000 in
theorem t3 (id code : Int) (qn : List UInt8) (qt qc : Int) (mid mop mco msi : Int) (mre mau mcu mde mav med : Bool) (xq xa xs xd : Option Addr) (mnq mna mns mnd xcq xca xcs xcd : Nat) (oid oop oco osi : Int) (ore oau ocu ode oav oed : Bool) (yq ya ys yd : Option Addr) (onq ona ons ond ycq yca ycs ycd : Nat) (la : Option Addr) (ln lc : Nat) (w : World) (hqn : qn.length ≤ maxLen) (hlong : qn.length ≤ 400)
    (HAW : Hid (∀ W, Calls Try.prog 10 #[] W fun e w' => e = .returned (.bool true) ∧ Below W.heap.size W w'))
    (HSM : Hid (∀ W, Below w.heap.size w W → Calls Try.prog 8 #[.agg #[.int .i64 mid, .bool mre, .int .i64 mop, .bool mau, .bool mcu, .bool mde, .bool mav, .int .i64 mco, .slice xq mnq xcq, .slice xa mna xca, .slice xs mns xcs, .slice xd mnd xcd, .bool med, .int .i64 msi], .int .i64 3000] W fun e w' => e = .returned (.bool true) ∧ Below W.heap.size W w'))
    (HSO : Hid (∀ W, Below w.heap.size w W → Calls Try.prog 8 #[.agg #[.int .i64 oid, .bool ore, .int .i64 oop, .bool oau, .bool ocu, .bool ode, .bool oav, .int .i64 oco, .slice yq onq ycq, .slice ya ona yca, .slice ys ons ycs, .slice yd ond ycd, .bool oed, .int .i64 osi], .int .i64 3000] W fun e w' => e = .returned (.bool false) ∧ Below W.heap.size W w')) :
    Calls Try.prog 3 #[.int .i64 id, .agg #[.string (mk qn), .int .i64 qt, .int .i64 qc], .agg #[.int .i64 mid, .bool mre, .int .i64 mop, .bool mau, .bool mcu, .bool mde, .bool mav, .int .i64 mco, .slice xq mnq xcq, .slice xa mna xca, .slice xs mns xcs, .slice xd mnd xcd, .bool med, .int .i64 msi], .agg #[.int .i64 oid, .bool ore, .int .i64 oop, .bool oau, .bool ocu, .bool ode, .bool oav, .int .i64 oco, .slice yq onq ycq, .slice ya ona yca, .slice ys ons ycs, .slice yd ond ycd, .bool oed, .int .i64 osi], .int .i64 code, .slice la ln lc] w fun e w' => e = .returned (.bool true) ∧ Below w.heap.size w w' := by
  have hb0 : Below w.heap.size w (((w.alloc (.cells #[.string (mk qn), .int .i64 qt, .int .i64 qc] 23)).alloc (.cells #[.int .i64 mid, .bool mre, .int .i64 mop, .bool mau, .bool mcu, .bool mde, .bool mav, .int .i64 mco, .slice xq mnq xcq, .slice xa mna xca, .slice xs mns xcs, .slice xd mnd xcd, .bool med, .int .i64 msi] 27)).alloc (.cells #[.int .i64 oid, .bool ore, .int .i64 oop, .bool oau, .bool ocu, .bool ode, .bool oav, .int .i64 oco, .slice yq onq ycq, .slice ya ona yca, .slice ys ons ycs, .slice yd ond ycd, .bool oed, .int .i64 osi] 27)) := (((Below.refl _ w).alloc (Nat.le_refl _) _).alloc (by simp) _).alloc (by simp; omega) _
  have hQ0 : (((w.alloc (.cells #[.string (mk qn), .int .i64 qt, .int .i64 qc] 23)).alloc (.cells #[.int .i64 mid, .bool mre, .int .i64 mop, .bool mau, .bool mcu, .bool mde, .bool mav, .int .i64 mco, .slice xq mnq xcq, .slice xa mna xca, .slice xs mns xcs, .slice xd mnd xcd, .bool med, .int .i64 msi] 27)).alloc (.cells #[.int .i64 oid, .bool ore, .int .i64 oop, .bool oau, .bool ocu, .bool ode, .bool oav, .int .i64 oco, .slice yq onq ycq, .slice ya ona yca, .slice ys ons ycs, .slice yd ond ycd, .bool oed, .int .i64 osi] 27)).heap[w.heap.size]? = some (.cells #[.string (mk qn), .int .i64 qt, .int .i64 qc] 23 (0, 0)) := heap_old (heap_old (World.alloc_heap_new w _) _) _
  have hM0 : (((w.alloc (.cells #[.string (mk qn), .int .i64 qt, .int .i64 qc] 23)).alloc (.cells #[.int .i64 mid, .bool mre, .int .i64 mop, .bool mau, .bool mcu, .bool mde, .bool mav, .int .i64 mco, .slice xq mnq xcq, .slice xa mna xca, .slice xs mns xcs, .slice xd mnd xcd, .bool med, .int .i64 msi] 27)).alloc (.cells #[.int .i64 oid, .bool ore, .int .i64 oop, .bool oau, .bool ocu, .bool ode, .bool oav, .int .i64 oco, .slice yq onq ycq, .slice ya ona yca, .slice ys ons ycs, .slice yd ond ycd, .bool oed, .int .i64 osi] 27)).heap[w.heap.size + 1]? = some (.cells #[.int .i64 mid, .bool mre, .int .i64 mop, .bool mau, .bool mcu, .bool mde, .bool mav, .int .i64 mco, .slice xq mnq xcq, .slice xa mna xca, .slice xs mns xcs, .slice xd mnd xcd, .bool med, .int .i64 msi] 27 (0, 0)) := heap_old (heap_new1 w _ _) _
  have hO0 : (((w.alloc (.cells #[.string (mk qn), .int .i64 qt, .int .i64 qc] 23)).alloc (.cells #[.int .i64 mid, .bool mre, .int .i64 mop, .bool mau, .bool mcu, .bool mde, .bool mav, .int .i64 mco, .slice xq mnq xcq, .slice xa mna xca, .slice xs mns xcs, .slice xd mnd xcd, .bool med, .int .i64 msi] 27)).alloc (.cells #[.int .i64 oid, .bool ore, .int .i64 oop, .bool oau, .bool ocu, .bool ode, .bool oav, .int .i64 oco, .slice yq onq ycq, .slice ya ona yca, .slice ys ons ycs, .slice yd ond ycd, .bool oed, .int .i64 osi] 27)).heap[w.heap.size + 1 + 1]? = some (.cells #[.int .i64 oid, .bool ore, .int .i64 oop, .bool oau, .bool ocu, .bool ode, .bool oav, .int .i64 oco, .slice yq onq ycq, .slice ya ona yca, .slice ys ons ycs, .slice yd ond ycd, .bool oed, .int .i64 osi] 27 (0, 0)) := by
    have := World.alloc_heap_new ((w.alloc (.cells #[.string (mk qn), .int .i64 qt, .int .i64 qc] 23)).alloc (.cells #[.int .i64 mid, .bool mre, .int .i64 mop, .bool mau, .bool mcu, .bool mde, .bool mav, .int .i64 mco, .slice xq mnq xcq, .slice xa mna xca, .slice xs mns xcs, .slice xd mnd xcd, .bool med, .int .i64 msi] 27)) (.cells #[.int .i64 oid, .bool ore, .int .i64 oop, .bool oau, .bool ocu, .bool ode, .bool oav, .int .i64 oco, .slice yq onq ycq, .slice ya ona yca, .slice ys ons ycs, .slice yd ond ycd, .bool oed, .int .i64 osi] 27)
    rwa [World.size_alloc, World.size_alloc] at this
  have hnm : (mk qn).size = qn.length := size_mk qn
  unfold maxLen at hqn
  have HB0 := Go.Lib.hid hb0
  have HQ0 := Go.Lib.hid hQ0
  have HM0 := Go.Lib.hid hM0
  have HO0 := Go.Lib.hid hO0
  clear hb0 hQ0 hM0 hO0
  have e1 : ¬ (400 : Int) < (qn.length : Int) := by omega
  clear hlong
  go_enter Try.func3, Try.ntmps3
  go_wp2_with fail
  refine (HSM.out _ HB0.out).mono ?_; rintro e w1 ⟨rfl, hx⟩
  have hb1 := HB0.out.trans (hx.mono HB0.out.size)
  have hQ1 := (hx.block _ (Array.getElem?_eq_some_iff.1 HQ0.out).1).trans HQ0.out
  have hM1 := (hx.block _ (Array.getElem?_eq_some_iff.1 HM0.out).1).trans HM0.out
  have hO1 := (hx.block _ (Array.getElem?_eq_some_iff.1 HO0.out).1).trans HO0.out
  clear hx HQ0 HM0 HO0 HB0
  have hg := cell_of_heap hO1
  have y0 := hg 0
  have y1 := hg 1
  have y2 := hg 2
  have y3 := hg 3
  have y4 := hg 4
  have y5 := hg 5
  have y6 := hg 6
  have y7 := hg 7
  have y8 := hg 8
  have y9 := hg 9
  have y10 := hg 10
  have y11 := hg 11
  have y12 := hg 12
  have y13 := hg 13
  simp only [List.getElem?_toArray, List.getElem?_cons_succ, List.getElem?_cons_zero] at y0 y1 y2 y3 y4 y5 y6 y7 y8 y9 y10 y11 y12 y13
  clear hg
  have HB1 := Go.Lib.hid hb1
  have HQ1 := Go.Lib.hid hQ1
  have HM1 := Go.Lib.hid hM1
  have HO1 := Go.Lib.hid hO1
  clear hb1 hQ1 hM1 hO1
  go_wp2_with fail
  refine (HSO.out _ HB1.out).mono ?_; rintro e w2 ⟨rfl, hx⟩
  have hb2 := HB1.out.trans (hx.mono HB1.out.size)
  have hQ2 := (hx.block _ (Array.getElem?_eq_some_iff.1 HQ1.out).1).trans HQ1.out
  have hM2 := (hx.block _ (Array.getElem?_eq_some_iff.1 HM1.out).1).trans HM1.out
  have hO2 := (hx.block _ (Array.getElem?_eq_some_iff.1 HO1.out).1).trans HO1.out
  clear hx HQ1 HM1 HO1 HB1 y0 y1 y2 y3 y4 y5 y6 y7 y8 y9 y10 y11 y12 y13
  have HB2 := Go.Lib.hid hb2
  have HQ2 := Go.Lib.hid hQ2
  have HM2 := Go.Lib.hid hM2
  have HO2 := Go.Lib.hid hO2
  clear hb2 hQ2 hM2 hO2
  go_wp2_with fail
  refine (HAW.out _).mono ?_; rintro e wz ⟨rfl, hx⟩
  have HXX := Go.Lib.hid hx
  clear hx
  go_wp2_with fail
  go_ret
  exact ⟨rfl, HB2.out.trans (HXX.out.mono HB2.out.size)⟩

set_option maxRecDepth 100000 in
set_option maxHeartbeats 16000000 in
theorem t4 (id code : Int) (qn : List UInt8) (qt qc : Int) (mid mop mco msi : Int) (mre mau mcu mde mav med : Bool) (xq xa xs xd : Option Addr) (mnq mna mns mnd xcq xca xcs xcd : Nat) (oid oop oco osi : Int) (ore oau ocu ode oav oed : Bool) (yq ya ys yd : Option Addr) (onq ona ons ond ycq yca ycs ycd : Nat) (la : Option Addr) (ln lc : Nat) (w : World) (hqn : qn.length ≤ maxLen) (hlong : qn.length ≤ 400)
    (HAW : Hid (∀ W, Calls Try.prog 10 #[] W fun e w' => e = .returned (.bool true) ∧ Below W.heap.size W w'))
    (HSM : Hid (∀ W, Below w.heap.size w W → Calls Try.prog 8 #[.agg #[.int .i64 mid, .bool mre, .int .i64 mop, .bool mau, .bool mcu, .bool mde, .bool mav, .int .i64 mco, .slice xq mnq xcq, .slice xa mna xca, .slice xs mns xcs, .slice xd mnd xcd, .bool med, .int .i64 msi], .int .i64 3000] W fun e w' => e = .returned (.bool true) ∧ Below W.heap.size W w'))
    (HSO : Hid (∀ W, Below w.heap.size w W → Calls Try.prog 8 #[.agg #[.int .i64 oid, .bool ore, .int .i64 oop, .bool oau, .bool ocu, .bool ode, .bool oav, .int .i64 oco, .slice yq onq ycq, .slice ya ona yca, .slice ys ons ycs, .slice yd ond ycd, .bool oed, .int .i64 osi], .int .i64 3000] W fun e w' => e = .returned (.bool true) ∧ Below W.heap.size W w'))
    (HRC : Hid (∀ W, Below w.heap.size w W → Calls Try.prog 9 #[.slice la ln lc, .int .i64 3000] W fun e w' => e = .returned (.bool false) ∧ Below W.heap.size W w')) :
    Calls Try.prog 3 #[.int .i64 id, .agg #[.string (mk qn), .int .i64 qt, .int .i64 qc], .agg #[.int .i64 mid, .bool mre, .int .i64 mop, .bool mau, .bool mcu, .bool mde, .bool mav, .int .i64 mco, .slice xq mnq xcq, .slice xa mna xca, .slice xs mns xcs, .slice xd mnd xcd, .bool med, .int .i64 msi], .agg #[.int .i64 oid, .bool ore, .int .i64 oop, .bool oau, .bool ocu, .bool ode, .bool oav, .int .i64 oco, .slice yq onq ycq, .slice ya ona yca, .slice ys ons ycs, .slice yd ond ycd, .bool oed, .int .i64 osi], .int .i64 code, .slice la ln lc] w fun e w' => e = .returned (.bool true) ∧ Below w.heap.size w w' := by
  have hb0 : Below w.heap.size w (((w.alloc (.cells #[.string (mk qn), .int .i64 qt, .int .i64 qc] 23)).alloc (.cells #[.int .i64 mid, .bool mre, .int .i64 mop, .bool mau, .bool mcu, .bool mde, .bool mav, .int .i64 mco, .slice xq mnq xcq, .slice xa mna xca, .slice xs mns xcs, .slice xd mnd xcd, .bool med, .int .i64 msi] 27)).alloc (.cells #[.int .i64 oid, .bool ore, .int .i64 oop, .bool oau, .bool ocu, .bool ode, .bool oav, .int .i64 oco, .slice yq onq ycq, .slice ya ona yca, .slice ys ons ycs, .slice yd ond ycd, .bool oed, .int .i64 osi] 27)) := (((Below.refl _ w).alloc (Nat.le_refl _) _).alloc (by simp) _).alloc (by simp; omega) _
  have hQ0 : (((w.alloc (.cells #[.string (mk qn), .int .i64 qt, .int .i64 qc] 23)).alloc (.cells #[.int .i64 mid, .bool mre, .int .i64 mop, .bool mau, .bool mcu, .bool mde, .bool mav, .int .i64 mco, .slice xq mnq xcq, .slice xa mna xca, .slice xs mns xcs, .slice xd mnd xcd, .bool med, .int .i64 msi] 27)).alloc (.cells #[.int .i64 oid, .bool ore, .int .i64 oop, .bool oau, .bool ocu, .bool ode, .bool oav, .int .i64 oco, .slice yq onq ycq, .slice ya ona yca, .slice ys ons ycs, .slice yd ond ycd, .bool oed, .int .i64 osi] 27)).heap[w.heap.size]? = some (.cells #[.string (mk qn), .int .i64 qt, .int .i64 qc] 23 (0, 0)) := heap_old (heap_old (World.alloc_heap_new w _) _) _
  have hM0 : (((w.alloc (.cells #[.string (mk qn), .int .i64 qt, .int .i64 qc] 23)).alloc (.cells #[.int .i64 mid, .bool mre, .int .i64 mop, .bool mau, .bool mcu, .bool mde, .bool mav, .int .i64 mco, .slice xq mnq xcq, .slice xa mna xca, .slice xs mns xcs, .slice xd mnd xcd, .bool med, .int .i64 msi] 27)).alloc (.cells #[.int .i64 oid, .bool ore, .int .i64 oop, .bool oau, .bool ocu, .bool ode, .bool oav, .int .i64 oco, .slice yq onq ycq, .slice ya ona yca, .slice ys ons ycs, .slice yd ond ycd, .bool oed, .int .i64 osi] 27)).heap[w.heap.size + 1]? = some (.cells #[.int .i64 mid, .bool mre, .int .i64 mop, .bool mau, .bool mcu, .bool mde, .bool mav, .int .i64 mco, .slice xq mnq xcq, .slice xa mna xca, .slice xs mns xcs, .slice xd mnd xcd, .bool med, .int .i64 msi] 27 (0, 0)) := heap_old (heap_new1 w _ _) _
  have hO0 : (((w.alloc (.cells #[.string (mk qn), .int .i64 qt, .int .i64 qc] 23)).alloc (.cells #[.int .i64 mid, .bool mre, .int .i64 mop, .bool mau, .bool mcu, .bool mde, .bool mav, .int .i64 mco, .slice xq mnq xcq, .slice xa mna xca, .slice xs mns xcs, .slice xd mnd xcd, .bool med, .int .i64 msi] 27)).alloc (.cells #[.int .i64 oid, .bool ore, .int .i64 oop, .bool oau, .bool ocu, .bool ode, .bool oav, .int .i64 oco, .slice yq onq ycq, .slice ya ona yca, .slice ys ons ycs, .slice yd ond ycd, .bool oed, .int .i64 osi] 27)).heap[w.heap.size + 1 + 1]? = some (.cells #[.int .i64 oid, .bool ore, .int .i64 oop, .bool oau, .bool ocu, .bool ode, .bool oav, .int .i64 oco, .slice yq onq ycq, .slice ya ona yca, .slice ys ons ycs, .slice yd ond ycd, .bool oed, .int .i64 osi] 27 (0, 0)) := by
    have := World.alloc_heap_new ((w.alloc (.cells #[.string (mk qn), .int .i64 qt, .int .i64 qc] 23)).alloc (.cells #[.int .i64 mid, .bool mre, .int .i64 mop, .bool mau, .bool mcu, .bool mde, .bool mav, .int .i64 mco, .slice xq mnq xcq, .slice xa mna xca, .slice xs mns xcs, .slice xd mnd xcd, .bool med, .int .i64 msi] 27)) (.cells #[.int .i64 oid, .bool ore, .int .i64 oop, .bool oau, .bool ocu, .bool ode, .bool oav, .int .i64 oco, .slice yq onq ycq, .slice ya ona yca, .slice ys ons ycs, .slice yd ond ycd, .bool oed, .int .i64 osi] 27)
    rwa [World.size_alloc, World.size_alloc] at this
  have hnm : (mk qn).size = qn.length := size_mk qn
  unfold maxLen at hqn
  have HB0 := Go.Lib.hid hb0
  have HQ0 := Go.Lib.hid hQ0
  have HM0 := Go.Lib.hid hM0
  have HO0 := Go.Lib.hid hO0
  clear hb0 hQ0 hM0 hO0
  have e1 : ¬ (400 : Int) < (qn.length : Int) := by omega
  clear hlong
  go_enter Try.func3, Try.ntmps3
  go_wp2_with fail
  refine (HSM.out _ HB0.out).mono ?_; rintro e w1 ⟨rfl, hx⟩
  have hb1 := HB0.out.trans (hx.mono HB0.out.size)
  have hQ1 := (hx.block _ (Array.getElem?_eq_some_iff.1 HQ0.out).1).trans HQ0.out
  have hM1 := (hx.block _ (Array.getElem?_eq_some_iff.1 HM0.out).1).trans HM0.out
  have hO1 := (hx.block _ (Array.getElem?_eq_some_iff.1 HO0.out).1).trans HO0.out
  clear hx HQ0 HM0 HO0 HB0
  have hg := cell_of_heap hO1
  have y0 := hg 0
  have y1 := hg 1
  have y2 := hg 2
  have y3 := hg 3
  have y4 := hg 4
  have y5 := hg 5
  have y6 := hg 6
  have y7 := hg 7
  have y8 := hg 8
  have y9 := hg 9
  have y10 := hg 10
  have y11 := hg 11
  have y12 := hg 12
  have y13 := hg 13
  simp only [List.getElem?_toArray, List.getElem?_cons_succ, List.getElem?_cons_zero] at y0 y1 y2 y3 y4 y5 y6 y7 y8 y9 y10 y11 y12 y13
  clear hg
  have HB1 := Go.Lib.hid hb1
  have HQ1 := Go.Lib.hid hQ1
  have HM1 := Go.Lib.hid hM1
  have HO1 := Go.Lib.hid hO1
  clear hb1 hQ1 hM1 hO1
  go_wp2_with fail
  refine (HSO.out _ HB1.out).mono ?_; rintro e w2 ⟨rfl, hx⟩
  have hb2 := HB1.out.trans (hx.mono HB1.out.size)
  have hQ2 := (hx.block _ (Array.getElem?_eq_some_iff.1 HQ1.out).1).trans HQ1.out
  have hM2 := (hx.block _ (Array.getElem?_eq_some_iff.1 HM1.out).1).trans HM1.out
  have hO2 := (hx.block _ (Array.getElem?_eq_some_iff.1 HO1.out).1).trans HO1.out
  clear hx HQ1 HM1 HO1 HB1 y0 y1 y2 y3 y4 y5 y6 y7 y8 y9 y10 y11 y12 y13
  have HB2 := Go.Lib.hid hb2
  have HQ2 := Go.Lib.hid hQ2
  have HM2 := Go.Lib.hid hM2
  have HO2 := Go.Lib.hid hO2
  clear hb2 hQ2 hM2 hO2
  go_wp2_with fail
  refine (HRC.out _ HB2.out).mono ?_; rintro e W ⟨rfl, hx⟩
  have hb3 := HB2.out.trans (hx.mono HB2.out.size)
  have hQ3 := (hx.block _ (Array.getElem?_eq_some_iff.1 HQ2.out).1).trans HQ2.out
  have hM3 := (hx.block _ (Array.getElem?_eq_some_iff.1 HM2.out).1).trans HM2.out
  have hO3 := (hx.block _ (Array.getElem?_eq_some_iff.1 HO2.out).1).trans HO2.out
  clear hx HQ2 HM2 HO2 HB2
  have HBW := Go.Lib.hid hb3
  clear hb3
  go_wp2_with fail
  refine (HAW.out _).mono ?_; rintro e wz ⟨rfl, hx⟩
  have HXX := Go.Lib.hid hx
  clear hx
  go_wp2_with fail
  go_ret
  exact ⟨rfl, HBW.out.trans (HXX.out.mono HBW.out.size)⟩

set_option maxRecDepth 100000 in
set_option maxHeartbeats 16000000 in
theorem t5 (id code : Int) (qn : List UInt8) (qt qc : Int) (mid mop mco msi : Int) (mre mau mcu mde mav med : Bool) (xq xa xs xd : Option Addr) (mnq mna mns mnd xcq xca xcs xcd : Nat) (oid oop oco osi : Int) (ore oau ocu ode oav oed : Bool) (yq ya ys yd : Option Addr) (onq ona ons ond ycq yca ycs ycd : Nat) (la : Option Addr) (ln lc : Nat) (w : World) (hqn : qn.length ≤ maxLen) (hlong : qn.length ≤ 400) (res1 res2 res3 : Msg) (ans : Bool) (grs : List Gr)
    (HAW : Hid (∀ W, Calls Try.prog 10 #[] W fun e w' => e = .returned (.bool true) ∧ Below W.heap.size W w'))
    (HSM : Hid (∀ W, Below w.heap.size w W → Calls Try.prog 8 #[.agg #[.int .i64 mid, .bool mre, .int .i64 mop, .bool mau, .bool mcu, .bool mde, .bool mav, .int .i64 mco, .slice xq mnq xcq, .slice xa mna xca, .slice xs mns xcs, .slice xd mnd xcd, .bool med, .int .i64 msi], .int .i64 3000] W fun e w' => e = .returned (.bool true) ∧ Below W.heap.size W w'))
    (HSO : Hid (∀ W, Below w.heap.size w W → Calls Try.prog 8 #[.agg #[.int .i64 oid, .bool ore, .int .i64 oop, .bool oau, .bool ocu, .bool ode, .bool oav, .int .i64 oco, .slice yq onq ycq, .slice ya ona yca, .slice ys ons ycs, .slice yd ond ycd, .bool oed, .int .i64 osi], .int .i64 3000] W fun e w' => e = .returned (.bool true) ∧ Below W.heap.size W w'))
    (HRC : Hid (∀ W, Below w.heap.size w W → Calls Try.prog 9 #[.slice la ln lc, .int .i64 3000] W fun e w' => e = .returned (.bool true) ∧ Below W.heap.size W w'))
    (HASK : Hid (∀ W, Calls Try.prog 12 #[.int .i64 id, .agg #[.string (mk qn), .int .i64 qt, .int .i64 qc]] W (RetM W res3)))
    (HRASK : Hid (∀ W, Calls Try.prog 13 #[.int .i64 id, .agg #[.string (mk qn), .int .i64 qt, .int .i64 qc]] W (RetM W res3)))
    (HANS : Hid (∀ W, Below w.heap.size w W → Calls Try.prog 14 #[.agg #[.int .i64 mid, .bool mre, .int .i64 mop, .bool mau, .bool mcu, .bool mde, .bool mav, .int .i64 mco, .slice xq mnq xcq, .slice xa mna xca, .slice xs mns xcs, .slice xd mnd xcd, .bool med, .int .i64 msi], .agg #[.int .i64 oid, .bool ore, .int .i64 oop, .bool oau, .bool ocu, .bool ode, .bool oav, .int .i64 oco, .slice yq onq ycq, .slice ya ona yca, .slice ys ons ycs, .slice yd ond ycd, .bool oed, .int .i64 osi]] W fun e w' => e = .returned (.bool ans) ∧ Below W.heap.size W w'))
    (HRANS : Hid (∀ W, Below w.heap.size w W → Calls Try.prog 15 #[.agg #[.int .i64 mid, .bool mre, .int .i64 mop, .bool mau, .bool mcu, .bool mde, .bool mav, .int .i64 mco, .slice xq mnq xcq, .slice xa mna xca, .slice xs mns xcs, .slice xd mnd xcd, .bool med, .int .i64 msi], .agg #[.int .i64 oid, .bool ore, .int .i64 oop, .bool oau, .bool ocu, .bool ode, .bool oav, .int .i64 oco, .slice yq onq ycq, .slice ya ona yca, .slice ys ons ycs, .slice yd ond ycd, .bool oed, .int .i64 osi]] W fun e w' => e = .returned (.bool ans) ∧ Below W.heap.size W w'))
    (HREF : Hid (∀ W, Below w.heap.size w W → Calls Try.prog 16 #[.agg #[.int .i64 mid, .bool mre, .int .i64 mop, .bool mau, .bool mcu, .bool mde, .bool mav, .int .i64 mco, .slice xq mnq xcq, .slice xa mna xca, .slice xs mns xcs, .slice xd mnd xcd, .bool med, .int .i64 msi], .int .i64 code] W (RetM W res1)))
    (HRREF : Hid (∀ W, Below w.heap.size w W → Calls Try.prog 17 #[.agg #[.int .i64 mid, .bool mre, .int .i64 mop, .bool mau, .bool mcu, .bool mde, .bool mav, .int .i64 mco, .slice xq mnq xcq, .slice xa mna xca, .slice xs mns xcs, .slice xd mnd xcd, .bool med, .int .i64 msi], .int .i64 code] W (RetM W res1)))
    (HREP : Hid (∀ W, Below w.heap.size w W → Calls Try.prog 18 #[.agg #[.int .i64 mid, .bool mre, .int .i64 mop, .bool mau, .bool mcu, .bool mde, .bool mav, .int .i64 mco, .slice xq mnq xcq, .slice xa mna xca, .slice xs mns xcs, .slice xd mnd xcd, .bool med, .int .i64 msi], .int .i64 code, .slice la ln lc, .slice xs mns xcs] W (RetM W res2)))
    (HRREP : Hid (∀ W, Below w.heap.size w W → Calls Try.prog 19 #[.agg #[.int .i64 mid, .bool mre, .int .i64 mop, .bool mau, .bool mcu, .bool mde, .bool mav, .int .i64 mco, .slice xq mnq xcq, .slice xa mna xca, .slice xs mns xcs, .slice xd mnd xcd, .bool med, .int .i64 msi], .int .i64 code, .slice la ln lc, .slice xs mns xcs] W (RetM W res2)))
    (HGRP : Hid (∀ W, Below w.heap.size w W → Calls Try.prog 21 #[.slice la ln lc, .int .i64 (-1)] W fun e w' => ∃ v, e = .returned v ∧ GrpV w' v grs ∧ Below W.heap.size W w'))
    (HSETS : Hid (∀ W, Below w.heap.size w W → Calls Try.prog 22 #[.slice la ln lc] W fun e w' => ∃ v vs, e = .returned v ∧ Rf.OwnsG w' W.heap.size v grs vs ∧ Below W.heap.size W w')) :
    Calls Try.prog 3 #[.int .i64 id, .agg #[.string (mk qn), .int .i64 qt, .int .i64 qc], .agg #[.int .i64 mid, .bool mre, .int .i64 mop, .bool mau, .bool mcu, .bool mde, .bool mav, .int .i64 mco, .slice xq mnq xcq, .slice xa mna xca, .slice xs mns xcs, .slice xd mnd xcd, .bool med, .int .i64 msi], .agg #[.int .i64 oid, .bool ore, .int .i64 oop, .bool oau, .bool ocu, .bool ode, .bool oav, .int .i64 oco, .slice yq onq ycq, .slice ya ona yca, .slice ys ons ycs, .slice yd ond ycd, .bool oed, .int .i64 osi], .int .i64 code, .slice la ln lc] w fun e w' => e = .returned (.bool true) ∧ Below w.heap.size w w' := by
  have hb0 : Below w.heap.size w (((w.alloc (.cells #[.string (mk qn), .int .i64 qt, .int .i64 qc] 23)).alloc (.cells #[.int .i64 mid, .bool mre, .int .i64 mop, .bool mau, .bool mcu, .bool mde, .bool mav, .int .i64 mco, .slice xq mnq xcq, .slice xa mna xca, .slice xs mns xcs, .slice xd mnd xcd, .bool med, .int .i64 msi] 27)).alloc (.cells #[.int .i64 oid, .bool ore, .int .i64 oop, .bool oau, .bool ocu, .bool ode, .bool oav, .int .i64 oco, .slice yq onq ycq, .slice ya ona yca, .slice ys ons ycs, .slice yd ond ycd, .bool oed, .int .i64 osi] 27)) := (((Below.refl _ w).alloc (Nat.le_refl _) _).alloc (by simp) _).alloc (by simp; omega) _
  have hQ0 : (((w.alloc (.cells #[.string (mk qn), .int .i64 qt, .int .i64 qc] 23)).alloc (.cells #[.int .i64 mid, .bool mre, .int .i64 mop, .bool mau, .bool mcu, .bool mde, .bool mav, .int .i64 mco, .slice xq mnq xcq, .slice xa mna xca, .slice xs mns xcs, .slice xd mnd xcd, .bool med, .int .i64 msi] 27)).alloc (.cells #[.int .i64 oid, .bool ore, .int .i64 oop, .bool oau, .bool ocu, .bool ode, .bool oav, .int .i64 oco, .slice yq onq ycq, .slice ya ona yca, .slice ys ons ycs, .slice yd ond ycd, .bool oed, .int .i64 osi] 27)).heap[w.heap.size]? = some (.cells #[.string (mk qn), .int .i64 qt, .int .i64 qc] 23 (0, 0)) := heap_old (heap_old (World.alloc_heap_new w _) _) _
  have hM0 : (((w.alloc (.cells #[.string (mk qn), .int .i64 qt, .int .i64 qc] 23)).alloc (.cells #[.int .i64 mid, .bool mre, .int .i64 mop, .bool mau, .bool mcu, .bool mde, .bool mav, .int .i64 mco, .slice xq mnq xcq, .slice xa mna xca, .slice xs mns xcs, .slice xd mnd xcd, .bool med, .int .i64 msi] 27)).alloc (.cells #[.int .i64 oid, .bool ore, .int .i64 oop, .bool oau, .bool ocu, .bool ode, .bool oav, .int .i64 oco, .slice yq onq ycq, .slice ya ona yca, .slice ys ons ycs, .slice yd ond ycd, .bool oed, .int .i64 osi] 27)).heap[w.heap.size + 1]? = some (.cells #[.int .i64 mid, .bool mre, .int .i64 mop, .bool mau, .bool mcu, .bool mde, .bool mav, .int .i64 mco, .slice xq mnq xcq, .slice xa mna xca, .slice xs mns xcs, .slice xd mnd xcd, .bool med, .int .i64 msi] 27 (0, 0)) := heap_old (heap_new1 w _ _) _
  have hO0 : (((w.alloc (.cells #[.string (mk qn), .int .i64 qt, .int .i64 qc] 23)).alloc (.cells #[.int .i64 mid, .bool mre, .int .i64 mop, .bool mau, .bool mcu, .bool mde, .bool mav, .int .i64 mco, .slice xq mnq xcq, .slice xa mna xca, .slice xs mns xcs, .slice xd mnd xcd, .bool med, .int .i64 msi] 27)).alloc (.cells #[.int .i64 oid, .bool ore, .int .i64 oop, .bool oau, .bool ocu, .bool ode, .bool oav, .int .i64 oco, .slice yq onq ycq, .slice ya ona yca, .slice ys ons ycs, .slice yd ond ycd, .bool oed, .int .i64 osi] 27)).heap[w.heap.size + 1 + 1]? = some (.cells #[.int .i64 oid, .bool ore, .int .i64 oop, .bool oau, .bool ocu, .bool ode, .bool oav, .int .i64 oco, .slice yq onq ycq, .slice ya ona yca, .slice ys ons ycs, .slice yd ond ycd, .bool oed, .int .i64 osi] 27 (0, 0)) := by
    have := World.alloc_heap_new ((w.alloc (.cells #[.string (mk qn), .int .i64 qt, .int .i64 qc] 23)).alloc (.cells #[.int .i64 mid, .bool mre, .int .i64 mop, .bool mau, .bool mcu, .bool mde, .bool mav, .int .i64 mco, .slice xq mnq xcq, .slice xa mna xca, .slice xs mns xcs, .slice xd mnd xcd, .bool med, .int .i64 msi] 27)) (.cells #[.int .i64 oid, .bool ore, .int .i64 oop, .bool oau, .bool ocu, .bool ode, .bool oav, .int .i64 oco, .slice yq onq ycq, .slice ya ona yca, .slice ys ons ycs, .slice yd ond ycd, .bool oed, .int .i64 osi] 27)
    rwa [World.size_alloc, World.size_alloc] at this
  have hnm : (mk qn).size = qn.length := size_mk qn
  unfold maxLen at hqn
  have HB0 := Go.Lib.hid hb0
  have HQ0 := Go.Lib.hid hQ0
  have HM0 := Go.Lib.hid hM0
  have HO0 := Go.Lib.hid hO0
  clear hb0 hQ0 hM0 hO0
  have e1 : ¬ (400 : Int) < (qn.length : Int) := by omega
  clear hlong
  go_enter Try.func3, Try.ntmps3
  go_wp2_with fail
  refine (HSM.out _ HB0.out).mono ?_; rintro e w1 ⟨rfl, hx⟩
  have hb1 := HB0.out.trans (hx.mono HB0.out.size)
  have hQ1 := (hx.block _ (Array.getElem?_eq_some_iff.1 HQ0.out).1).trans HQ0.out
  have hM1 := (hx.block _ (Array.getElem?_eq_some_iff.1 HM0.out).1).trans HM0.out
  have hO1 := (hx.block _ (Array.getElem?_eq_some_iff.1 HO0.out).1).trans HO0.out
  clear hx HQ0 HM0 HO0 HB0
  have hg := cell_of_heap hO1
  have y0 := hg 0
  have y1 := hg 1
  have y2 := hg 2
  have y3 := hg 3
  have y4 := hg 4
  have y5 := hg 5
  have y6 := hg 6
  have y7 := hg 7
  have y8 := hg 8
  have y9 := hg 9
  have y10 := hg 10
  have y11 := hg 11
  have y12 := hg 12
  have y13 := hg 13
  simp only [List.getElem?_toArray, List.getElem?_cons_succ, List.getElem?_cons_zero] at y0 y1 y2 y3 y4 y5 y6 y7 y8 y9 y10 y11 y12 y13
  clear hg
  have HB1 := Go.Lib.hid hb1
  have HQ1 := Go.Lib.hid hQ1
  have HM1 := Go.Lib.hid hM1
  have HO1 := Go.Lib.hid hO1
  clear hb1 hQ1 hM1 hO1
  go_wp2_with fail
  refine (HSO.out _ HB1.out).mono ?_; rintro e w2 ⟨rfl, hx⟩
  have hb2 := HB1.out.trans (hx.mono HB1.out.size)
  have hQ2 := (hx.block _ (Array.getElem?_eq_some_iff.1 HQ1.out).1).trans HQ1.out
  have hM2 := (hx.block _ (Array.getElem?_eq_some_iff.1 HM1.out).1).trans HM1.out
  have hO2 := (hx.block _ (Array.getElem?_eq_some_iff.1 HO1.out).1).trans HO1.out
  clear hx HQ1 HM1 HO1 HB1 y0 y1 y2 y3 y4 y5 y6 y7 y8 y9 y10 y11 y12 y13
  have HB2 := Go.Lib.hid hb2
  have HQ2 := Go.Lib.hid hQ2
  have HM2 := Go.Lib.hid hM2
  have HO2 := Go.Lib.hid hO2
  clear hb2 hQ2 hM2 hO2
  go_wp2_with fail
  refine (HRC.out _ HB2.out).mono ?_; rintro e W ⟨rfl, hx⟩
  have hb3 := HB2.out.trans (hx.mono HB2.out.size)
  have hQ3 := (hx.block _ (Array.getElem?_eq_some_iff.1 HQ2.out).1).trans HQ2.out
  have hM3 := (hx.block _ (Array.getElem?_eq_some_iff.1 HM2.out).1).trans HM2.out
  have hO3 := (hx.block _ (Array.getElem?_eq_some_iff.1 HO2.out).1).trans HO2.out
  clear hx HQ2 HM2 HO2 HB2
  have hlq := (Array.getElem?_eq_some_iff.1 hQ3).1
  have hlm := (Array.getElem?_eq_some_iff.1 hM3).1
  have hlo := (Array.getElem?_eq_some_iff.1 hO3).1
  have hg := cell_of_heap hQ3
  have q0 := hg 0
  have q1 := hg 1
  have q2 := hg 2
  simp only [List.getElem?_toArray, List.getElem?_cons_succ, List.getElem?_cons_zero] at q0 q1 q2
  clear hg
  have hg := cell_of_heap hM3
  have x0 := hg 0
  have x1 := hg 1
  have x2 := hg 2
  have x3 := hg 3
  have x4 := hg 4
  have x5 := hg 5
  have x6 := hg 6
  have x7 := hg 7
  have x8 := hg 8
  have x9 := hg 9
  have x10 := hg 10
  have x11 := hg 11
  have x12 := hg 12
  have x13 := hg 13
  simp only [List.getElem?_toArray, List.getElem?_cons_succ, List.getElem?_cons_zero] at x0 x1 x2 x3 x4 x5 x6 x7 x8 x9 x10 x11 x12 x13
  clear hg
  have hg := cell_of_heap hO3
  have y0 := hg 0
  have y1 := hg 1
  have y2 := hg 2
  have y3 := hg 3
  have y4 := hg 4
  have y5 := hg 5
  have y6 := hg 6
  have y7 := hg 7
  have y8 := hg 8
  have y9 := hg 9
  have y10 := hg 10
  have y11 := hg 11
  have y12 := hg 12
  have y13 := hg 13
  simp only [List.getElem?_toArray, List.getElem?_cons_succ, List.getElem?_cons_zero] at y0 y1 y2 y3 y4 y5 y6 y7 y8 y9 y10 y11 y12 y13
  clear hg
  have Q0 := BelowC.cell (W := W) q0 hlq
  have Q1 := BelowC.cell (W := W) q1 hlq
  have Q2 := BelowC.cell (W := W) q2 hlq
  have X0 := BelowC.cell (W := W) x0 hlm
  have X1 := BelowC.cell (W := W) x1 hlm
  have X2 := BelowC.cell (W := W) x2 hlm
  have X3 := BelowC.cell (W := W) x3 hlm
  have X4 := BelowC.cell (W := W) x4 hlm
  have X5 := BelowC.cell (W := W) x5 hlm
  have X6 := BelowC.cell (W := W) x6 hlm
  have X7 := BelowC.cell (W := W) x7 hlm
  have X8 := BelowC.cell (W := W) x8 hlm
  have X9 := BelowC.cell (W := W) x9 hlm
  have X10 := BelowC.cell (W := W) x10 hlm
  have X11 := BelowC.cell (W := W) x11 hlm
  have X12 := BelowC.cell (W := W) x12 hlm
  have X13 := BelowC.cell (W := W) x13 hlm
  have Y0 := BelowC.cell (W := W) y0 hlo
  have Y1 := BelowC.cell (W := W) y1 hlo
  have Y2 := BelowC.cell (W := W) y2 hlo
  have Y3 := BelowC.cell (W := W) y3 hlo
  have Y4 := BelowC.cell (W := W) y4 hlo
  have Y5 := BelowC.cell (W := W) y5 hlo
  have Y6 := BelowC.cell (W := W) y6 hlo
  have Y7 := BelowC.cell (W := W) y7 hlo
  have Y8 := BelowC.cell (W := W) y8 hlo
  have Y9 := BelowC.cell (W := W) y9 hlo
  have Y10 := BelowC.cell (W := W) y10 hlo
  have Y11 := BelowC.cell (W := W) y11 hlo
  have Y12 := BelowC.cell (W := W) y12 hlo
  have Y13 := BelowC.cell (W := W) y13 hlo
  have HBC := Go.Lib.hid (show Below W.heap.size W W.drew from (Below.refl W.heap.size W).drew)
  have hne : Nonempty (Subtype (Below W.heap.size W)) := ⟨⟨W, Below.refl _ _⟩⟩
  have hcv : ∀ W', Below W.heap.size W W' → Below w.heap.size w W' := fun W' h => hb3.trans (h.mono hb3.size)
  have hans := fun (W' : World) (h : Below W.heap.size W W') => HANS.out W' (hcv W' h)
  have hrans := fun (W' : World) (h : Below W.heap.size W W') => HRANS.out W' (hcv W' h)
  have href := fun (W' : World) (h : Below W.heap.size W W') => HREF.out W' (hcv W' h)
  have hrref := fun (W' : World) (h : Below W.heap.size W W') => HRREF.out W' (hcv W' h)
  have hrep := fun (W' : World) (h : Below W.heap.size W W') => HREP.out W' (hcv W' h)
  have hrrep := fun (W' : World) (h : Below W.heap.size W W') => HRREP.out W' (hcv W' h)
  have hgrp := fun (W' : World) (h : Below W.heap.size W W') => HGRP.out W' (hcv W' h)
  have hsets := fun (W' : World) (h : Below W.heap.size W W') => HSETS.out W' (hcv W' h)
  clear HANS HRANS HREF HRREF HREP HRREP HGRP HSETS hcv HSM HSO HRC
  have HANS := Go.Lib.hid hans
  have HRANS := Go.Lib.hid hrans
  have HREF := Go.Lib.hid href
  have HRREF := Go.Lib.hid hrref
  have HREP := Go.Lib.hid hrep
  have HRREP := Go.Lib.hid hrrep
  have HGRP := Go.Lib.hid hgrp
  have HSETS := Go.Lib.hid hsets
  have HBW := Go.Lib.hid hb3
  clear hans hrans href hrref hrep hrrep hgrp hsets hb3
  clear hQ3 hM3 hO3 q0 q1 q2 x0 x1 x2 x3 x4 x5 x6 x7 x8 x9 x10 x11 x12 x13 y0 y1 y2 y3 y4 y5 y6 y7 y8 y9 y10 y11 y12 y13 hlq hlm hlo
  go_wp2_with fail
  refine Go.Mix.wp_region_mixC (Es := [2, 5, 6, 10, 13, 19, 22, 23, 31, 37, 38, 42, 44, 45, 48]) (Below W.heap.size W) mixed (by kernel_rfl) (Below.refl _ _).drew (fun _ => ?_)
  iterate 2 (refine Go.Mix.mix_step rfl (fun K hK => ?_); have HKK := Go.Lib.hid hK; clear hK; go_simp; refine HKK.out _ _ ?_; clear HKK K)
  refine Go.Mix.mix_eff rfl (fun K hK => ?_)
  have HKK := Go.Lib.hid hK
  clear hK
  go_simp
  refine (HASK.out _).mono ?_; rintro e wn ⟨f1, f2, f3, f4, rfl, ht, hx⟩
  have hb := HBC.out.trans (hx.mono HBC.out.size)
  obtain ⟨p1, p2, p3, p4, p5, p6, p7, p8, rfl, rfl, rfl, rfl⟩ := ht.places
  have HT1 := Go.Lib.hid ht
  clear ht
  clear HBC
  have HBC := Go.Lib.hid hb
  clear hx hb
  go_simp
  refine HKK.out _ _ HBC.out ?_
  clear HKK K
  iterate 2 (refine Go.Mix.mix_step rfl (fun K hK => ?_); have HKK := Go.Lib.hid hK; clear hK; go_simp; refine HKK.out _ _ ?_; clear HKK K)
  refine Go.Mix.mix_eff rfl (fun K hK => ?_)
  have HKK := Go.Lib.hid hK
  clear hK
  go_simp
  refine (HRASK.out _).mono ?_; rintro e wn ⟨f1, f2, f3, f4, rfl, ht, hx⟩
  have hb := HBC.out.trans (hx.mono HBC.out.size)
  obtain ⟨r1, r2, r3, r4, r5, r6, r7, r8, rfl, rfl, rfl, rfl⟩ := ht.places
  have HT2 := Go.Lib.hid ht
  clear ht
  have ht := HT1.out.below hx
  clear HT1
  have HT1 := Go.Lib.hid ht
  clear ht
  clear HBC
  have HBC := Go.Lib.hid hb
  clear hx hb
  go_simp
  refine HKK.out _ _ HBC.out ?_
  clear HKK K
  refine Go.Mix.mix_eff rfl (fun K hK => ?_)
  have HKK := Go.Lib.hid hK
  clear hK
  go_simp
  refine (Message_same _ _ _ _ _ _ _ _ _ _ HT1.out.lies HT2.out.lies).mono ?_; rintro e wn ⟨rfl, hx⟩
  have hb := HBC.out.trans (hx.mono HBC.out.size)
  clear HT1 HT2
  clear HBC
  have HBC := Go.Lib.hid hb
  clear hx hb
  go_simp
  refine HKK.out _ _ HBC.out ?_
  clear HKK K
  iterate 3 (refine Go.Mix.mix_step rfl (fun K hK => ?_); have HKK := Go.Lib.hid hK; clear hK; go_simp; refine HKK.out _ _ ?_; clear HKK K)
  refine Go.Mix.mix_eff rfl (fun K hK => ?_)
  have HKK := Go.Lib.hid hK
  clear hK
  go_simp
  refine (HANS.out _ HBC.out).mono ?_; rintro e wn ⟨rfl, hx⟩
  have hb := HBC.out.trans (hx.mono HBC.out.size)
  clear HBC
  have HBC := Go.Lib.hid hb
  clear hx hb
  go_simp
  refine HKK.out _ _ HBC.out ?_
  clear HKK K
  iterate 2 (refine Go.Mix.mix_step rfl (fun K hK => ?_); have HKK := Go.Lib.hid hK; clear hK; go_simp; refine HKK.out _ _ ?_; clear HKK K)
  refine Go.Mix.mix_eff rfl (fun K hK => ?_)
  have HKK := Go.Lib.hid hK
  clear hK
  go_simp
  refine (HRANS.out _ HBC.out).mono ?_; rintro e wn ⟨rfl, hx⟩
  have hb := HBC.out.trans (hx.mono HBC.out.size)
  clear HBC
  have HBC := Go.Lib.hid hb
  clear hx hb
  go_simp
  refine HKK.out _ _ HBC.out ?_
  clear HKK K
  iterate 5 (refine Go.Mix.mix_step rfl (fun K hK => ?_); have HKK := Go.Lib.hid hK; clear hK; go_simp; refine HKK.out _ _ ?_; clear HKK K)
  refine Go.Mix.mix_eff rfl (fun K hK => ?_)
  have HKK := Go.Lib.hid hK
  clear hK
  go_simp
  refine (HREF.out _ HBC.out).mono ?_; rintro e wn ⟨f1, f2, f3, f4, rfl, ht, hx⟩
  have hb := HBC.out.trans (hx.mono HBC.out.size)
  obtain ⟨p1, p2, p3, p4, p5, p6, p7, p8, rfl, rfl, rfl, rfl⟩ := ht.places
  have HT1 := Go.Lib.hid ht
  clear ht
  clear HBC
  have HBC := Go.Lib.hid hb
  clear hx hb
  go_simp
  refine HKK.out _ _ HBC.out ?_
  clear HKK K
  iterate 2 (refine Go.Mix.mix_step rfl (fun K hK => ?_); have HKK := Go.Lib.hid hK; clear hK; go_simp; refine HKK.out _ _ ?_; clear HKK K)
  refine Go.Mix.mix_eff rfl (fun K hK => ?_)
  have HKK := Go.Lib.hid hK
  clear hK
  go_simp
  refine (HRREF.out _ HBC.out).mono ?_; rintro e wn ⟨f1, f2, f3, f4, rfl, ht, hx⟩
  have hb := HBC.out.trans (hx.mono HBC.out.size)
  obtain ⟨r1, r2, r3, r4, r5, r6, r7, r8, rfl, rfl, rfl, rfl⟩ := ht.places
  have HT2 := Go.Lib.hid ht
  clear ht
  have ht := HT1.out.below hx
  clear HT1
  have HT1 := Go.Lib.hid ht
  clear ht
  clear HBC
  have HBC := Go.Lib.hid hb
  clear hx hb
  go_simp
  refine HKK.out _ _ HBC.out ?_
  clear HKK K
  refine Go.Mix.mix_eff rfl (fun K hK => ?_)
  have HKK := Go.Lib.hid hK
  clear hK
  go_simp
  refine (Message_same _ _ _ _ _ _ _ _ _ _ HT1.out.lies HT2.out.lies).mono ?_; rintro e wn ⟨rfl, hx⟩
  have hb := HBC.out.trans (hx.mono HBC.out.size)
  clear HT1 HT2
  clear HBC
  have HBC := Go.Lib.hid hb
  clear hx hb
  go_simp
  refine HKK.out _ _ HBC.out ?_
  clear HKK K
  iterate 7 (refine Go.Mix.mix_step rfl (fun K hK => ?_); have HKK := Go.Lib.hid hK; clear hK; go_simp; refine HKK.out _ _ ?_; clear HKK K)
  refine Go.Mix.mix_eff rfl (fun K hK => ?_)
  have HKK := Go.Lib.hid hK
  clear hK
  go_simp
  refine (HREP.out _ HBC.out).mono ?_; rintro e wn ⟨f1, f2, f3, f4, rfl, ht, hx⟩
  have hb := HBC.out.trans (hx.mono HBC.out.size)
  obtain ⟨p1, p2, p3, p4, p5, p6, p7, p8, rfl, rfl, rfl, rfl⟩ := ht.places
  have HT1 := Go.Lib.hid ht
  clear ht
  clear HBC
  have HBC := Go.Lib.hid hb
  clear hx hb
  go_simp
  refine HKK.out _ _ HBC.out ?_
  clear HKK K
  iterate 5 (refine Go.Mix.mix_step rfl (fun K hK => ?_); have HKK := Go.Lib.hid hK; clear hK; go_simp; refine HKK.out _ _ ?_; clear HKK K)
  refine Go.Mix.mix_eff rfl (fun K hK => ?_)
  have HKK := Go.Lib.hid hK
  clear hK
  go_simp
  refine (HRREP.out _ HBC.out).mono ?_; rintro e wn ⟨f1, f2, f3, f4, rfl, ht, hx⟩
  have hb := HBC.out.trans (hx.mono HBC.out.size)
  obtain ⟨r1, r2, r3, r4, r5, r6, r7, r8, rfl, rfl, rfl, rfl⟩ := ht.places
  have HT2 := Go.Lib.hid ht
  clear ht
  have ht := HT1.out.below hx
  clear HT1
  have HT1 := Go.Lib.hid ht
  clear ht
  clear HBC
  have HBC := Go.Lib.hid hb
  clear hx hb
  go_simp
  refine HKK.out _ _ HBC.out ?_
  clear HKK K
  refine Go.Mix.mix_eff rfl (fun K hK => ?_)
  have HKK := Go.Lib.hid hK
  clear hK
  go_simp
  refine (Message_same _ _ _ _ _ _ _ _ _ _ HT1.out.lies HT2.out.lies).mono ?_; rintro e wn ⟨rfl, hx⟩
  have hb := HBC.out.trans (hx.mono HBC.out.size)
  clear HT1 HT2
  clear HBC
  have HBC := Go.Lib.hid hb
  clear hx hb
  go_simp
  refine HKK.out _ _ HBC.out ?_
  clear HKK K
  iterate 3 (refine Go.Mix.mix_step rfl (fun K hK => ?_); have HKK := Go.Lib.hid hK; clear hK; go_simp; refine HKK.out _ _ ?_; clear HKK K)
  refine Go.Mix.mix_eff rfl (fun K hK => ?_)
  have HKK := Go.Lib.hid hK
  clear hK
  go_simp
  refine (HGRP.out _ HBC.out).mono ?_; rintro e wn ⟨v1, rfl, hgv, hx⟩
  have hb := HBC.out.trans (hx.mono HBC.out.size)
  obtain ⟨ga, gc, rfl, _, _⟩ := hgv.slice
  have HG1 := Go.Lib.hid hgv
  clear hgv
  clear HBC
  have HBC := Go.Lib.hid hb
  clear hx hb
  go_simp
  refine HKK.out _ _ HBC.out ?_
  clear HKK K
  iterate 1 (refine Go.Mix.mix_step rfl (fun K hK => ?_); have HKK := Go.Lib.hid hK; clear hK; go_simp; refine HKK.out _ _ ?_; clear HKK K)
  refine Go.Mix.mix_eff rfl (fun K hK => ?_)
  have HKK := Go.Lib.hid hK
  clear hK
  go_simp
  refine (HSETS.out _ HBC.out).mono ?_; rintro e wn ⟨v2, vs2, rfl, hog, hx⟩
  have hb := HBC.out.trans (hx.mono HBC.out.size)
  have hgv := grp_of_own hog
  obtain ⟨gb, gd, rfl, _, _⟩ := hgv.slice
  have HG2 := Go.Lib.hid hgv
  clear hgv hog
  have hgv := HG1.out.below hx (Nat.le_refl _)
  clear HG1
  have HG1 := Go.Lib.hid hgv
  clear hgv
  clear HBC
  have HBC := Go.Lib.hid hb
  clear hx hb
  go_simp
  refine HKK.out _ _ HBC.out ?_
  clear HKK K
  refine Go.Mix.mix_eff rfl (fun K hK => ?_)
  have HKK := Go.Lib.hid hK
  clear hK
  go_simp
  refine (lawSame_same _ _ _ _ _ _ HG1.out HG2.out).mono ?_; rintro e wn ⟨rfl, hx⟩
  have hb := HBC.out.trans (hx.mono HBC.out.size)
  clear HG1 HG2
  clear HBC
  have HBC := Go.Lib.hid hb
  clear hx hb
  go_simp
  refine HKK.out _ _ HBC.out ?_
  clear HKK K
  iterate 2 (refine Go.Mix.mix_step rfl (fun K hK => ?_); have HKK := Go.Lib.hid hK; clear hK; go_simp; refine HKK.out _ _ ?_; clear HKK K)
  refine Go.Mix.mix_eff rfl (fun K hK => ?_)
  have HKK := Go.Lib.hid hK
  clear hK
  go_simp
  refine (HAW.out _).mono ?_; rintro e wn ⟨rfl, hx⟩
  have hb := HBC.out.trans (hx.mono HBC.out.size)
  clear HBC
  have HBC := Go.Lib.hid hb
  clear hx hb
  go_simp
  refine HKK.out _ _ HBC.out ?_
  clear HKK K
  iterate 2 (refine Go.Mix.mix_step rfl (fun K hK => ?_); have HKK := Go.Lib.hid hK; clear hK; go_simp; refine HKK.out _ _ ?_; clear HKK K)
  refine Go.Mix.mix_nil ?_
  have hend := HBW.out.trans (HBC.out.mono HBW.out.size)
  have HEND := Go.Lib.hid hend
  clear hend
  go_wp2_with fail
  go_ret
  exact ⟨rfl, HEND.out⟩


theorem walk (id : Int) (qu : Qn) (m : Msg) (v1 v2 v3 v4 : Value) (o : Msg) (u1 u2 u3 u4 : Value) (code : Int) (la : Option Addr) (l : List Rc.RR) (lc : Nat) (w : World) (hid : Fits id) (hqu : QnFit qu) (hm : MsgL w m v1 v2 v3 v4) (hmf : MsgFit m) (ho : MsgL w o u1 u2 u3 u4) (hof : MsgFit o) (hcd : Fits code) (hl : RRs w (.slice la l.length lc) l) (hlf : ∀ r ∈ l, RRFit r) :
    Calls Try.prog 3 #[.int .i64 id, .agg #[.string (mk qu.name), .int .i64 qu.ty, .int .i64 qu.cl], MV m v1 v2 v3 v4, MV o u1 u2 u3 u4, .int .i64 code, .slice la l.length lc] w fun e w' => e = .returned (.bool true) ∧ Below w.heap.size w w' := by
  obtain ⟨xq, xcq, rfl, _, _⟩ := hm.qs.slice
  obtain ⟨xa, xca, rfl, _, _⟩ := hm.an.slice
  obtain ⟨xs, xcs, rfl, _, _⟩ := hm.sv.slice
  obtain ⟨xd, xcd, rfl, _, _⟩ := hm.ad.slice
  obtain ⟨yq, ycq, rfl, _, _⟩ := ho.qs.slice
  obtain ⟨ya, yca, rfl, _, _⟩ := ho.an.slice
  obtain ⟨ys, ycs, rfl, _, _⟩ := ho.sv.slice
  obtain ⟨yd, ycd, rfl, _, _⟩ := ho.ad.slice
  have hrok : ∀ r ∈ l, RROk r := fun r hr => (hlf r hr).1
  have haw := Go.Lib.hid awake5_any
  have hsm := fun (b : Bool) (hb : smallB m 3000 = b) => Go.Lib.hid fun (W : World) (h : Below w.heap.size w W) => hb ▸ Small_any m _ _ _ _ 3000 W (hm.below h (Nat.le_refl _)) (by decide) hmf.ok
  have hso := fun (b : Bool) (hb : smallB o 3000 = b) => Go.Lib.hid fun (W : World) (h : Below w.heap.size w W) => hb ▸ Small_any o _ _ _ _ 3000 W (ho.below h (Nat.le_refl _)) (by decide) hof.ok
  have hrc := fun (b : Bool) (hb : recordsB l 3000 = b) => Go.Lib.hid fun (W : World) (h : Below w.heap.size w W) => hb ▸ Records_any l la lc 3000 W (SlC.below hl h (Nat.le_refl _)) (by decide) hrok
  by_cases hlong : 400 < qu.name.length
  · exact t1 _ _ _ _ _ _ _ _ _ _ _ _ _ _ _ _ _ _ _ _ _ _ _ _ _ _ _ _ _ _ _ _ _ _ _ _ _ _ _ _ _ _ _ _ _ _ _ _ _ _ _ _ _ hqu.1 hlong haw
  have hlong := Nat.le_of_not_lt hlong
  cases hb1 : smallB m 3000 with
  | false => exact t2 _ _ _ _ _ _ _ _ _ _ _ _ _ _ _ _ _ _ _ _ _ _ _ _ _ _ _ _ _ _ _ _ _ _ _ _ _ _ _ _ _ _ _ _ _ _ _ _ _ _ _ _ _ hqu.1 hlong haw (hsm _ hb1)
  | true =>
    cases hb2 : smallB o 3000 with
    | false => exact t3 _ _ _ _ _ _ _ _ _ _ _ _ _ _ _ _ _ _ _ _ _ _ _ _ _ _ _ _ _ _ _ _ _ _ _ _ _ _ _ _ _ _ _ _ _ _ _ _ _ _ _ _ _ hqu.1 hlong haw (hsm _ hb1) (hso _ hb2)
    | true =>
      cases hb3 : recordsB l 3000 with
      | false => exact t4 _ _ _ _ _ _ _ _ _ _ _ _ _ _ _ _ _ _ _ _ _ _ _ _ _ _ _ _ _ _ _ _ _ _ _ _ _ _ _ _ _ _ _ _ _ _ _ _ _ _ _ _ _ hqu.1 hlong haw (hsm _ hb1) (hso _ hb2) (hrc _ hb3)
      | true =>
        have hs : m.qs.length ≤ 1000000 ∧ m.sv.length ≤ 1000000 := by
          unfold smallB at hb1
          simp only [Bool.and_eq_true, decide_eq_true_eq] at hb1
          obtain ⟨⟨⟨⟨h1, _⟩, _⟩, h4⟩, _⟩ := hb1
          exact ⟨by omega, by have := (recordsB_true h4).1; omega⟩
        have hll : l.length ≤ 1000000 := by have := (recordsB_true hb3).1; omega
        exact t5 _ _ _ _ _ _ _ _ _ _ _ _ _ _ _ _ _ _ _ _ _ _ _ _ _ _ _ _ _ _ _ _ _ _ _ _ _ _ _ _ _ _ _ _ _ _ _ _ _ _ _ _ _ hqu.1 hlong (replyN m code [] []) (replyN m code l m.sv) (askN (bits .and .i64 id 65535) qu) (answersN m o) (groupsN l) haw (hsm _ hb1) (hso _ hb2) (hrc _ hb3)
          (Go.Lib.hid fun W => Ask_any id qu W) (Go.Lib.hid fun W => refAsk_any id qu W)
          (Go.Lib.hid fun W h => Answers_any m o _ _ _ _ _ _ _ _ W (hm.below h (Nat.le_refl _)) (ho.below h (Nat.le_refl _)) hmf.ok.qs hof.ok.qs)
          (Go.Lib.hid fun W h => refAnswers_any m o _ _ _ _ _ _ _ _ W (hm.below h (Nat.le_refl _)) (ho.below h (Nat.le_refl _)) hmf.ok.qs hof.ok.qs)
          (Go.Lib.hid fun W h => Refuse_any m _ _ _ _ code W (hm.below h (Nat.le_refl _)) hs.1)
          (Go.Lib.hid fun W h => refRefuse_any m _ _ _ _ code W (hm.below h (Nat.le_refl _)) hs.1)
          (Go.Lib.hid fun W h => Reply_any m _ _ _ _ code _ _ l m.sv W (hm.below h (Nat.le_refl _)) (SlC.below hl h (Nat.le_refl _)) (hm.sv.below h (Nat.le_refl _)) hs.1 hll hs.2)
          (Go.Lib.hid fun W h => refReply_any m _ _ _ _ code _ _ l m.sv W (hm.below h (Nat.le_refl _)) (SlC.below hl h (Nat.le_refl _)) (hm.sv.below h (Nat.le_refl _)) hs.1 hll hs.2)
          (Go.Lib.hid fun W h => walkG_neg (groupsN l) ▸ lawGroups_any la lc l (-1) W (SlC.below hl h (Nat.le_refl _)) hll hrok)
          (Go.Lib.hid fun W h => refSets_any la lc l W (SlC.below hl h (Nat.le_refl _)) hll hrok)

set_option maxRecDepth 100000 in
theorem lifted (os : Os) (started : os.Started) (H : Type) (enc : TypeId × Value → H) :
    ReturnsInHanded {} Try.checked os 3 .any (Rows.matchTellsSpec.pre6 enc Try.prog Try.f3 Rows.matchTellsRow.domain false) (Rows.matchTellsSpec.post enc Try.prog Try.f3 false true false false) := by
  refine returnsInHanded_of_change (C := Try.checked) own started (by kernel_rfl) Try.func3
    (ChangeSpec.witness6 (enc := enc) (C := Try.checked) false ⟨#[], #[.int .i64 0, .agg #[.string ⟨#[]⟩, .int .i64 0, .int .i64 0], .agg #[.int .i64 0, .bool false, .int .i64 0, .bool false, .bool false, .bool false, .bool false, .int .i64 0, .slice none 0 0, .slice none 0 0, .slice none 0 0, .slice none 0 0, .bool false, .int .i64 0], .agg #[.int .i64 0, .bool false, .int .i64 0, .bool false, .bool false, .bool false, .bool false, .int .i64 0, .slice none 0 0, .slice none 0 0, .slice none 0 0, .slice none 0 0, .bool false, .int .i64 0], .int .i64 0, .slice none 0 0], []⟩ 8 (by kernel_rfl) (by kernel_rfl) (by kernel_rfl) (by kernel_rfl)) ?_
  intro W base args ds gs before hval0 hW hcnd _
  have hval : ∀ (j : Nat) t v, Try.f3.params[j]? = some t → args[j]? = some v → Value.okWide Try.prog W .any base t v := hval0
  refine law_post enc 6 (by kernel_rfl) rfl rfl (by kernel_rfl) (fun ds h => match ds, h with | [_, _, _, _, _, _], _ => rfl) hW ?_
  obtain ⟨p, q, hA0, hV, rfl, _, _⟩ := hW
  have hA : DataW.TrodAll enc Try.prog W 0 (fun _ => true) true Try.f3.params.toList args.toList ds p := hA0
  rw [Try.params3] at hA hval
  obtain ⟨v0, vs0, d0, ds0, p0, q0, hargs, rfl, rfl, h0, r0⟩ := trodAll_cons hA
  obtain ⟨v1, vs1, d1, ds1, p1, q1, rfl, rfl, rfl, h1, r1⟩ := trodAll_cons r0
  obtain ⟨v2, vs2, d2, ds2, p2, q2, rfl, rfl, rfl, h2, r2⟩ := trodAll_cons r1
  obtain ⟨v3, vs3, d3, ds3, p3, q3, rfl, rfl, rfl, h3, r3⟩ := trodAll_cons r2
  obtain ⟨v4, vs4, d4, ds4, p4, q4, rfl, rfl, rfl, h4, r4⟩ := trodAll_cons r3
  obtain ⟨v5, vs5, d5, ds5, p5, q5, rfl, rfl, rfl, h5, r5⟩ := trodAll_cons r4
  obtain ⟨rfl, rfl, rfl⟩ := trodAll_nil r5
  obtain rfl : args = #[v0, v1, v2, v3, v4, v5] := by cases args; simp_all
  obtain ⟨a0, rfl, rfl, rfl, w0⟩ := open_int Try.underlying3 (hval 0 3 v0 rfl rfl) h0
  obtain ⟨q1, rfl, w1⟩ := open_Qn (hval 1 23 v1 rfl rfl) h1
  obtain ⟨m2, a2, b2, c2, e2, rfl, l2, w2⟩ := open_Msg (hval 2 27 v2 rfl rfl) h2
  obtain ⟨m3, a3, b3, c3, e3, rfl, l3, w3⟩ := open_Msg (hval 3 27 v3 rfl rfl) h3
  obtain ⟨a4, rfl, rfl, rfl, w4⟩ := open_int Try.underlying3 (hval 4 3 v4 rfl rfl) h4
  obtain ⟨a5, z5, c5, rfl, l5, w5⟩ := open_RRs (hval 5 25 v5 rfl rfl) h5
  exact walk a0 q1 m2 a2 b2 c2 e2 m3 a3 b3 c3 e3 a4 a5 z5 c5 W (fits_of_wf w0) w1 l2 w2 l3 w3 (fits_of_wf w4) l5 w5

theorem over : Rows.matchTellsRow.holds Try.pinned (OpenSpec.ofChange Rows.matchTellsSpec) :=
  OpenClaim.holds_of_wide 3 Try.f3 rfl rfl rfl rfl rfl rfl rfl ⟨rfl, rfl, rfl, rfl, rfl⟩ rfl rfl rfl rfl rfl (by kernel_rfl) Try.func3 (by kernel_rfl)
    (of_decide_eq_true (by kernel_rfl)) (by unfold Func.isWrapper; first | (rw [if_pos (by decide +kernel)]; kernel_rfl) | (rw [if_neg (by decide +kernel)]; exact ⟨rfl, rfl⟩))
    (fun os started H enc _ => lifted os started H enc)

/-- the statement -/
theorem proved : Rows.MatchTellsSaid := over
#print axioms proved
end Go.Proofs.Ytcamopppeanipaa.matchTells

