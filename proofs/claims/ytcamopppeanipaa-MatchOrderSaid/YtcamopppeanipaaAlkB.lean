/- The contracts of freshetalike.Small, and of freshetalike.Message at messages that are alike. -/
import Derived.Test.YtcamopppeanipaaAlk
import Derived.Test.YtcamopppeanipaaMsgB
namespace Go.Proofs.Ytcamopppeanipaa
open Go.RowKit Go.Shelf Go.Sq
set_option linter.unusedVariables false

theorem qn_step {l : List Qn} {k n : Nat} (hn : l.length = n) (h : k < n) : l.take (k + 1) = l.take k ++ [l.getD k q0] ∧ l.getD k q0 ∈ l := by
  subst hn
  constructor
  · rw [List.take_succ_eq_append_getElem h]
    simp [h]
  · rw [List.getD_eq_getElem?_getD, List.getElem?_eq_getElem h]
    simp
def longQ (l : List Qn) : Bool := l.all fun q => decide (q.name.length ≤ 400)
structure MsgOk (m : Msg) : Prop where
  qs : ∀ q ∈ m.qs, q.name.length ≤ maxLen
  an : ∀ r ∈ m.an, RROk r
  sv : ∀ r ∈ m.sv, RROk r
  ad : ∀ r ∈ m.ad, RROk r

set_option maxRecDepth 100000 in
set_option maxHeartbeats 4000000 in
theorem Small_any (m : Msg) (q a s d : Value) (top : Nat) (w : World) (hm : MsgL w m q a s d) (ht : top ≤ 100000) (hok : MsgOk m) :
    Calls Try.prog 8 #[MV m q a s d, .int .i64 top] w fun e w' => e = .returned (.bool (smallB m top)) ∧ Below w.heap.size w w' := by
  obtain ⟨aq, cq, rfl, _, _⟩ := hm.qs.slice
  obtain ⟨aa, ca, rfl, _, _⟩ := hm.an.slice
  obtain ⟨asv, cs, rfl, _, _⟩ := hm.sv.slice
  obtain ⟨ad, cd, rfl, _, _⟩ := hm.ad.slice
  have hx1 := World.alloc_heap_new w (.cells (MC m (.slice aq m.qs.length cq) (.slice aa m.an.length ca) (.slice asv m.sv.length cs) (.slice ad m.ad.length cd)) 27)
  have hbx : Below w.heap.size w (w.alloc (.cells (MC m (.slice aq m.qs.length cq) (.slice aa m.an.length ca) (.slice asv m.sv.length cs) (.slice ad m.ad.length cd)) 27)) := (Below.refl _ w).alloc (Nat.le_refl _) _
  have hlt1 := (Array.getElem?_eq_some_iff.1 hx1).1
  have hq := hm.qs
  have ra := fun (W : World) (h : Below w.heap.size w W) => Records_any m.an aa ca top W (hm.an.below h (Nat.le_refl _)) ht hok.an
  have rs := fun (W : World) (h : Below w.heap.size w W) => Records_any m.sv asv cs top W (hm.sv.below h (Nat.le_refl _)) ht hok.sv
  have rd := fun (W : World) (h : Below w.heap.size w W) => Records_any m.ad ad cd top W (hm.ad.below h (Nat.le_refl _)) ht hok.ad
  have hqn := hok.qs
  have hdef : smallB m top = (decide (m.qs.length ≤ 8) && longQ m.qs && recordsB m.an top && recordsB m.sv top && recordsB m.ad top) := rfl
  clear hm hok
  obtain ⟨mid, mre, mop, mau, mcu, mde, mav, mco, mqs, man, msv, mad, med, msi⟩ := m
  simp only [MC, MV] at hq hx1 hbx hlt1 ra rs rd hqn hdef ⊢
  generalize smallB _ top = res at *
  generalize recordsB man top = b1 at *
  generalize recordsB msv top = b2 at *
  generalize recordsB mad top = b3 at *
  generalize man.length = na at *
  generalize msv.length = ns at *
  generalize mad.length = nd at *
  unfold Qns at hq
  generalize hnq : mqs.length = nq at *
  have HQ := Go.Lib.hid hq
  have HQN := Go.Lib.hid hqn
  have HX1 := Go.Lib.hid hx1
  have HBX := Go.Lib.hid hbx
  have HDEF := Go.Lib.hid hdef
  have HNQ := Go.Lib.hid hnq
  have RA := Go.Lib.hid ra
  have RS := Go.Lib.hid rs
  have RD := Go.Lib.hid rd
  clear hq hqn hx1 hbx hdef hnq ra rs rd
  by_cases h8 : 8 < nq
  · have hres : Hid (res = false) := Go.Lib.hid (by rw [HDEF.out, decide_eq_false (by omega)]; simp)
    have e8 : (8 : Int) < (nq : Int) := by omega
    go_enter Try.func8, Try.ntmps8
    go_wp2_with fail
    go_ret
    exact ⟨ret_bool hres.out.symm, HBX.out⟩
  · have e8 : ¬ (8 : Int) < (nq : Int) := by omega
    have h8' : nq ≤ 8 := by omega
    clear h8
    go_enter Try.func8, Try.ntmps8
    go_wp2_with fail
    generalize w.alloc (.cells #[.int .i64 mid, .bool mre, .int .i64 mop, .bool mau, .bool mcu, .bool mde, .bool mav, .int .i64 mco, .slice aq nq cq, .slice aa na ca, .slice asv ns cs, .slice ad nd cd, .bool med, .int .i64 msi] 27) = W at *
    go_loopw [5] (fun i wr => ∃ k : Nat, i = .int .i64 k ∧ k ≤ nq ∧ longQ (mqs.take k) = true ∧ Below W.heap.size W wr) (fun i _ => nq - (intOf i).toNat)
    case atStart => exact ⟨0, rfl, by omega, rfl, Below.refl _ _⟩
    case round =>
      obtain ⟨k, rfl, hk, hall, hbr⟩ := hrel
      have hh := (hbr.block _ hlt1).trans HX1.out
      have hg := cell_of_heap hh
      have g8 := hg 8
      have g9 := hg 9
      have g10 := hg 10
      have g11 := hg 11
      simp only [List.getElem?_toArray, List.getElem?_cons_succ, List.getElem?_cons_zero] at g8 g9 g10 g11
      have hbb := HBX.out.trans (hbr.mono HBX.out.size)
      have HALL := Go.Lib.hid hall
      have HB := Go.Lib.hid hbr
      have HH := Go.Lib.hid hh
      have HBB := Go.Lib.hid hbb
      clear hall hbr hh hbb
      clear hg
      by_cases hlt : k < nq
      · have hst := HQ.out.below HBB.out (Nat.le_refl _)
        have hst2 : Qns wr (.slice aq nq cq) mqs := by unfold Qns; rw [HNQ.out]; exact hst
        obtain ⟨b, off, rfl, hbw, hcell⟩ := Qns.at hst2 (by rw [HNQ.out]; omega)
        obtain ⟨c0, _, _⟩ := hcell k (by rw [HNQ.out]; exact hlt)
        obtain ⟨hstep, hmem⟩ := qn_step HNQ.out hlt
        have hxs := HQN.out _ hmem
        have hlong : Hid (400 < (mqs.getD k q0).name.length → longQ mqs = false) := Go.Lib.hid (fun h => by
          unfold longQ
          rw [List.all_eq_false]
          exact ⟨_, hmem, by simpa using h⟩)
        have hsn : Hid ((mqs.getD k q0).name.length ≤ 400 → longQ (mqs.take (k + 1)) = true) := Go.Lib.hid (fun h => by
          rw [hstep]
          unfold longQ at *
          rw [List.all_append, HALL.out]
          simpa using h)
        clear hst hst2 hcell hstep hmem
        generalize mqs.getD k q0 = x at *
        obtain ⟨xn, xt, xc⟩ := x
        unfold maxLen at hxs
        simp only at c0 hxs
        have s1 : (mk xn).size = xn.length := size_mk xn
        by_cases hx : 400 < xn.length
        · have q1 : (400 : Int) < (xn.length : Int) := by omega
          have hres : Hid (res = false) := Go.Lib.hid (by rw [HDEF.out, hlong.out hx]; simp)
          clear hx hlong hsn
          go_wp2_with fail
          go_ret
          exact ⟨ret_bool hres.out.symm, HBB.out⟩
        · have q1 : ¬ (400 : Int) < (xn.length : Int) := by omega
          have hnx := Go.Lib.hid (hsn.out (by simpa using hx))
          clear hx hlong hsn
          go_wp2_with fail
          go_roundw
          case rel => exact ⟨k + 1, by go_num, by omega, hnx.out, HB.out⟩
          case measure => simp [intOf]; omega
      · obtain rfl : k = nq := by omega
        have hl : longQ mqs = true := by
          have := HALL.out
          rw [List.take_of_length_le (by rw [HNQ.out]; exact Nat.le_refl _)] at this
          exact this
        have hres : Hid (res = (b1 && b2 && b3)) := Go.Lib.hid (by rw [HDEF.out, hl, decide_eq_true h8']; simp)
        have r1 := RA.out wr HBB.out
        have R1 := Go.Lib.hid r1
        clear r1
        clear hl
        have hltr : w.heap.size < wr.heap.size := Nat.lt_of_lt_of_le hlt1 HB.out.size
        cases b1 with
        | false =>
          have hr2 : Hid (res = false) := Go.Lib.hid (by rw [hres.out]; rfl)
          go_wp2_with fail
          refine R1.out.mono ?_; rintro e wz ⟨rfl, hx⟩
          have HXX := Go.Lib.hid hx
          clear hx
          go_wp2_with fail
          go_ret
          exact ⟨ret_bool hr2.out.symm, HBB.out.trans (HXX.out.mono HBB.out.size)⟩
        | true =>
          go_wp2_with fail
          refine R1.out.mono ?_; rintro e wz ⟨rfl, hx⟩
          have hb2 := HBB.out.trans (hx.mono HBB.out.size)
          have hh2 := (hx.block _ hltr).trans HH.out
          have hg := cell_of_heap hh2
          have k10 := hg 10
          have k11 := hg 11
          simp only [List.getElem?_toArray, List.getElem?_cons_succ, List.getElem?_cons_zero] at k10 k11
          have r2 := RS.out wz hb2
          have hltz : w.heap.size < wz.heap.size := Nat.lt_of_lt_of_le hltr hx.size
          have HB2 := Go.Lib.hid hb2
          have HH2 := Go.Lib.hid hh2
          have R2 := Go.Lib.hid r2
          clear hb2 hh2 r2
          clear hg hx g8 g9 g10 g11
          cases b2 with
          | false =>
            have hr2 : Hid (res = false) := Go.Lib.hid (by rw [hres.out]; rfl)
            go_wp2_with fail
            refine R2.out.mono ?_; rintro e wy ⟨rfl, hx⟩
            have HXX := Go.Lib.hid hx
            clear hx
            go_wp2_with fail
            go_ret
            exact ⟨ret_bool hr2.out.symm, HB2.out.trans (HXX.out.mono HB2.out.size)⟩
          | true =>
            have hr2 : Hid (res = b3) := Go.Lib.hid (by rw [hres.out]; rfl)
            go_wp2_with fail
            refine R2.out.mono ?_; rintro e wy ⟨rfl, hx⟩
            have hb3 := HB2.out.trans (hx.mono HB2.out.size)
            have hh3 := (hx.block _ hltz).trans HH2.out
            have hg := cell_of_heap hh3
            have j11 := hg 11
            simp only [List.getElem?_toArray, List.getElem?_cons_succ, List.getElem?_cons_zero] at j11
            have r3 := RD.out wy hb3
            have HB3 := Go.Lib.hid hb3
            have HH3 := Go.Lib.hid hh3
            have R3 := Go.Lib.hid r3
            clear hb3 hh3 r3
            clear hg hx k10 k11
            go_wp2_with fail
            refine R3.out.mono ?_; rintro e wx ⟨rfl, hx⟩
            have HXX := Go.Lib.hid hx
            clear hx
            go_wp2_with fail
            go_ret
            exact ⟨ret_bool hr2.out.symm, HB3.out.trans (HXX.out.mono HB3.out.size)⟩

set_option maxRecDepth 100000 in
set_option maxHeartbeats 4000000 in
theorem Message_same (m : Msg) (q a s d q' a' s' d' : Value) (w : World) (hm : MsgL w m q a s d) (ho : MsgL w m q' a' s' d') :
    Calls Try.prog 11 #[MV m q a s d, MV m q' a' s' d'] w fun e w' => e = .returned (.bool true) ∧ Below w.heap.size w w' := by
  obtain ⟨aq, cq, rfl, hq1, hq2⟩ := hm.qs.slice
  obtain ⟨aa, ca, rfl, _, _⟩ := hm.an.slice
  obtain ⟨asv, cs, rfl, _, _⟩ := hm.sv.slice
  obtain ⟨ad, cd, rfl, _, _⟩ := hm.ad.slice
  obtain ⟨bq, eq, rfl, _, _⟩ := ho.qs.slice
  obtain ⟨ba, ea, rfl, _, _⟩ := ho.an.slice
  obtain ⟨bsv, es, rfl, _, _⟩ := ho.sv.slice
  obtain ⟨bd, ed, rfl, _, _⟩ := ho.ad.slice
  have hq := hm.qs
  have hq' := ho.qs
  obtain ⟨hx1, hx2⟩ := two_boxes w (MC m (.slice aq m.qs.length cq) (.slice aa m.an.length ca) (.slice asv m.sv.length cs) (.slice ad m.ad.length cd)) (MC m (.slice bq m.qs.length eq) (.slice ba m.an.length ea) (.slice bsv m.sv.length es) (.slice bd m.ad.length ed)) 27
  have hbx : Below w.heap.size w ((w.alloc (.cells (MC m (.slice aq m.qs.length cq) (.slice aa m.an.length ca) (.slice asv m.sv.length cs) (.slice ad m.ad.length cd)) 27)).alloc (.cells (MC m (.slice bq m.qs.length eq) (.slice ba m.an.length ea) (.slice bsv m.sv.length es) (.slice bd m.ad.length ed)) 27)) := ((Below.refl _ w).alloc (Nat.le_refl _) _).alloc (by simp) _
  have ra := fun (W : World) (h : Below w.heap.size w W) => RRs_same m.an aa ba ca ea W (hm.an.below h (Nat.le_refl _)) (ho.an.below h (Nat.le_refl _))
  have rs := fun (W : World) (h : Below w.heap.size w W) => RRs_same m.sv asv bsv cs es W (hm.sv.below h (Nat.le_refl _)) (ho.sv.below h (Nat.le_refl _))
  have rd := fun (W : World) (h : Below w.heap.size w W) => RRs_same m.ad ad bd cd ed W (hm.ad.below h (Nat.le_refl _)) (ho.ad.below h (Nat.le_refl _))
  have hl1 := (Array.getElem?_eq_some_iff.1 hx1).1
  have hl2 := (Array.getElem?_eq_some_iff.1 hx2).1
  clear hm ho
  obtain ⟨mid, mre, mop, mau, mcu, mde, mav, mco, mqs, man, msv, mad, med, msi⟩ := m
  simp only [MC, MV] at hq hq' hx1 hx2 hbx ra rs rd hl1 hl2 hq1 ⊢
  generalize man.length = na at *
  generalize msv.length = ns at *
  generalize mad.length = nd at *
  unfold Qns at hq hq'
  generalize hnq : mqs.length = nq at *
  unfold maxLen at hq2
  have HQ := Go.Lib.hid hq
  have HQ' := Go.Lib.hid hq'
  have HX1 := Go.Lib.hid hx1
  have HX2 := Go.Lib.hid hx2
  have HBX := Go.Lib.hid hbx
  have HNQ := Go.Lib.hid hnq
  have RA := Go.Lib.hid ra
  have RS := Go.Lib.hid rs
  have RD := Go.Lib.hid rd
  clear hq hq' hx1 hx2 hbx hnq ra rs rd
  go_enter Try.func11, Try.ntmps11
  go_wp2_with fail
  generalize (w.alloc (.cells #[.int .i64 mid, .bool mre, .int .i64 mop, .bool mau, .bool mcu, .bool mde, .bool mav, .int .i64 mco, .slice aq nq cq, .slice aa na ca, .slice asv ns cs, .slice ad nd cd, .bool med, .int .i64 msi] 27)).alloc (.cells #[.int .i64 mid, .bool mre, .int .i64 mop, .bool mau, .bool mcu, .bool mde, .bool mav, .int .i64 mco, .slice bq nq eq, .slice ba na ea, .slice bsv ns es, .slice bd nd ed, .bool med, .int .i64 msi] 27) = W at *
  go_loopw [5] (fun i wr => ∃ k : Nat, i = .int .i64 k ∧ k ≤ nq ∧ Below W.heap.size W wr) (fun i _ => nq - (intOf i).toNat)
  case atStart => exact ⟨0, rfl, by omega, Below.refl _ _⟩
  case round =>
    obtain ⟨k, rfl, hk, hbr⟩ := hrel
    have hh1 := (hbr.block _ hl1).trans HX1.out
    have hh2 := (hbr.block _ hl2).trans HX2.out
    have hg1 := cell_of_heap hh1
    have hg2 := cell_of_heap hh2
    have g8 := hg1 8
    have g9 := hg1 9
    have f8 := hg2 8
    have f9 := hg2 9
    simp only [List.getElem?_toArray, List.getElem?_cons_succ, List.getElem?_cons_zero] at g8 g9 f8 f9
    have hbb := HBX.out.trans (hbr.mono HBX.out.size)
    have hr1 := (Array.getElem?_eq_some_iff.1 hh1).1
    have hr2 := (Array.getElem?_eq_some_iff.1 hh2).1
    have HB := Go.Lib.hid hbr
    have HH1 := Go.Lib.hid hh1
    have HH2 := Go.Lib.hid hh2
    have HBB := Go.Lib.hid hbb
    clear hbr hh1 hh2 hbb
    clear hg1 hg2
    by_cases hlt : k < nq
    · have hst : Qns wr (.slice aq nq cq) mqs := by unfold Qns; rw [HNQ.out]; exact HQ.out.below HBB.out (Nat.le_refl _)
      have hsu : Qns wr (.slice bq nq eq) mqs := by unfold Qns; rw [HNQ.out]; exact HQ'.out.below HBB.out (Nat.le_refl _)
      obtain ⟨b, off, rfl, hbw, hcell⟩ := Qns.at hst (by rw [HNQ.out]; omega)
      obtain ⟨b', off', rfl, hbw', hcell'⟩ := Qns.at hsu (by rw [HNQ.out]; omega)
      obtain ⟨c0, c1, c2⟩ := hcell k (by rw [HNQ.out]; exact hlt)
      obtain ⟨d0, d1, d2⟩ := hcell' k (by rw [HNQ.out]; exact hlt)
      clear hst hsu hcell hcell'
      generalize mqs.getD k q0 = x at *
      obtain ⟨xn, xt, xc⟩ := x
      simp only at c0 c1 c2 d0 d1 d2
      have C0 := BelowC.cell (W := wr) c0 hbw
      have C1 := BelowC.cell (W := wr) c1 hbw
      have C2 := BelowC.cell (W := wr) c2 hbw
      have D0 := BelowC.cell (W := wr) d0 hbw'
      have D1 := BelowC.cell (W := wr) d1 hbw'
      have D2 := BelowC.cell (W := wr) d2 hbw'
      have G8 := BelowC.cell (W := wr) g8 hr1
      have F8 := BelowC.cell (W := wr) f8 hr2
      have hne : Nonempty (Subtype (Below wr.heap.size wr)) := ⟨⟨wr, Below.refl _ _⟩⟩
      clear c0 c1 c2 d0 d1 d2
      go_wp2_with fail
      refine Go.Mix.wp_region_mix (Es := []) (Below wr.heap.size wr) mixed (by kernel_rfl) (Below.refl _ _).drew (fun _ => ?_)
      iterate 11 (refine Go.Mix.mix_step rfl (fun K hK => ?_); have HKK := Go.Lib.hid hK; clear hK; go_simp; refine HKK.out _ _ ?_; clear HKK K)
      refine Go.Mix.mix_nil ?_
      go_wp2_with fail
      go_roundw
      case rel => exact ⟨k + 1, by go_num, by omega, HB.out.drew⟩
      case measure => simp [intOf]; omega
    · obtain rfl : k = nq := by omega
      have r1 := RA.out wr HBB.out
      have R1 := Go.Lib.hid r1
      clear r1
      go_wp2_with fail
      refine R1.out.mono ?_; rintro e wz ⟨rfl, hx⟩
      have hb2 := HBB.out.trans (hx.mono HBB.out.size)
      have hi1 := (hx.block _ hr1).trans HH1.out
      have hi2 := (hx.block _ hr2).trans HH2.out
      have hg1 := cell_of_heap hi1
      have hg2 := cell_of_heap hi2
      have k10 := hg1 10
      have l10 := hg2 10
      simp only [List.getElem?_toArray, List.getElem?_cons_succ, List.getElem?_cons_zero] at k10 l10
      have hs1 := (Array.getElem?_eq_some_iff.1 hi1).1
      have hs2 := (Array.getElem?_eq_some_iff.1 hi2).1
      have r2 := RS.out wz hb2
      have HB2 := Go.Lib.hid hb2
      have HI1 := Go.Lib.hid hi1
      have HI2 := Go.Lib.hid hi2
      have R2 := Go.Lib.hid r2
      clear hb2 hi1 hi2 r2
      clear hg1 hg2 hx g8 g9 f8 f9
      go_wp2_with fail
      refine R2.out.mono ?_; rintro e wy ⟨rfl, hx⟩
      have hb3 := HB2.out.trans (hx.mono HB2.out.size)
      have hg1 := cell_of_heap ((hx.block _ hs1).trans HI1.out)
      have hg2 := cell_of_heap ((hx.block _ hs2).trans HI2.out)
      have k11 := hg1 11
      have l11 := hg2 11
      simp only [List.getElem?_toArray, List.getElem?_cons_succ, List.getElem?_cons_zero] at k11 l11
      have r3 := RD.out wy hb3
      have HB3 := Go.Lib.hid hb3
      have R3 := Go.Lib.hid r3
      clear hb3 r3
      clear hg1 hg2 hx k10 l10
      go_wp2_with fail
      refine R3.out.mono ?_; rintro e wx ⟨rfl, hx⟩
      have HXX := Go.Lib.hid hx
      clear hx
      go_wp2_with fail
      go_ret
      exact ⟨rfl, HB3.out.trans (HXX.out.mono HB3.out.size)⟩
end Go.Proofs.Ytcamopppeanipaa

