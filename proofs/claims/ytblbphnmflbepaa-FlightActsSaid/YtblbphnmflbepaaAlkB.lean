/- The contracts of freshetalike.Small, and of freshetalike.Message at messages that are alike. -/
import Derived.Test.YtblbphnmflbepaaAlk
import Derived.Test.YtblbphnmflbepaaMsgB
namespace Go.Proofs.Ytblbphnmflbepaa
open Go.RowKit Go.Shelf Go.Sq
set_option linter.unusedVariables false

theorem qn_step {l : List Qn} {k n : Nat} (hn : l.length = n) (h : k < n) : l.take (k + 1) = l.take k ++ [l.getD k q0] ∧ l.getD k q0 ∈ l := by
  subst hn
  constructor
  · rw [List.take_succ_eq_append_getElem h]
    simp [h]
  · rw [List.getD_eq_getElem?_getD, List.getElem?_eq_getElem h]
    simp
def longQ (l : List Qn) : Bool := l.all fun q => decide (q.name.length ≤ 400)
structure MsgOk (m : Msg) : Prop where
  qs : ∀ q ∈ m.qs, q.name.length ≤ maxLen
  an : ∀ r ∈ m.an, RROk r
  sv : ∀ r ∈ m.sv, RROk r
  ad : ∀ r ∈ m.ad, RROk r

set_option maxRecDepth 100000 in
set_option maxHeartbeats 4000000 in
theorem Small_any (m : Msg) (q a s d : Value) (top : Nat) (w : World) (hm : MsgL w m q a s d) (ht : top ≤ 100000) (hok : MsgOk m) :
    Calls Try.prog 26 #[MV m q a s d, .int .i64 top] w fun e w' => e = .returned (.bool (smallB m top)) ∧ Below w.heap.size w w' := by
  obtain ⟨aq, cq, rfl, _, _⟩ := hm.qs.slice
  obtain ⟨aa, ca, rfl, _, _⟩ := hm.an.slice
  obtain ⟨asv, cs, rfl, _, _⟩ := hm.sv.slice
  obtain ⟨ad, cd, rfl, _, _⟩ := hm.ad.slice
  have hx1 := World.alloc_heap_new w (.cells (MC m (.slice aq m.qs.length cq) (.slice aa m.an.length ca) (.slice asv m.sv.length cs) (.slice ad m.ad.length cd)) 40)
  have hbx : Below w.heap.size w (w.alloc (.cells (MC m (.slice aq m.qs.length cq) (.slice aa m.an.length ca) (.slice asv m.sv.length cs) (.slice ad m.ad.length cd)) 40)) := (Below.refl _ w).alloc (Nat.le_refl _) _
  have hlt1 := (Array.getElem?_eq_some_iff.1 hx1).1
  have hq := hm.qs
  have ra := fun (W : World) (h : Below w.heap.size w W) => Records_any m.an aa ca top W (hm.an.below h (Nat.le_refl _)) ht hok.an
  have rs := fun (W : World) (h : Below w.heap.size w W) => Records_any m.sv asv cs top W (hm.sv.below h (Nat.le_refl _)) ht hok.sv
  have rd := fun (W : World) (h : Below w.heap.size w W) => Records_any m.ad ad cd top W (hm.ad.below h (Nat.le_refl _)) ht hok.ad
  have hqn := hok.qs
  have hdef : smallB m top = (decide (m.qs.length ≤ 8) && longQ m.qs && recordsB m.an top && recordsB m.sv top && recordsB m.ad top) := rfl
  clear hm hok
  obtain ⟨mid, mre, mop, mau, mcu, mde, mav, mco, mqs, man, msv, mad, med, msi⟩ := m
  simp only [MC, MV] at hq hx1 hbx hlt1 ra rs rd hqn hdef ⊢
  generalize smallB _ top = res at *
  generalize recordsB man top = b1 at *
  generalize recordsB msv top = b2 at *
  generalize recordsB mad top = b3 at *
  generalize man.length = na at *
  generalize msv.length = ns at *
  generalize mad.length = nd at *
  unfold Qns at hq
  generalize hnq : mqs.length = nq at *
  have HQ := Go.Lib.hid hq
  have HQN := Go.Lib.hid hqn
  have HX1 := Go.Lib.hid hx1
  have HBX := Go.Lib.hid hbx
  have HDEF := Go.Lib.hid hdef
  have HNQ := Go.Lib.hid hnq
  have RA := Go.Lib.hid ra
  have RS := Go.Lib.hid rs
  have RD := Go.Lib.hid rd
  clear hq hqn hx1 hbx hdef hnq ra rs rd
  by_cases h8 : 8 < nq
  · have hres : Hid (res = false) := Go.Lib.hid (by rw [HDEF.out, decide_eq_false (by omega)]; simp)
    have e8 : (8 : Int) < (nq : Int) := by omega
    go_enter Try.func26, Try.ntmps26
    go_wp2_with fail
    go_ret
    exact ⟨ret_bool hres.out.symm, HBX.out⟩
  · have e8 : ¬ (8 : Int) < (nq : Int) := by omega
    have h8' : nq ≤ 8 := by omega
    clear h8
    go_enter Try.func26, Try.ntmps26
    go_wp2_with fail
    generalize w.alloc (.cells #[.int .i64 mid, .bool mre, .int .i64 mop, .bool mau, .bool mcu, .bool mde, .bool mav, .int .i64 mco, .slice aq nq cq, .slice aa na ca, .slice asv ns cs, .slice ad nd cd, .bool med, .int .i64 msi] 40) = W at *
    go_loopw [5] (fun i wr => ∃ k : Nat, i = .int .i64 k ∧ k ≤ nq ∧ longQ (mqs.take k) = true ∧ Below W.heap.size W wr) (fun i _ => nq - (intOf i).toNat)
    case atStart => exact ⟨0, rfl, by omega, rfl, Below.refl _ _⟩
    case round =>
      obtain ⟨k, rfl, hk, hall, hbr⟩ := hrel
      have hh := (hbr.block _ hlt1).trans HX1.out
      have hg := cell_of_heap hh
      have g8 := hg 8
      have g9 := hg 9
      have g10 := hg 10
      have g11 := hg 11
      simp only [List.getElem?_toArray, List.getElem?_cons_succ, List.getElem?_cons_zero] at g8 g9 g10 g11
      have hbb := HBX.out.trans (hbr.mono HBX.out.size)
      have HALL := Go.Lib.hid hall
      have HB := Go.Lib.hid hbr
      have HH := Go.Lib.hid hh
      have HBB := Go.Lib.hid hbb
      clear hall hbr hh hbb
      clear hg
      by_cases hlt : k < nq
      · have hst := HQ.out.below HBB.out (Nat.le_refl _)
        have hst2 : Qns wr (.slice aq nq cq) mqs := by unfold Qns; rw [HNQ.out]; exact hst
        obtain ⟨b, off, rfl, hbw, hcell⟩ := Qns.at hst2 (by rw [HNQ.out]; omega)
        obtain ⟨c0, _, _⟩ := hcell k (by rw [HNQ.out]; exact hlt)
        obtain ⟨hstep, hmem⟩ := qn_step HNQ.out hlt
        have hxs := HQN.out _ hmem
        have hlong : Hid (400 < (mqs.getD k q0).name.length → longQ mqs = false) := Go.Lib.hid (fun h => by
          unfold longQ
          rw [List.all_eq_false]
          exact ⟨_, hmem, by simpa using h⟩)
        have hsn : Hid ((mqs.getD k q0).name.length ≤ 400 → longQ (mqs.take (k + 1)) = true) := Go.Lib.hid (fun h => by
          rw [hstep]
          unfold longQ at *
          rw [List.all_append, HALL.out]
          simpa using h)
        clear hst hst2 hcell hstep hmem
        generalize mqs.getD k q0 = x at *
        obtain ⟨xn, xt, xc⟩ := x
        unfold maxLen at hxs
        simp only at c0 hxs
        have s1 : (mk xn).size = xn.length := size_mk xn
        by_cases hx : 400 < xn.length
        · have q1 : (400 : Int) < (xn.length : Int) := by omega
          have hres : Hid (res = false) := Go.Lib.hid (by rw [HDEF.out, hlong.out hx]; simp)
          clear hx hlong hsn
          go_wp2_with fail
          go_ret
          exact ⟨ret_bool hres.out.symm, HBB.out⟩
        · have q1 : ¬ (400 : Int) < (xn.length : Int) := by omega
          have hnx := Go.Lib.hid (hsn.out (by simpa using hx))
          clear hx hlong hsn
          go_wp2_with fail
          go_roundw
          case rel => exact ⟨k + 1, by go_num, by omega, hnx.out, HB.out⟩
          case measure => simp [intOf]; omega
      · obtain rfl : k = nq := by omega
        have hl : longQ mqs = true := by
          have := HALL.out
          rw [List.take_of_length_le (by rw [HNQ.out]; exact Nat.le_refl _)] at this
          exact this
        have hres : Hid (res = (b1 && b2 && b3)) := Go.Lib.hid (by rw [HDEF.out, hl, decide_eq_true h8']; simp)
        have r1 := RA.out wr HBB.out
        have R1 := Go.Lib.hid r1
        clear r1
        clear hl
        have hltr : w.heap.size < wr.heap.size := Nat.lt_of_lt_of_le hlt1 HB.out.size
        cases b1 with
        | false =>
          have hr2 : Hid (res = false) := Go.Lib.hid (by rw [hres.out]; rfl)
          go_wp2_with fail
          refine R1.out.mono ?_; rintro e wz ⟨rfl, hx⟩
          have HXX := Go.Lib.hid hx
          clear hx
          go_wp2_with fail
          go_ret
          exact ⟨ret_bool hr2.out.symm, HBB.out.trans (HXX.out.mono HBB.out.size)⟩
        | true =>
          go_wp2_with fail
          refine R1.out.mono ?_; rintro e wz ⟨rfl, hx⟩
          have hb2 := HBB.out.trans (hx.mono HBB.out.size)
          have hh2 := (hx.block _ hltr).trans HH.out
          have hg := cell_of_heap hh2
          have k10 := hg 10
          have k11 := hg 11
          simp only [List.getElem?_toArray, List.getElem?_cons_succ, List.getElem?_cons_zero] at k10 k11
          have r2 := RS.out wz hb2
          have hltz : w.heap.size < wz.heap.size := Nat.lt_of_lt_of_le hltr hx.size
          have HB2 := Go.Lib.hid hb2
          have HH2 := Go.Lib.hid hh2
          have R2 := Go.Lib.hid r2
          clear hb2 hh2 r2
          clear hg hx g8 g9 g10 g11
          cases b2 with
          | false =>
            have hr2 : Hid (res = false) := Go.Lib.hid (by rw [hres.out]; rfl)
            go_wp2_with fail
            refine R2.out.mono ?_; rintro e wy ⟨rfl, hx⟩
            have HXX := Go.Lib.hid hx
            clear hx
            go_wp2_with fail
            go_ret
            exact ⟨ret_bool hr2.out.symm, HB2.out.trans (HXX.out.mono HB2.out.size)⟩
          | true =>
            have hr2 : Hid (res = b3) := Go.Lib.hid (by rw [hres.out]; rfl)
            go_wp2_with fail
            refine R2.out.mono ?_; rintro e wy ⟨rfl, hx⟩
            have hb3 := HB2.out.trans (hx.mono HB2.out.size)
            have hh3 := (hx.block _ hltz).trans HH2.out
            have hg := cell_of_heap hh3
            have j11 := hg 11
            simp only [List.getElem?_toArray, List.getElem?_cons_succ, List.getElem?_cons_zero] at j11
            have r3 := RD.out wy hb3
            have HB3 := Go.Lib.hid hb3
            have HH3 := Go.Lib.hid hh3
            have R3 := Go.Lib.hid r3
            clear hb3 hh3 r3
            clear hg hx k10 k11
            go_wp2_with fail
            refine R3.out.mono ?_; rintro e wx ⟨rfl, hx⟩
            have HXX := Go.Lib.hid hx
            clear hx
            go_wp2_with fail
            go_ret
            exact ⟨ret_bool hr2.out.symm, HB3.out.trans (HXX.out.mono HB3.out.size)⟩

end Go.Proofs.Ytblbphnmflbepaa

