/- Merged texts of the seat, in their order: MsgB, TrP, TrQ, TrR, TrT, TrS, TrF. -/
import Derived.Test.YtkpcmnckdappnaaGreatG3
import Derived.Test.YtkpcmnckdappnaaGreatG4
import Derived.Test.YtkpcmnckdappnaaGreatG5
import Derived.Test.YtkpcmnckdappnaaGreatG6
import Derived.Deep.WholeRow
import Derived.Shelf.SlSortCmp.NoneTotal
/- The contracts of match.Reply, Refuse, and of the reference's. Condition: no list has more than 1000000 records. -/
namespace Go.Proofs.YtkpcmnckdappnaaGreat
open Go.RowKit Go.Shelf Go.Sq
set_option linter.unusedVariables false

def replyN (m : Msg) (code : Int) (an sv : List Rc.RR) : Msg := ⟨m.id, true, m.op, false, false, m.des, true, code, m.qs, an, sv, [], m.edns, if m.edns then 1232 else 0⟩

/-- what the effects of Reply's region leave -/
def FRep (iq ia is ip : Nat) (B : Nat) (m : Msg) (an sv : List Rc.RR) (i : Nat) (v : Value) (w : World) : Prop :=
  (i = iq → SlT w 29 3 v m.qs.length (encQn m.qs)) ∧ (i = ia → SlT w 43 5 v an.length (encR an)) ∧ (i = is → SlT w 43 5 v sv.length (encR sv)) ∧ (i = ip → ∃ kb, v = .pointer (some ⟨kb, 0, none⟩) ∧ B ≤ kb ∧ w.heap[kb]? = some (.cells (MC ⟨0, false, 0, false, false, false, false, 0, [], [], [], [], false, 0⟩ (.slice none 0 0) (.slice none 0 0) (.slice none 0 0) (.slice none 0 0)) 34 (0, 0)))
def SRep (iq ia is ip : Nat) (i : Nat) (v : Value) : Prop := (i = iq ∨ i = ia ∨ i = is → ∃ a n c, v = .slice a n c) ∧ (i = ip → ∃ kb, v = .pointer (some ⟨kb, 0, none⟩))
theorem FRep.stable {iq ia is ip B : Nat} {m : Msg} {an sv : List Rc.RR} {i : Nat} {v : Value} {w w' : World} (h : FRep iq ia is ip B m an sv i v w) (hg : GB w w') : FRep iq ia is ip B m an sv i v w' := by
  obtain ⟨h1, h2, h3, h4⟩ := h
  refine ⟨fun e => (h1 e).below hg, fun e => (h2 e).below hg, fun e => (h3 e).below hg, fun e => ?_⟩
  obtain ⟨kb, k1, k2, k3⟩ := h4 e
  exact ⟨kb, k1, k2, hg.heap k3⟩
theorem SRep.inh (iq ia is ip : Nat) (h1 : ip ≠ iq) (h2 : ip ≠ ia) (h3 : ip ≠ is) (i : Nat) : ∃ v, SRep iq ia is ip i v := by
  by_cases h : i = ip
  · exact ⟨.pointer (some ⟨0, 0, none⟩), fun e => by omega, fun _ => ⟨0, rfl⟩⟩
  · exact ⟨.slice none 0 0, fun _ => ⟨_, _, _, rfl⟩, fun e => absurd e h⟩

set_option maxRecDepth 100000 in
set_option maxHeartbeats 4000000 in
theorem Reply_any (m : Msg) (q a s d : Value) (code : Int) (v2 v3 : Value) (an sv : List Rc.RR) (w : World) (hm : MsgL w m q a s d) (h2 : RRs w v2 an) (h3 : RRs w v3 sv)
    (l1 : m.qs.length ≤ 1000000) (l2 : an.length ≤ 1000000) (l3 : sv.length ≤ 1000000) :
    Calls Tryz.prog 67 #[MV m q a s d, .int .i64 code, v2, v3] w (RetM w (replyN m code an sv)) := by
  obtain ⟨aq, cq, rfl, _, _⟩ := hm.qs.slice
  obtain ⟨aa, ca, rfl, _, _⟩ := hm.an.slice
  obtain ⟨asv, cs, rfl, _, _⟩ := hm.sv.slice
  obtain ⟨ad, cd, rfl, _, _⟩ := hm.ad.slice
  obtain ⟨a2, c2, rfl, _, _⟩ := h2.slice
  obtain ⟨a3, c3, rfl, _, _⟩ := h3.slice
  have hq := hm.qs
  have hx := two_boxes w (MC m (.slice aq m.qs.length cq) (.slice aa m.an.length ca) (.slice asv m.sv.length cs) (.slice ad m.ad.length cd)) (MC ⟨0, false, 0, false, false, false, false, 0, [], [], [], [], false, 0⟩ (.slice none 0 0) (.slice none 0 0) (.slice none 0 0) (.slice none 0 0)) 34
  obtain ⟨hx1, hx2⟩ := hx
  have hbx : Below w.heap.size w ((w.alloc (.cells (MC m (.slice aq m.qs.length cq) (.slice aa m.an.length ca) (.slice asv m.sv.length cs) (.slice ad m.ad.length cd)) 34)).alloc (.cells (MC ⟨0, false, 0, false, false, false, false, 0, [], [], [], [], false, 0⟩ (.slice none 0 0) (.slice none 0 0) (.slice none 0 0) (.slice none 0 0)) 34)) := ((Below.refl _ w).alloc (Nat.le_refl _) _).alloc (by simp) _
  have hsz : ((w.alloc (.cells (MC m (.slice aq m.qs.length cq) (.slice aa m.an.length ca) (.slice asv m.sv.length cs) (.slice ad m.ad.length cd)) 34)).alloc (.cells (MC ⟨0, false, 0, false, false, false, false, 0, [], [], [], [], false, 0⟩ (.slice none 0 0) (.slice none 0 0) (.slice none 0 0) (.slice none 0 0)) 34)).heap.size = w.heap.size + 2 := by simp
  clear hm
  have hcq := fun (W : World) (h : Below w.heap.size w W) => cloneQ_any aq cq m.qs W (hq.below h (Nat.le_refl _)) l1
  have hca := fun (W : World) (h : Below w.heap.size w W) => cloneR_any a2 c2 an W (h2.below h (Nat.le_refl _)) l2
  have hcs := fun (W : World) (h : Below w.heap.size w W) => cloneR_any a3 c3 sv W (h3.below h (Nat.le_refl _)) l3
  have hrep : replyN m code an sv = ⟨m.id, true, m.op, false, false, m.des, true, code, m.qs, an, sv, [], m.edns, if m.edns then 1232 else 0⟩ := rfl
  obtain ⟨mid, mre, mop, mau, mcu, mde, mav, mco, mqs, man, msv, mad, med, msi⟩ := m
  simp only [MC, MV] at hcq hca hcs hrep hx1 hx2 hbx hsz ⊢
  generalize replyN ⟨mid, mre, mop, mau, mcu, mde, mav, mco, mqs, man, msv, mad, med, msi⟩ code an sv = res at *
  generalize hnq : mqs.length = nq at hcq hx1 hx2 hbx hsz l1 ⊢
  generalize man.length = na at *
  generalize msv.length = ns at *
  generalize mad.length = nd at *
  generalize hn2 : an.length = n2 at hca l2 ⊢
  generalize hn3 : sv.length = n3 at hcs l3 ⊢
  have HNQ := Go.Lib.hid hnq
  have HN2 := Go.Lib.hid hn2
  have HN3 := Go.Lib.hid hn3
  clear hnq hn2 hn3
  have HCQ := Go.Lib.hid hcq
  have HCA := Go.Lib.hid hca
  have HCS := Go.Lib.hid hcs
  have HREP := Go.Lib.hid hrep
  have HX1 := Go.Lib.hid hx1
  have HX2 := Go.Lib.hid hx2
  have HBX := Go.Lib.hid hbx
  clear hcq hca hcs hrep hx1 hx2 hbx
  clear hq h2 h3
  go_enter Tryz.func67, Tryz.ntmps67
  go_wp2_with fail
  generalize hW : (w.alloc (.cells #[.int .i64 mid, .bool mre, .int .i64 mop, .bool mau, .bool mcu, .bool mde, .bool mav, .int .i64 mco, .slice aq nq cq, .slice aa na ca, .slice asv ns cs, .slice ad nd cd, .bool med, .int .i64 msi] 34)).alloc (.cells #[.int .i64 0, .bool false, .int .i64 0, .bool false, .bool false, .bool false, .bool false, .int .i64 0, .slice none 0 0, .slice none 0 0, .slice none 0 0, .slice none 0 0, .bool false, .int .i64 0] 34) = W at *
  have hg := cell_of_heap HX1.out
  have b0 : w.heap.size < W.heap.size := by omega
  have d0 := GB.cell (W := W) (hg 0) b0
  have d2 := GB.cell (W := W) (hg 2) b0
  have d5 := GB.cell (W := W) (hg 5) b0
  have d8 := GB.cell (W := W) (hg 8) b0
  have d12 := GB.cell (W := W) (hg 12) b0
  have hne : Nonempty (Subtype (GB W.drew)) := ⟨⟨W.drew, GB.refl _⟩⟩
  clear hg hW
  refine Go.Mix.wp_region_mixR [9, 11, 13, 17] 18 GB (FRep 9 11 13 17 W.heap.size ⟨mid, mre, mop, mau, mcu, mde, mav, mco, mqs, man, msv, mad, med, msi⟩ an sv) (SRep 9 11 13 17) mixed (by kernel_rfl) GB.trans GB.refl (fun i v w w' h hg => h.stable hg) (SRep.inh _ _ _ _ (by decide) (by decide) (by decide)) ?_
  iterate 9 (refine Go.Mix.mixR_step rfl (fun K hK => ?_); have HKK := Go.Lib.hid hK; clear hK; go_simp; refine HKK.out _ ?_; clear HKK K)
  refine Go.Mix.mixR_eff rfl rfl (fun w7 hw7 => ?_) (fun v9 hv9 => ?_)
  · go_simp
    show Calls _ _ _ _ _
    refine (HCQ.out w7 (HBX.out.trans ((Below.trans (Below.drew (Below.refl _ W)) hw7).mono HBX.out.size))).mono ?_; rintro e w8 ⟨a', c', rfl, h1, h2⟩
    exact ⟨h2, ⟨fun _ => ⟨_, _, _, rfl⟩, (fun h => by cases h)⟩, fun _ => (by show SlT _ _ 3 _ mqs.length _; rw [HNQ.out]; exact h1), (fun h => by cases h), (fun h => by cases h), (fun h => by cases h)⟩
  obtain ⟨x9, n9, c9, rfl⟩ := hv9.1 (.inl rfl)
  clear hv9
  iterate 1 (refine Go.Mix.mixR_step rfl (fun K hK => ?_); have HKK := Go.Lib.hid hK; clear hK; go_simp; refine HKK.out _ ?_; clear HKK K)
  refine Go.Mix.mixR_eff rfl rfl (fun w7 hw7 => ?_) (fun v11 hv11 => ?_)
  · go_simp
    show Calls _ _ _ _ _
    refine (HCA.out w7 (HBX.out.trans ((Below.trans (Below.drew (Below.refl _ W)) hw7).mono HBX.out.size))).mono ?_; rintro e w8 ⟨a', c', rfl, h1, h2⟩
    exact ⟨h2, ⟨fun _ => ⟨_, _, _, rfl⟩, (fun h => by cases h)⟩, (fun h => by cases h), fun _ => (by rw [HN2.out]; exact h1), (fun h => by cases h), (fun h => by cases h)⟩
  obtain ⟨x11, n11, c11, rfl⟩ := hv11.1 (.inr (.inl rfl))
  clear hv11
  iterate 1 (refine Go.Mix.mixR_step rfl (fun K hK => ?_); have HKK := Go.Lib.hid hK; clear hK; go_simp; refine HKK.out _ ?_; clear HKK K)
  refine Go.Mix.mixR_eff rfl rfl (fun w7 hw7 => ?_) (fun v13 hv13 => ?_)
  · go_simp
    show Calls _ _ _ _ _
    refine (HCS.out w7 (HBX.out.trans ((Below.trans (Below.drew (Below.refl _ W)) hw7).mono HBX.out.size))).mono ?_; rintro e w8 ⟨a', c', rfl, h1, h2⟩
    exact ⟨h2, ⟨fun _ => ⟨_, _, _, rfl⟩, (fun h => by cases h)⟩, (fun h => by cases h), (fun h => by cases h), fun _ => (by rw [HN3.out]; exact h1), (fun h => by cases h)⟩
  obtain ⟨x13, n13, c13, rfl⟩ := hv13.1 (.inr (.inr rfl))
  clear hv13
  iterate 3 (refine Go.Mix.mixR_step rfl (fun K hK => ?_); have HKK := Go.Lib.hid hK; clear hK; go_simp; refine HKK.out _ ?_; clear HKK K)
  refine Go.Mix.mixR_eff rfl rfl (fun w7 hw7 => ?_) (fun v17 hv17 => ?_)
  · go_simp
    exact ⟨(Below.refl _ _).alloc (Nat.le_refl _) _, ⟨(fun h => by omega), fun _ => ⟨_, rfl⟩⟩, (fun h => by cases h), (fun h => by cases h), (fun h => by cases h), fun _ => ⟨w7.heap.size, rfl, (by have h7 : W.drew.heap.size ≤ w7.heap.size := GB.size hw7; have h8 : W.drew.heap.size = W.heap.size := rfl; omega), World.alloc_heap_new _ _⟩⟩
  obtain ⟨kb, rfl⟩ := hv17.2 rfl
  clear hv17
  refine Go.Mix.mixR_last rfl (fun w9 hg9 hΦ K hK => ?_)
  obtain ⟨⟨⟨⟨_, f9⟩, f11⟩, f13⟩, f17⟩ := hΦ
  have g9 := f9.1 rfl
  have g11 := f11.2.1 rfl
  have g13 := f13.2.2.1 rfl
  obtain ⟨kb', hk1, hk2, hk3⟩ := f17.2.2.2 rfl
  simp only [Value.pointer.injEq, Option.some.injEq, Addr.mk.injEq, and_true] at hk1
  subst hk1
  rw [if_pos (show Region.wanted _ _ = true from rfl)]
  refine wp_store_row 34 (.tmp 9) (.tmp 26) rfl kb _ rfl rfl _ _ hk3 infoMsg rfl (by simp [Value.oneCell']) ?_
  have hgw : GB W w9 := Below.trans (Below.drew (Below.refl _ W)) hg9
  have o1 := hgw.heap HX1.out
  have o2 := hgw.heap HX2.out
  have k1 : w.heap.size ≠ kb := by omega
  have k2 : w.heap.size + 1 ≠ kb := by omega
  have hbw : Below w.heap.size w w9 := HBX.out.trans (hgw.mono HBX.out.size)
  refine hK _ _ ?_
  clear hK K
  have e1 := setRow_heap w9 kb _ #[.int .i64 mid, .bool true, .int .i64 mop, .bool false, .bool false, .bool mde, .bool true, .int .i64 code, .slice x9 n9 c9, .slice x11 n11 c11, .slice x13 n13 c13, .slice none 0 0, .bool med, .int .i64 0] _ _ hk3
  have e2 := (setRow_other w9 kb w.heap.size #[.int .i64 mid, .bool true, .int .i64 mop, .bool false, .bool false, .bool mde, .bool true, .int .i64 code, .slice x9 n9 c9, .slice x11 n11 c11, .slice x13 n13 c13, .slice none 0 0, .bool med, .int .i64 0] k1).trans o1
  have e3 := (setRow_other w9 kb (w.heap.size + 1) #[.int .i64 mid, .bool true, .int .i64 mop, .bool false, .bool false, .bool mde, .bool true, .int .i64 code, .slice x9 n9 c9, .slice x11 n11 c11, .slice x13 n13 c13, .slice none 0 0, .bool med, .int .i64 0] k2).trans o2
  have g9' := g9.setRow (new := #[.int .i64 mid, .bool true, .int .i64 mop, .bool false, .bool false, .bool mde, .bool true, .int .i64 code, .slice x9 n9 c9, .slice x11 n11 c11, .slice x13 n13 c13, .slice none 0 0, .bool med, .int .i64 0]) hk3 (by decide)
  have g11' := g11.setRow (new := #[.int .i64 mid, .bool true, .int .i64 mop, .bool false, .bool false, .bool mde, .bool true, .int .i64 code, .slice x9 n9 c9, .slice x11 n11 c11, .slice x13 n13 c13, .slice none 0 0, .bool med, .int .i64 0]) hk3 (by decide)
  have g13' := g13.setRow (new := #[.int .i64 mid, .bool true, .int .i64 mop, .bool false, .bool false, .bool mde, .bool true, .int .i64 code, .slice x9 n9 c9, .slice x11 n11 c11, .slice x13 n13 c13, .slice none 0 0, .bool med, .int .i64 0]) hk3 (by decide)
  have hbX := below_setRow hbw (show w.heap.size ≤ kb by omega) #[.int .i64 mid, .bool true, .int .i64 mop, .bool false, .bool false, .bool mde, .bool true, .int .i64 code, .slice x9 n9 c9, .slice x11 n11 c11, .slice x13 n13 c13, .slice none 0 0, .bool med, .int .i64 0]
  clear f9 f11 f13 f17 g9 g11 g13 o1 o2 hg9 hgw hbw hk3 d0 d2 d5 d8 d12 hne
  generalize w9.setRow kb #[.int .i64 mid, .bool true, .int .i64 mop, .bool false, .bool false, .bool mde, .bool true, .int .i64 code, .slice x9 n9 c9, .slice x11 n11 c11, .slice x13 n13 c13, .slice none 0 0, .bool med, .int .i64 0] = X at *
  have hc2 := cell_of_heap e2 12
  have hc1 := cell_of_heap e1 13
  have hf1 := frozen_of_row X kb 13 _ _ e1
  simp only [List.getElem?_toArray, List.getElem?_cons_succ, List.getElem?_cons_zero] at hc2 hc1
  obtain ⟨fs, hu⟩ := undMsg
  have G9 := Go.Lib.hid g9'
  have G11 := Go.Lib.hid g11'
  have G13 := Go.Lib.hid g13'
  have HBX2 := Go.Lib.hid hbX
  have HU := Go.Lib.hid hu
  clear g9' g11' g13' hbX hu
  cases med with
  | true =>
    have E1 : (X.setCell ⟨kb, 13, none⟩ (.int .i64 1232)).heap[kb]? = some (.cells #[.int .i64 mid, .bool true, .int .i64 mop, .bool false, .bool false, .bool mde, .bool true, .int .i64 code, .slice x9 n9 c9, .slice x11 n11 c11, .slice x13 n13 c13, .slice none 0 0, .bool true, .int .i64 1232] 34 (0, 0)) := heap_setCell_same X kb 13 _ _ (.int .i64 1232) e1
    have E3 := (heap_setCell_other X ⟨kb, 13, none⟩ (w.heap.size + 1) (.int .i64 1232) k2).trans e3
    have F9 := G9.out.setCell (i := 13) (u := .int .i64 1232) e1 (by decide)
    have F11 := G11.out.setCell (i := 13) (u := .int .i64 1232) e1 (by decide)
    have F13 := G13.out.setCell (i := 13) (u := .int .i64 1232) e1 (by decide)
    have HB3 := HBX2.out.setCell (p := ⟨kb, 13, none⟩) (show w.heap.size ≤ kb by omega) (.int .i64 1232)
    have HF9 := Go.Lib.hid F9
    have HF11 := Go.Lib.hid F11
    have HF13 := Go.Lib.hid F13
    have HBX3 := Go.Lib.hid HB3
    have HE1 := Go.Lib.hid E1
    have HE3 := Go.Lib.hid E3
    have He1 := Go.Lib.hid e1
    have He2 := Go.Lib.hid e2
    have He3 := Go.Lib.hid e3
    clear F9 F11 F13 HB3 E1 E3 e1 e2 e3
    have hone : (#[.int .i64 mid, .bool true, .int .i64 mop, .bool false, .bool false, .bool mde, .bool true, .int .i64 code, .slice x9 n9 c9, .slice x11 n11 c11, .slice x13 n13 c13, .slice none 0 0, .bool true, .int .i64 1232] : Array Value).all (·.oneCell') = true := by simp [Value.oneCell']
    go_wp2_with (first | (refine wpList_load_row rfl 34 (.tmp 9) rfl kb rfl _ _ (0, 0) _ HE1.out HU.out rfl infoMsg ?_) | (refine wpList_store_row rfl 34 (.tmp 8) (.tmp 30) rfl (w.heap.size + 1) #[.int .i64 mid, .bool true, .int .i64 mop, .bool false, .bool false, .bool mde, .bool true, .int .i64 code, .slice x9 n9 c9, .slice x11 n11 c11, .slice x13 n13 c13, .slice none 0 0, .bool true, .int .i64 1232] rfl rfl _ _ HE3.out infoMsg rfl hone ?_))
    refine ret_msg (m := ⟨mid, true, mop, false, false, mde, true, code, mqs, an, sv, [], true, 1232⟩) rfl rfl rfl (setRow_heap _ _ _ _ _ _ HE3.out) ?_
    rw [HREP.out]
    exact ⟨_, _, _, _, rfl, ⟨(HF9.out.setRow HE3.out (by decide)), (HF11.out.setRow HE3.out (by decide)), (HF13.out.setRow HE3.out (by decide)), SlT.nil _ _ _⟩, below_setRow HBX3.out (by omega) _⟩
  | false =>
    have He1 := Go.Lib.hid e1
    have He2 := Go.Lib.hid e2
    have He3 := Go.Lib.hid e3
    clear e1 e2 e3
    have hone : (#[.int .i64 mid, .bool true, .int .i64 mop, .bool false, .bool false, .bool mde, .bool true, .int .i64 code, .slice x9 n9 c9, .slice x11 n11 c11, .slice x13 n13 c13, .slice none 0 0, .bool false, .int .i64 0] : Array Value).all (·.oneCell') = true := by simp [Value.oneCell']
    go_wp2_with (first | (refine wpList_load_row rfl 34 (.tmp 9) rfl kb rfl _ _ (0, 0) _ He1.out HU.out rfl infoMsg ?_) | (refine wpList_store_row rfl 34 (.tmp 8) (.tmp 30) rfl (w.heap.size + 1) #[.int .i64 mid, .bool true, .int .i64 mop, .bool false, .bool false, .bool mde, .bool true, .int .i64 code, .slice x9 n9 c9, .slice x11 n11 c11, .slice x13 n13 c13, .slice none 0 0, .bool false, .int .i64 0] rfl rfl _ _ He3.out infoMsg rfl hone ?_))
    refine ret_msg (m := ⟨mid, true, mop, false, false, mde, true, code, mqs, an, sv, [], false, 0⟩) rfl rfl rfl (setRow_heap _ _ _ _ _ _ He3.out) ?_
    rw [HREP.out]
    exact ⟨_, _, _, _, rfl, ⟨(G9.out.setRow He3.out (by decide)), (G11.out.setRow He3.out (by decide)), (G13.out.setRow He3.out (by decide)), SlT.nil _ _ _⟩, below_setRow HBX2.out (by omega) _⟩

/-! ### Refuse -/
set_option maxRecDepth 100000 in
set_option maxHeartbeats 4000000 in
theorem Refuse_any (m : Msg) (q a s d : Value) (code : Int) (w : World) (hm : MsgL w m q a s d) (l1 : m.qs.length ≤ 1000000) :
    Calls Tryz.prog 33 #[MV m q a s d, .int .i64 code] w (RetM w (replyN m code [] [])) := by
  have hx := two_boxes w (MC m q a s d) (MC ⟨0, false, 0, false, false, false, false, 0, [], [], [], [], false, 0⟩ (.slice none 0 0) (.slice none 0 0) (.slice none 0 0) (.slice none 0 0)) 34
  obtain ⟨hx1, hx2⟩ := hx
  have hbx : Below w.heap.size w ((w.alloc (.cells (MC m q a s d) 34)).alloc (.cells (MC ⟨0, false, 0, false, false, false, false, 0, [], [], [], [], false, 0⟩ (.slice none 0 0) (.slice none 0 0) (.slice none 0 0) (.slice none 0 0)) 34)) := ((Below.refl _ w).alloc (Nat.le_refl _) _).alloc (by simp) _
  have hrep := Reply_any m q a s d code (.slice none 0 0) (.slice none 0 0) [] [] ((w.alloc (.cells (MC m q a s d) 34)).alloc (.cells (MC ⟨0, false, 0, false, false, false, false, 0, [], [], [], [], false, 0⟩ (.slice none 0 0) (.slice none 0 0) (.slice none 0 0) (.slice none 0 0)) 34)) (hm.below hbx (Nat.le_refl _)) (SlC.nil _ _) (SlC.nil _ _) l1 (by simp) (by simp)
  have hlt2 := (Array.getElem?_eq_some_iff.1 hx2).1
  obtain ⟨aq, cq, rfl, _, _⟩ := hm.qs.slice
  obtain ⟨aa, ca, rfl, _, _⟩ := hm.an.slice
  obtain ⟨asv, cs, rfl, _, _⟩ := hm.sv.slice
  obtain ⟨ad, cd, rfl, _, _⟩ := hm.ad.slice
  obtain ⟨fs, hu⟩ := undMsg
  clear hm
  obtain ⟨mid, mre, mop, mau, mcu, mde, mav, mco, mqs, man, msv, mad, med, msi⟩ := m
  simp only [MC, MV] at hrep hx1 hx2 hbx hlt2 ⊢
  generalize replyN ⟨mid, mre, mop, mau, mcu, mde, mav, mco, mqs, man, msv, mad, med, msi⟩ code [] [] = res at *
  generalize mqs.length = nq at *
  generalize man.length = na at *
  generalize msv.length = ns at *
  generalize mad.length = nd at *
  have HREP := Go.Lib.hid hrep
  have HX1 := Go.Lib.hid hx1
  have HX2 := Go.Lib.hid hx2
  have HBX := Go.Lib.hid hbx
  have HU := Go.Lib.hid hu
  clear hrep hx1 hx2 hbx hu
  go_enter Tryz.func33, Tryz.ntmps33
  go_wp2_with (refine wpList_load_row rfl 34 (.tmp 2) rfl w.heap.size rfl _ _ (0, 0) _ HX1.out HU.out rfl infoMsg ?_)
  refine HREP.out.mono ?_; rintro e wb ⟨q', a', s', d', rfl, hm', hb'⟩
  obtain ⟨aq', cq', rfl, _, _⟩ := hm'.qs.1.slice
  obtain ⟨aa', ca', rfl, _, _⟩ := hm'.an.1.slice
  obtain ⟨as', cs', rfl, _, _⟩ := hm'.sv.1.slice
  obtain ⟨ad', cd', rfl, _, _⟩ := hm'.ad.1.slice
  have h2 := (hb'.block _ hlt2).trans HX2.out
  have hone : (MC res (.slice aq' res.qs.length cq') (.slice aa' res.an.length ca') (.slice as' res.sv.length cs') (.slice ad' res.ad.length cd')).all (·.oneCell') = true := by simp [Value.oneCell']
  have hbb := HBX.out.trans (hb'.mono HBX.out.size)
  have HM := Go.Lib.hid hm'
  have HB := Go.Lib.hid hb'
  have H2 := Go.Lib.hid h2
  have HONE := Go.Lib.hid hone
  have HBB := Go.Lib.hid hbb
  clear hm' hb' h2 hone hbb
  go_wp2_with (refine wpList_store_row rfl 34 (.tmp 4) (.tmp 7) rfl (w.heap.size + 1) _ rfl rfl _ _ H2.out infoMsg rfl HONE.out ?_)
  refine ret_msg rfl rfl rfl (setRow_heap _ _ _ _ _ _ H2.out) ?_
  exact ⟨_, _, _, _, rfl, HM.out.setRow H2.out, below_setRow HBB.out (by omega) _⟩

/-! ### the reference's -/
theorem effR_app0 {P : Program} {t e sz bytes : Nat} (ei : EI P t e sz bytes) {w : World} {o : Oper} {a : Act} {R : Value → World → Prop} (s x : Operand)
    (ho : o.op = .call { callee := .builtin .append, args := #[s, x], argTypes := #[t, t] }) (g : Nat) {src : Value} {m : Nat} {news : List Value} (hs : a.eval s = .slice (some ⟨g, 0, none⟩) 0 0) (hx : a.eval x = src)
    (hsrc : SlC w sz src m news) (h1 : ∀ u ∈ news, u.oneCell' = true) (h63 : m ≤ maxLen) (hbytes : m * bytes ≤ 140737488355328)
    (h : ∀ a' c' w', SlT w' e sz (.slice a' m c') m news → Below w.heap.size w w' → R (.slice a' m c') w') : Go.Mix.EffR P R ((execOp a.eval o).run P w) := by
  obtain ⟨v', w', hr, ⟨a', c', rfl⟩, h2, h3⟩ := run_app0 ei w o.type g hsrc h1 h63 hbytes
  unfold execOp
  simp only [ho, resolve, invoke, builtin, Sem.run_bind, Sem.run_pure, Result.andThen_ok, List.map_toArray, List.map_cons, List.map_nil, hs, hx, hr]
  exact h a' c' w' h2 h3
def FRef (B : Nat) (m : Msg) (i : Nat) (v : Value) (w : World) : Prop :=
  (i = 10 → SlT w 29 3 v m.qs.length (encQn m.qs)) ∧ (i = 14 → ∃ kb, v = .pointer (some ⟨kb, 0, none⟩) ∧ B ≤ kb ∧ w.heap[kb]? = some (.cells (MC ⟨0, false, 0, false, false, false, false, 0, [], [], [], [], false, 0⟩ (.slice none 0 0) (.slice none 0 0) (.slice none 0 0) (.slice none 0 0)) 34 (0, 0)))
def SRef (i : Nat) (v : Value) : Prop := (i = 7 → ∃ g, v = .slice (some ⟨g, 0, none⟩) 0 0) ∧ (i = 10 → ∃ a n c, v = .slice a n c) ∧ (i = 14 → ∃ kb, v = .pointer (some ⟨kb, 0, none⟩))
theorem FRef.stable {B : Nat} {m : Msg} {i : Nat} {v : Value} {w w' : World} (h : FRef B m i v w) (hg : GB w w') : FRef B m i v w' := by
  obtain ⟨h1, h4⟩ := h
  refine ⟨fun e => (h1 e).below hg, fun e => ?_⟩
  obtain ⟨kb, k1, k2, k3⟩ := h4 e
  exact ⟨kb, k1, k2, hg.heap k3⟩
theorem SRef.inh (i : Nat) : ∃ v, SRef i v := by
  by_cases h : i = 14
  · exact ⟨.pointer (some ⟨0, 0, none⟩), fun e => by omega, fun e => by omega, fun _ => ⟨0, rfl⟩⟩
  · exact ⟨.slice (some ⟨0, 0, none⟩) 0 0, fun _ => ⟨0, rfl⟩, fun _ => ⟨_, _, _, rfl⟩, fun e => absurd e h⟩


end Go.Proofs.YtkpcmnckdappnaaGreat

/- Tree: match.Reply, whose answers are one's own, and whose last list is nil. -/
namespace Go.Proofs.YtkpcmnckdappnaaGreat
open Go.RowKit Go.Sort Go.Lib
set_option maxRecDepth 100000
set_option linter.unusedVariables false
set_option linter.unusedSimpArgs false

theorem owns_setRowT {w : World} {B e sz n k T : Nat} {v : Value} {xs : List Value} {old : Array Value} {fr : Nat × Nat} (h : w.ownsRow B e sz v n xs) (hk : w.heap[k]? = some (.cells old T fr)) (hT : T ≠ e) (new : Array Value) : (w.setRow k new).ownsRow B e sz v n xs := by
  obtain ⟨h1, h2⟩ := h
  refine ⟨h1, ?_⟩
  rcases h2 with h2 | ⟨g, cap, cur, a1, a2, a3, a4⟩
  · exact .inl h2
  · refine .inr ⟨g, cap, cur, a1, a2, (setRow_other w k g new ?_).trans a3, a4⟩
    intro e
    subst e
    rw [hk] at a3
    simp only [Option.some.injEq, Obj.cells.injEq] at a3
    exact hT a3.2.1
theorem owns_setCellT {w : World} {B e sz n k i T : Nat} {v : Value} {xs : List Value} {old : Array Value} {fr : Nat × Nat} (h : w.ownsRow B e sz v n xs) (hk : w.heap[k]? = some (.cells old T fr)) (hT : T ≠ e) (u : Value) : (w.setCell ⟨k, i, none⟩ u).ownsRow B e sz v n xs := by
  obtain ⟨h1, h2⟩ := h
  refine ⟨h1, ?_⟩
  rcases h2 with h2 | ⟨g, cap, cur, a1, a2, a3, a4⟩
  · exact .inl h2
  · refine .inr ⟨g, cap, cur, a1, a2, (heap_setCell_other w ⟨k, i, none⟩ g u ?_).trans a3, a4⟩
    intro e
    simp only at e
    subst e
    rw [hk] at a3
    simp only [Option.some.injEq, Obj.cells.injEq] at a3
    exact hT a3.2.1
def RetMO (w : World) (m : Msg) (e : Ending) (w' : World) : Prop := ∃ q a s d, e = .returned (MV m q a s d) ∧ MsgT w' m q a s d ∧ w'.ownsRow w.heap.size 43 5 a m.an.length (encR m.an) ∧ d = .slice none 0 0 ∧ Below w.heap.size w w'
def FRepO (iq ia is ip B0 : Nat) (B : Nat) (m : Msg) (an sv : List Rc.RR) (i : Nat) (v : Value) (w : World) : Prop :=
  (i = iq → SlT w 29 3 v m.qs.length (encQn m.qs)) ∧ (i = ia → w.ownsRow B0 43 5 v an.length (encR an)) ∧ (i = is → SlT w 43 5 v sv.length (encR sv)) ∧ (i = ip → ∃ kb, v = .pointer (some ⟨kb, 0, none⟩) ∧ B ≤ kb ∧ w.heap[kb]? = some (.cells (MC ⟨0, false, 0, false, false, false, false, 0, [], [], [], [], false, 0⟩ (.slice none 0 0) (.slice none 0 0) (.slice none 0 0) (.slice none 0 0)) 34 (0, 0)))
theorem FRepO.stable {iq ia is ip B0 B : Nat} {m : Msg} {an sv : List Rc.RR} {i : Nat} {v : Value} {w w' : World} (h : FRepO iq ia is ip B0 B m an sv i v w) (hg : GB w w') : FRepO iq ia is ip B0 B m an sv i v w' := by
  obtain ⟨h1, h2, h3, h4⟩ := h
  refine ⟨fun e => (h1 e).below hg, fun e => owns_below (h2 e) hg, fun e => (h3 e).below hg, fun e => ?_⟩
  obtain ⟨kb, k1, k2, k3⟩ := h4 e
  exact ⟨kb, k1, k2, hg.heap k3⟩
set_option maxHeartbeats 4000000 in
theorem ReplyO_any (m : Msg) (q a s d : Value) (code : Int) (v2 v3 : Value) (an sv : List Rc.RR) (w : World) (hm : MsgL w m q a s d) (h2 : RRs w v2 an) (h3 : RRs w v3 sv)
    (l1 : m.qs.length ≤ 1000000) (l2 : an.length ≤ 1000000) (l3 : sv.length ≤ 1000000) :
    Calls Tryz.prog 67 #[MV m q a s d, .int .i64 code, v2, v3] w (RetMO w (replyN m code an sv)) := by
  obtain ⟨aq, cq, rfl, _, _⟩ := hm.qs.slice
  obtain ⟨aa, ca, rfl, _, _⟩ := hm.an.slice
  obtain ⟨asv, cs, rfl, _, _⟩ := hm.sv.slice
  obtain ⟨ad, cd, rfl, _, _⟩ := hm.ad.slice
  obtain ⟨a2, c2, rfl, _, _⟩ := h2.slice
  obtain ⟨a3, c3, rfl, _, _⟩ := h3.slice
  have hq := hm.qs
  have hx := two_boxes w (MC m (.slice aq m.qs.length cq) (.slice aa m.an.length ca) (.slice asv m.sv.length cs) (.slice ad m.ad.length cd)) (MC ⟨0, false, 0, false, false, false, false, 0, [], [], [], [], false, 0⟩ (.slice none 0 0) (.slice none 0 0) (.slice none 0 0) (.slice none 0 0)) 34
  obtain ⟨hx1, hx2⟩ := hx
  have hbx : Below w.heap.size w ((w.alloc (.cells (MC m (.slice aq m.qs.length cq) (.slice aa m.an.length ca) (.slice asv m.sv.length cs) (.slice ad m.ad.length cd)) 34)).alloc (.cells (MC ⟨0, false, 0, false, false, false, false, 0, [], [], [], [], false, 0⟩ (.slice none 0 0) (.slice none 0 0) (.slice none 0 0) (.slice none 0 0)) 34)) := ((Below.refl _ w).alloc (Nat.le_refl _) _).alloc (by simp) _
  have hsz : ((w.alloc (.cells (MC m (.slice aq m.qs.length cq) (.slice aa m.an.length ca) (.slice asv m.sv.length cs) (.slice ad m.ad.length cd)) 34)).alloc (.cells (MC ⟨0, false, 0, false, false, false, false, 0, [], [], [], [], false, 0⟩ (.slice none 0 0) (.slice none 0 0) (.slice none 0 0) (.slice none 0 0)) 34)).heap.size = w.heap.size + 2 := by simp
  clear hm
  have hcq := fun (W : World) (h : Below w.heap.size w W) => cloneQ_any aq cq m.qs W (hq.below h (Nat.le_refl _)) l1
  have hca := fun (W : World) (h : Below w.heap.size w W) => cloneRo_any a2 c2 an W (h2.below h (Nat.le_refl _)) l2
  have hcs := fun (W : World) (h : Below w.heap.size w W) => cloneR_any a3 c3 sv W (h3.below h (Nat.le_refl _)) l3
  have hrep : replyN m code an sv = ⟨m.id, true, m.op, false, false, m.des, true, code, m.qs, an, sv, [], m.edns, if m.edns then 1232 else 0⟩ := rfl
  obtain ⟨mid, mre, mop, mau, mcu, mde, mav, mco, mqs, man, msv, mad, med, msi⟩ := m
  simp only [MC, MV] at hcq hca hcs hrep hx1 hx2 hbx hsz ⊢
  generalize replyN ⟨mid, mre, mop, mau, mcu, mde, mav, mco, mqs, man, msv, mad, med, msi⟩ code an sv = res at *
  generalize hnq : mqs.length = nq at hcq hx1 hx2 hbx hsz l1 ⊢
  generalize man.length = na at *
  generalize msv.length = ns at *
  generalize mad.length = nd at *
  generalize hn2 : an.length = n2 at hca l2 ⊢
  generalize hn3 : sv.length = n3 at hcs l3 ⊢
  have HNQ := Go.Lib.hid hnq
  have HN2 := Go.Lib.hid hn2
  have HN3 := Go.Lib.hid hn3
  clear hnq hn2 hn3
  have HCQ := Go.Lib.hid hcq
  have HCA := Go.Lib.hid hca
  have HCS := Go.Lib.hid hcs
  have HREP := Go.Lib.hid hrep
  have HX1 := Go.Lib.hid hx1
  have HX2 := Go.Lib.hid hx2
  have HBX := Go.Lib.hid hbx
  clear hcq hca hcs hrep hx1 hx2 hbx
  clear hq h2 h3
  go_enter Tryz.func67, Tryz.ntmps67
  go_wp2_with fail
  generalize hW : (w.alloc (.cells #[.int .i64 mid, .bool mre, .int .i64 mop, .bool mau, .bool mcu, .bool mde, .bool mav, .int .i64 mco, .slice aq nq cq, .slice aa na ca, .slice asv ns cs, .slice ad nd cd, .bool med, .int .i64 msi] 34)).alloc (.cells #[.int .i64 0, .bool false, .int .i64 0, .bool false, .bool false, .bool false, .bool false, .int .i64 0, .slice none 0 0, .slice none 0 0, .slice none 0 0, .slice none 0 0, .bool false, .int .i64 0] 34) = W at *
  have hg := cell_of_heap HX1.out
  have b0 : w.heap.size < W.heap.size := by omega
  have d0 := GB.cell (W := W) (hg 0) b0
  have d2 := GB.cell (W := W) (hg 2) b0
  have d5 := GB.cell (W := W) (hg 5) b0
  have d8 := GB.cell (W := W) (hg 8) b0
  have d12 := GB.cell (W := W) (hg 12) b0
  have hne : Nonempty (Subtype (GB W.drew)) := ⟨⟨W.drew, GB.refl _⟩⟩
  clear hg hW
  refine Go.Mix.wp_region_mixR [9, 11, 13, 17] 18 GB (FRepO 9 11 13 17 w.heap.size W.heap.size ⟨mid, mre, mop, mau, mcu, mde, mav, mco, mqs, man, msv, mad, med, msi⟩ an sv) (SRep 9 11 13 17) mixed (by kernel_rfl) GB.trans GB.refl (fun i v w w' h hg => h.stable hg) (SRep.inh _ _ _ _ (by decide) (by decide) (by decide)) ?_
  iterate 9 (refine Go.Mix.mixR_step rfl (fun K hK => ?_); have HKK := Go.Lib.hid hK; clear hK; go_simp; refine HKK.out _ ?_; clear HKK K)
  refine Go.Mix.mixR_eff rfl rfl (fun w7 hw7 => ?_) (fun v9 hv9 => ?_)
  · go_simp
    show Calls _ _ _ _ _
    refine (HCQ.out w7 (HBX.out.trans ((Below.trans (Below.drew (Below.refl _ W)) hw7).mono HBX.out.size))).mono ?_; rintro e w8 ⟨a', c', rfl, h1, h2⟩
    exact ⟨h2, ⟨fun _ => ⟨_, _, _, rfl⟩, (fun h => by cases h)⟩, fun _ => (by show SlT _ _ 3 _ mqs.length _; rw [HNQ.out]; exact h1), (fun h => by cases h), (fun h => by cases h), (fun h => by cases h)⟩
  obtain ⟨x9, n9, c9, rfl⟩ := hv9.1 (.inl rfl)
  clear hv9
  iterate 1 (refine Go.Mix.mixR_step rfl (fun K hK => ?_); have HKK := Go.Lib.hid hK; clear hK; go_simp; refine HKK.out _ ?_; clear HKK K)
  refine Go.Mix.mixR_eff rfl rfl (fun w7 hw7 => ?_) (fun v11 hv11 => ?_)
  · go_simp
    show Calls _ _ _ _ _
    refine (HCA.out w7 (HBX.out.trans ((Below.trans (Below.drew (Below.refl _ W)) hw7).mono HBX.out.size))).mono ?_; rintro e w8 ⟨a', c', rfl, h1, h2⟩
    exact ⟨h2, ⟨fun _ => ⟨_, _, _, rfl⟩, (fun h => by cases h)⟩, (fun h => by cases h), fun _ => (by rw [HN2.out]; exact owns_lower h1 (by have e1 := GB.size hw7; have e2 : W.drew.heap.size = W.heap.size := rfl; have e3 := HBX.out.size; omega)), (fun h => by cases h), (fun h => by cases h)⟩
  obtain ⟨x11, n11, c11, rfl⟩ := hv11.1 (.inr (.inl rfl))
  clear hv11
  iterate 1 (refine Go.Mix.mixR_step rfl (fun K hK => ?_); have HKK := Go.Lib.hid hK; clear hK; go_simp; refine HKK.out _ ?_; clear HKK K)
  refine Go.Mix.mixR_eff rfl rfl (fun w7 hw7 => ?_) (fun v13 hv13 => ?_)
  · go_simp
    show Calls _ _ _ _ _
    refine (HCS.out w7 (HBX.out.trans ((Below.trans (Below.drew (Below.refl _ W)) hw7).mono HBX.out.size))).mono ?_; rintro e w8 ⟨a', c', rfl, h1, h2⟩
    exact ⟨h2, ⟨fun _ => ⟨_, _, _, rfl⟩, (fun h => by cases h)⟩, (fun h => by cases h), (fun h => by cases h), fun _ => (by rw [HN3.out]; exact h1), (fun h => by cases h)⟩
  obtain ⟨x13, n13, c13, rfl⟩ := hv13.1 (.inr (.inr rfl))
  clear hv13
  iterate 3 (refine Go.Mix.mixR_step rfl (fun K hK => ?_); have HKK := Go.Lib.hid hK; clear hK; go_simp; refine HKK.out _ ?_; clear HKK K)
  refine Go.Mix.mixR_eff rfl rfl (fun w7 hw7 => ?_) (fun v17 hv17 => ?_)
  · go_simp
    exact ⟨(Below.refl _ _).alloc (Nat.le_refl _) _, ⟨(fun h => by omega), fun _ => ⟨_, rfl⟩⟩, (fun h => by cases h), (fun h => by cases h), (fun h => by cases h), fun _ => ⟨w7.heap.size, rfl, (by have h7 : W.drew.heap.size ≤ w7.heap.size := GB.size hw7; have h8 : W.drew.heap.size = W.heap.size := rfl; omega), World.alloc_heap_new _ _⟩⟩
  obtain ⟨kb, rfl⟩ := hv17.2 rfl
  clear hv17
  refine Go.Mix.mixR_last rfl (fun w9 hg9 hΦ K hK => ?_)
  obtain ⟨⟨⟨⟨_, f9⟩, f11⟩, f13⟩, f17⟩ := hΦ
  have g9 := f9.1 rfl
  have g11 := f11.2.1 rfl
  have g13 := f13.2.2.1 rfl
  obtain ⟨kb', hk1, hk2, hk3⟩ := f17.2.2.2 rfl
  simp only [Value.pointer.injEq, Option.some.injEq, Addr.mk.injEq, and_true] at hk1
  subst hk1
  rw [if_pos (show Region.wanted _ _ = true from rfl)]
  refine wp_store_row 34 (.tmp 9) (.tmp 26) rfl kb _ rfl rfl _ _ hk3 infoMsg rfl (by simp [Value.oneCell']) ?_
  have hgw : GB W w9 := Below.trans (Below.drew (Below.refl _ W)) hg9
  have o1 := hgw.heap HX1.out
  have o2 := hgw.heap HX2.out
  have k1 : w.heap.size ≠ kb := by omega
  have k2 : w.heap.size + 1 ≠ kb := by omega
  have hbw : Below w.heap.size w w9 := HBX.out.trans (hgw.mono HBX.out.size)
  refine hK _ _ ?_
  clear hK K
  have e1 := setRow_heap w9 kb _ #[.int .i64 mid, .bool true, .int .i64 mop, .bool false, .bool false, .bool mde, .bool true, .int .i64 code, .slice x9 n9 c9, .slice x11 n11 c11, .slice x13 n13 c13, .slice none 0 0, .bool med, .int .i64 0] _ _ hk3
  have e2 := (setRow_other w9 kb w.heap.size #[.int .i64 mid, .bool true, .int .i64 mop, .bool false, .bool false, .bool mde, .bool true, .int .i64 code, .slice x9 n9 c9, .slice x11 n11 c11, .slice x13 n13 c13, .slice none 0 0, .bool med, .int .i64 0] k1).trans o1
  have e3 := (setRow_other w9 kb (w.heap.size + 1) #[.int .i64 mid, .bool true, .int .i64 mop, .bool false, .bool false, .bool mde, .bool true, .int .i64 code, .slice x9 n9 c9, .slice x11 n11 c11, .slice x13 n13 c13, .slice none 0 0, .bool med, .int .i64 0] k2).trans o2
  have g9' := g9.setRow (new := #[.int .i64 mid, .bool true, .int .i64 mop, .bool false, .bool false, .bool mde, .bool true, .int .i64 code, .slice x9 n9 c9, .slice x11 n11 c11, .slice x13 n13 c13, .slice none 0 0, .bool med, .int .i64 0]) hk3 (by decide)
  have g11' := owns_setRowT g11 hk3 (by decide) (#[.int .i64 mid, .bool true, .int .i64 mop, .bool false, .bool false, .bool mde, .bool true, .int .i64 code, .slice x9 n9 c9, .slice x11 n11 c11, .slice x13 n13 c13, .slice none 0 0, .bool med, .int .i64 0])
  have g13' := g13.setRow (new := #[.int .i64 mid, .bool true, .int .i64 mop, .bool false, .bool false, .bool mde, .bool true, .int .i64 code, .slice x9 n9 c9, .slice x11 n11 c11, .slice x13 n13 c13, .slice none 0 0, .bool med, .int .i64 0]) hk3 (by decide)
  have hbX := below_setRow hbw (show w.heap.size ≤ kb by omega) #[.int .i64 mid, .bool true, .int .i64 mop, .bool false, .bool false, .bool mde, .bool true, .int .i64 code, .slice x9 n9 c9, .slice x11 n11 c11, .slice x13 n13 c13, .slice none 0 0, .bool med, .int .i64 0]
  clear f9 f11 f13 f17 g9 g11 g13 o1 o2 hg9 hgw hbw hk3 d0 d2 d5 d8 d12 hne
  generalize w9.setRow kb #[.int .i64 mid, .bool true, .int .i64 mop, .bool false, .bool false, .bool mde, .bool true, .int .i64 code, .slice x9 n9 c9, .slice x11 n11 c11, .slice x13 n13 c13, .slice none 0 0, .bool med, .int .i64 0] = X at *
  have hc2 := cell_of_heap e2 12
  have hc1 := cell_of_heap e1 13
  have hf1 := frozen_of_row X kb 13 _ _ e1
  simp only [List.getElem?_toArray, List.getElem?_cons_succ, List.getElem?_cons_zero] at hc2 hc1
  obtain ⟨fs, hu⟩ := undMsg
  have G9 := Go.Lib.hid g9'
  have G11 := Go.Lib.hid g11'
  have G13 := Go.Lib.hid g13'
  have HBX2 := Go.Lib.hid hbX
  have HU := Go.Lib.hid hu
  clear g9' g11' g13' hbX hu
  cases med with
  | true =>
    have E1 : (X.setCell ⟨kb, 13, none⟩ (.int .i64 1232)).heap[kb]? = some (.cells #[.int .i64 mid, .bool true, .int .i64 mop, .bool false, .bool false, .bool mde, .bool true, .int .i64 code, .slice x9 n9 c9, .slice x11 n11 c11, .slice x13 n13 c13, .slice none 0 0, .bool true, .int .i64 1232] 34 (0, 0)) := heap_setCell_same X kb 13 _ _ (.int .i64 1232) e1
    have E3 := (heap_setCell_other X ⟨kb, 13, none⟩ (w.heap.size + 1) (.int .i64 1232) k2).trans e3
    have F9 := G9.out.setCell (i := 13) (u := .int .i64 1232) e1 (by decide)
    have F11 := owns_setCellT G11.out (i := 13) e1 (by decide) (.int .i64 1232)
    have F13 := G13.out.setCell (i := 13) (u := .int .i64 1232) e1 (by decide)
    have HB3 := HBX2.out.setCell (p := ⟨kb, 13, none⟩) (show w.heap.size ≤ kb by omega) (.int .i64 1232)
    have HF9 := Go.Lib.hid F9
    have HF11 := Go.Lib.hid F11
    have HF13 := Go.Lib.hid F13
    have HBX3 := Go.Lib.hid HB3
    have HE1 := Go.Lib.hid E1
    have HE3 := Go.Lib.hid E3
    have He1 := Go.Lib.hid e1
    have He2 := Go.Lib.hid e2
    have He3 := Go.Lib.hid e3
    clear F9 F11 F13 HB3 E1 E3 e1 e2 e3
    have hone : (#[.int .i64 mid, .bool true, .int .i64 mop, .bool false, .bool false, .bool mde, .bool true, .int .i64 code, .slice x9 n9 c9, .slice x11 n11 c11, .slice x13 n13 c13, .slice none 0 0, .bool true, .int .i64 1232] : Array Value).all (·.oneCell') = true := by simp [Value.oneCell']
    go_wp2_with (first | (refine wpList_load_row rfl 34 (.tmp 9) rfl kb rfl _ _ (0, 0) _ HE1.out HU.out rfl infoMsg ?_) | (refine wpList_store_row rfl 34 (.tmp 8) (.tmp 30) rfl (w.heap.size + 1) #[.int .i64 mid, .bool true, .int .i64 mop, .bool false, .bool false, .bool mde, .bool true, .int .i64 code, .slice x9 n9 c9, .slice x11 n11 c11, .slice x13 n13 c13, .slice none 0 0, .bool true, .int .i64 1232] rfl rfl _ _ HE3.out infoMsg rfl hone ?_))
    refine ret_msg (m := ⟨mid, true, mop, false, false, mde, true, code, mqs, an, sv, [], true, 1232⟩) rfl rfl rfl (setRow_heap _ _ _ _ _ _ HE3.out) ?_
    rw [HREP.out]
    exact ⟨_, _, _, _, rfl, ⟨(HF9.out.setRow HE3.out (by decide)), SlT.of_owns (owns_setRowT HF11.out HE3.out (by decide) _), (HF13.out.setRow HE3.out (by decide)), SlT.nil _ _ _⟩, owns_setRowT HF11.out HE3.out (by decide) _, rfl, below_setRow HBX3.out (by omega) _⟩
  | false =>
    have He1 := Go.Lib.hid e1
    have He2 := Go.Lib.hid e2
    have He3 := Go.Lib.hid e3
    clear e1 e2 e3
    have hone : (#[.int .i64 mid, .bool true, .int .i64 mop, .bool false, .bool false, .bool mde, .bool true, .int .i64 code, .slice x9 n9 c9, .slice x11 n11 c11, .slice x13 n13 c13, .slice none 0 0, .bool false, .int .i64 0] : Array Value).all (·.oneCell') = true := by simp [Value.oneCell']
    go_wp2_with (first | (refine wpList_load_row rfl 34 (.tmp 9) rfl kb rfl _ _ (0, 0) _ He1.out HU.out rfl infoMsg ?_) | (refine wpList_store_row rfl 34 (.tmp 8) (.tmp 30) rfl (w.heap.size + 1) #[.int .i64 mid, .bool true, .int .i64 mop, .bool false, .bool false, .bool mde, .bool true, .int .i64 code, .slice x9 n9 c9, .slice x11 n11 c11, .slice x13 n13 c13, .slice none 0 0, .bool false, .int .i64 0] rfl rfl _ _ He3.out infoMsg rfl hone ?_))
    refine ret_msg (m := ⟨mid, true, mop, false, false, mde, true, code, mqs, an, sv, [], false, 0⟩) rfl rfl rfl (setRow_heap _ _ _ _ _ _ He3.out) ?_
    rw [HREP.out]
    exact ⟨_, _, _, _, rfl, ⟨(G9.out.setRow He3.out (by decide)), SlT.of_owns (owns_setRowT G11.out He3.out (by decide) _), (G13.out.setRow He3.out (by decide)), SlT.nil _ _ _⟩, owns_setRowT G11.out He3.out (by decide) _, rfl, below_setRow HBX2.out (by omega) _⟩
end Go.Proofs.YtkpcmnckdappnaaGreat

/- Tree: the contract of refer. -/
namespace Go.Proofs.YtkpcmnckdappnaaGreat
open Go.RowKit Go.Sort Go.Lib
set_option maxRecDepth 100000
set_option linter.unusedVariables false
set_option linter.unusedSimpArgs false

def i0 : Int := bits .and .i64 0 65535
/-- a message that says so, about a question -/
def sayN (q : Qn) (s : Said) : Msg := ⟨i0, true, 0, s.auth, false, false, true, s.code, [q], s.an, s.sv, s.ad, true, 1232⟩
abbrev sayC (auth : Bool) (code : Int) (q a s d : Value) : Array Value := #[.int .i64 i0, .bool true, .int .i64 0, .bool auth, .bool false, .bool false, .bool true, .int .i64 code, q, a, s, d, .bool true, .int .i64 1232]
abbrev zeroC : Array Value := #[.int .i64 0, .bool false, .int .i64 0, .bool false, .bool false, .bool false, .bool false, .int .i64 0, .slice none 0 0, .slice none 0 0, .slice none 0 0, .slice none 0 0, .bool false, .int .i64 0]
abbrev qV (q : Qn) : Value := .agg #[.string (mk q.name), .int .i64 q.ty, .int .i64 q.cl]
theorem ask0_any (q : Qn) (w : World) : Calls Tryz.prog 34 #[.int .i64 0, qV q] w fun e w' => ∃ q1 a s d, e = .returned (MV (askN i0 q) q1 a s d) ∧ MsgL w' (askN i0 q) q1 a s d ∧ Below w.heap.size w w' :=
  (Ask_any 0 q w).mono fun e w' ⟨q1, a, s, d, h1, h2, h3⟩ => ⟨q1, a, s, d, h1, h2.lies, h3⟩
theorem rep0_any (q : Qn) (q1 a s d : Value) (code : Int) (v2 v3 : Value) (an sv : List Rc.RR) (w : World) (hm : MsgL w (askN i0 q) q1 a s d) (h2 : RRs w v2 an) (h3 : RRs w v3 sv) (l2 : an.length ≤ 1000000) (l3 : sv.length ≤ 1000000) :
    Calls Tryz.prog 67 #[MV (askN i0 q) q1 a s d, .int .i64 code, v2, v3] w fun e w' => ∃ aq cq aa ca ax cx, e = .returned (.agg (sayC false code (.slice aq 1 cq) (.slice aa an.length ca) (.slice ax sv.length cx) (.slice none 0 0))) ∧
      SlT w' 29 3 (.slice aq 1 cq) 1 (encQn [q]) ∧ w'.ownsRow w.heap.size 43 5 (.slice aa an.length ca) an.length (encR an) ∧ SlT w' 43 5 (.slice ax sv.length cx) sv.length (encR sv) ∧ Below w.heap.size w w' := by
  refine (ReplyO_any (askN i0 q) q1 a s d code v2 v3 an sv w hm h2 h3 (by simp [askN]) l2 l3).mono ?_
  rintro e w' ⟨q', a', s', d', rfl, hmt, ho, rfl, hb⟩
  have hqs : SlT w' 29 3 q' 1 (encQn [q]) := hmt.qs
  obtain ⟨aq, cq, rfl, _, _⟩ := hqs.1.slice
  have ho2 : w'.ownsRow w.heap.size 43 5 a' an.length (encR an) := ho
  obtain ⟨aa, ca, rfl, _, _⟩ := (SlC.of_owns ho2).slice
  have hsv : SlT w' 43 5 s' sv.length (encR sv) := hmt.sv
  obtain ⟨ax, cx, rfl, _, _⟩ := hsv.1.slice
  exact ⟨aq, cq, aa, ca, ax, cx, rfl, hqs, ho2, hsv, hb⟩
theorem makeAN_ok {n : List UInt8} (ttl x : Int) (hn : n.length ≤ maxLen) : RROk (makeAN n ttl x) := by
  unfold makeAN
  split
  · exact madeN_ok ⟨hn, by simp [four, maxLen]⟩
  · exact ⟨by simp [rZ, maxLen], by simp [rZ, maxLen]⟩

/-- the addresses of the first servers -/
def adK (zn : List UInt8) (sv : List Sv) (k : Nat) : List Rc.RR := ((sv.take k).filter fun s => Nm.underN s.1 zn).map fun s => makeAN s.1 3600 s.2
theorem adK_step {zn : List UInt8} {sv : List Sv} {k : Nat} (hk : k < sv.length) : adK zn sv (k + 1) = if Nm.underN (sv.getD k s0).1 zn then adK zn sv k ++ [makeAN (sv.getD k s0).1 3600 (sv.getD k s0).2] else adK zn sv k := by
  unfold adK
  rw [List.take_succ_eq_append_getElem hk, List.filter_append, List.map_append, List.getD_eq_getElem?_getD, List.getElem?_eq_getElem hk]
  simp only [Option.getD_some]
  cases hp : Nm.underN sv[k].1 zn with
  | true => simp [List.filter, hp]
  | false => simp [List.filter, hp]
theorem adK_len {zn : List UInt8} {sv : List Sv} {k : Nat} : (adK zn sv k).length ≤ k := by
  unfold adK
  rw [List.length_map]
  exact Nat.le_trans (List.length_filter_le _ _) (by rw [List.length_take]; omega)
structure CR (kb yb : Nat) (Y W : World) : Prop where
  k : W.heap[kb]? = Y.heap[kb]?
  y : W.heap[yb]? = Y.heap[yb]?
set_option maxHeartbeats 16000000 in
theorem refer_any (z to : Zn) (b o b2 o2 : Nat) (q : Qn) (w : World) (hz : ZP w b o z) (hzo : ZnOk z) (ht : ZP w b2 o2 to) (hto : ZnOk to) :
    Calls Tryz.prog 36 #[.pointer (some ⟨b, o, none⟩), .pointer (some ⟨b2, o2, none⟩), qV q] w (RetM w (sayN q (referP z.p to.p))) := by
  have mixed : Tryz.prog.follows .mixedOrders = true := by kernel_rfl
  have hdef : sayN q (referP z.p to.p) = ⟨i0, true, 0, false, false, false, true, 0, [q], [], nsP to.p, adK z.nm to.sv to.sv.length, true, 1232⟩ := by unfold adK; rw [List.take_length]; rfl
  have hask := fun W => ask0_any q W
  have hns := fun W (h : Below w.heap.size w W) => ns_any to b2 o2 W (ht.below h) hto
  have hnl := (nsP_good hto).1
  have hrep := fun q1 a s d v3 W hm h3 => rep0_any q q1 a s d 0 (.slice none 0 0) v3 [] (nsP to.p) W hm (SlC.nil _ _) h3 (by simp) (by omega)
  have hun := fun s W (hs : s.length ≤ maxLen) => underM s z.nm W hs hzo.nmM
  have c0 := fun W (h : Below w.heap.size w W) => (hz.below h).c0
  have t2 := fun W (h : Below w.heap.size w W) => (ht.below h).c2
  have hsv := fun W (h : Below w.heap.size w W) => (ht.below h).zt.sv
  have hbl := hz.lt
  have hbl2 := ht.lt
  have hsl : ∀ s ∈ to.sv, s.1.length ≤ maxLen := fun s hs => by have := hto.sv s hs; unfold maxLen; omega
  have hstep := fun k (hk : k < to.sv.length) => adK_step (zn := z.nm) (sv := to.sv) (k := k) hk
  have hal := fun k => adK_len (zn := z.nm) (sv := to.sv) (k := k)
  have hl2 := hto.l2
  generalize sayN q (referP z.p to.p) = R at *
  generalize nsP to.p = NS at *
  generalize z.nm = zn at *
  obtain ⟨tn, ra, rc, rs, sa, sc, sv⟩ := to
  simp only at hdef t2 hsv hsl hstep hal hl2
  obtain ⟨X1, hX1⟩ : ∃ X, w.alloc (.cells #[.string (mk q.name), .int .i64 q.ty, .int .i64 q.cl] 29) = X := ⟨_, rfl⟩
  obtain ⟨X, hX⟩ : ∃ X, X1.alloc (.cells zeroC 34) = X := ⟨_, rfl⟩
  have g1 : X1.heap[w.heap.size]? = some (.cells #[.string (mk q.name), .int .i64 q.ty, .int .i64 q.cl] 29 (0, 0)) := by rw [← hX1]; exact World.alloc_heap_new _ _
  have b1 : Below w.heap.size w X1 := by rw [← hX1]; exact (Below.refl _ w).alloc (Nat.le_refl _) _
  have g2 : X.heap[X1.heap.size]? = some (.cells zeroC 34 (0, 0)) := by rw [← hX]; exact World.alloc_heap_new _ _
  have b2' : Below X1.heap.size X1 X := by rw [← hX]; exact (Below.refl _ X1).alloc (Nat.le_refl _) _
  have hbX := b1.trans (b2'.mono b1.size)
  have g1' := heap_later b2' g1
  have k0 : X.cell? ⟨w.heap.size, 0, none⟩ = some (.string (mk q.name)) := row_cell g1' 0 _ rfl
  have k1 : X.cell? ⟨w.heap.size, 1, none⟩ = some (.int .i64 q.ty) := row_cell g1' 1 _ rfl
  have k2 : X.cell? ⟨w.heap.size, 2, none⟩ = some (.int .i64 q.cl) := row_cell g1' 2 _ rfl
  have hwX1 := b1.size
  clear hz hzo ht hto g1 b1 b2' g1'
  generalize hN : sv.length = N at *
  have HDEF := Go.Lib.hid hdef
  have HASK := Go.Lib.hid hask
  have HNS := Go.Lib.hid hns
  have HREP := Go.Lib.hid hrep
  have HUN := Go.Lib.hid hun
  have HC0 := Go.Lib.hid c0
  have HT2 := Go.Lib.hid t2
  have HSV := Go.Lib.hid hsv
  have HSL := Go.Lib.hid hsl
  have HSTEP := Go.Lib.hid hstep
  have HAL := Go.Lib.hid hal
  have HBX := Go.Lib.hid hbX
  have G2 := Go.Lib.hid g2
  have HN := Go.Lib.hid hN
  clear hdef hask hns hrep hun c0 t2 hsv hsl hstep hal hbX g2 hN
  go_enter Tryz.func36, Tryz.ntmps36
  go_wp2_with fail
  refine (HASK.out X).mono ?_; rintro e W1 ⟨q1, a1, s1, d1, rfl, hm1, hx1⟩
  have hb1 := HBX.out.trans (hx1.mono HBX.out.size)
  clear k0 k1 k2 hX hX1
  have HM1 := Go.Lib.hid hm1
  have HB1 := Go.Lib.hid hb1
  have HX1 := Go.Lib.hid hx1
  clear hm1 hb1 hx1
  go_wp2_with fail
  refine (HNS.out W1 HB1.out).mono ?_; rintro e W2 ⟨v3, rfl, hv3, hx2⟩
  have hb2 := HB1.out.trans (hx2.mono HB1.out.size)
  have hXW2 := HX1.out.trans (hx2.mono HX1.out.size)
  have hr2 := HREP.out q1 a1 s1 d1 v3 W2 (HM1.out.below hx2 (Nat.le_refl _)) (SlC.of_owns hv3)
  obtain ⟨a3, c3, rfl, _, _⟩ := (SlC.of_owns hv3).slice
  clear hx2 hv3
  have HB2 := Go.Lib.hid hb2
  have HXW2 := Go.Lib.hid hXW2
  have HR2 := Go.Lib.hid hr2
  clear hb2 hXW2 hr2
  go_wp2_with fail
  refine HR2.out.mono ?_; rintro e W3 ⟨aq, cq, aa, ca, ax, cx, rfl, hsq, hsa, hss, hx3⟩
  simp only [List.length_nil] at hsa
  have hb3 := HB2.out.trans (hx3.mono HB2.out.size)
  have hXW3 := HXW2.out.trans (hx3.mono HXW2.out.size)
  generalize hNS : NS.length = NL at *
  obtain ⟨Y, hY⟩ : ∃ Y, W3.alloc (.cells (sayC false 0 (.slice aq 1 cq) (.slice aa 0 ca) (.slice ax NL cx) (.slice none 0 0)) 34) = Y := ⟨_, rfl⟩
  have gY : Y.heap[W3.heap.size]? = some (.cells (sayC false 0 (.slice aq 1 cq) (.slice aa 0 ca) (.slice ax NL cx) (.slice none 0 0)) 34 (0, 0)) := by rw [← hY]; exact World.alloc_heap_new _ _
  have hbY : Below W3.heap.size W3 Y := by rw [← hY]; exact (Below.refl _ W3).alloc (Nat.le_refl _) _
  have hyz : Y.heap.size = W3.heap.size + 1 := by rw [← hY]; simp
  have hbwY := hb3.trans (hbY.mono hb3.size)
  have t2Y := HT2.out Y hbwY
  have hone : (sayC false 0 (.slice aq 1 cq) (.slice aa 0 ca) (.slice ax NL cx) (.slice none 0 0)).all (·.oneCell') = true := by simp [Value.oneCell']
  have hlX := (Array.getElem?_eq_some_iff.1 G2.out).1
  have hXl3 := hXW3.size
  have h3w := hb3.size
  clear hx3
  have HSQ := Go.Lib.hid hsq
  have HSA := Go.Lib.hid hsa
  have HSS := Go.Lib.hid hss
  have HB3 := Go.Lib.hid hb3
  have HXW3 := Go.Lib.hid hXW3
  have GY := Go.Lib.hid gY
  have HBY := Go.Lib.hid hbY
  have HBWY := Go.Lib.hid hbwY
  have HONE := Go.Lib.hid hone
  have HNS2 := Go.Lib.hid hNS
  clear hsq hsa hss hb3 hXW3 gY hbY hbwY hone hNS
  go_wp2_with (first | (refine wpList_store_row rfl 34 (.tmp 7) (.tmp 14) rfl W3.heap.size _ rfl rfl _ _ (World.alloc_heap_new _ _) infoMsg rfl HONE.out ?_; rw [World.setRow_alloc_new, hY]))
  clear t2Y hY
  have hkY : W3.heap.size < Y.heap.size := by omega
  go_loopw [20] (fun i wr => ∃ (k : Nat) (v : Value), i = .int .i64 k ∧ k ≤ N ∧ wr.heap[W3.heap.size]? = some (.cells (sayC false 0 (.slice aq 1 cq) (.slice aa 0 ca) (.slice ax NL cx) v) 34 (0, 0)) ∧ wr.ownsRow Y.heap.size 43 5 v (adK zn sv k).length (encR (adK zn sv k)) ∧ Below W3.heap.size W3 wr ∧ Y.heap.size ≤ wr.heap.size) (fun i _ => N - (intOf i).toNat)
  case atStart => exact ⟨0, _, rfl, Nat.zero_le _, GY.out, World.ownsRow_nil _ _ _ _, HBY.out, Nat.le_refl _⟩
  case round =>
    obtain ⟨k, v, rfl, hk, hkb, hown, hbr, hYs⟩ := hrel
    have hbw := HB3.out.trans (hbr.mono h3w)
    have hak := HAL.out k
    obtain ⟨av, cv, rfl, _, _⟩ := (SlC.of_owns hown).slice
    have hog : ∀ g, g = W3.heap.size ∨ g = wr.heap.size → some g ≠ (Value.slice av (adK zn sv k).length cv).ownBlock := by
      intro g hg e
      rcases hown.2 with ⟨hv, _⟩ | ⟨g2, cap, cur, hv, hg2, hgh, _⟩
      · simp only [Value.slice.injEq] at hv
        obtain ⟨rfl, _, _⟩ := hv
        simp [Value.ownBlock] at e
      · have hgl := (Array.getElem?_eq_some_iff.1 hgh).1
        simp only [Value.slice.injEq] at hv
        obtain ⟨rfl, _, _⟩ := hv
        simp only [Value.ownBlock, Option.some.injEq] at e
        rcases hg with hg | hg <;> omega
    by_cases hlt : k < N
    · have hsw : Svs wr (.slice sa sv.length sc) sv := by rw [HN.out]; exact HSV.out wr hbw
      obtain ⟨bs, off, rfl, hbb, hcell⟩ := Svs.at hsw (by rw [HN.out]; omega)
      obtain ⟨d0, d1⟩ := hcell k (by rw [HN.out]; exact hlt)
      have hsn := HSL.out (sv.getD k s0) (by rw [List.getD_eq_getElem?_getD, List.getElem?_eq_getElem (by rw [HN.out]; exact hlt)]; exact List.getElem_mem _)
      have hst := HSTEP.out k hlt
      have hlt2 : (k : Int) < (N : Int) := by omega
      have w1 : IntKind.i64.wrap ((k : Int) + 1) = (k : Int) + 1 := wrapi (by omega) (by omega)
      clear hsw hcell
      generalize sv.getD k s0 = s at *
      obtain ⟨sn, sx⟩ := s
      simp only at d0 d1 hsn hst
      obtain ⟨Z, hZ⟩ : ∃ Z, wr.alloc (.cells #[.string (mk sn), .int .i64 sx] 55) = Z := ⟨_, rfl⟩
      have gZ : Z.heap[wr.heap.size]? = some (.cells #[.string (mk sn), .int .i64 sx] 55 (0, 0)) := by rw [← hZ]; exact World.alloc_heap_new _ _
      have hbZ : Below wr.heap.size wr Z := by rw [← hZ]; exact (Below.refl _ wr).alloc (Nat.le_refl _) _
      have hbwZ := hbw.trans (hbZ.mono hbw.size)
      have hownZ := owns_below hown hbZ
      have hkZ := heap_later hbZ hkb
      have hb3Z := hbr.trans (hbZ.mono hbr.size)
      have e0 := HC0.out Z hbwZ
      have e1 : Z.cell? ⟨wr.heap.size, 0, none⟩ = some (.string (mk sn)) := row_cell gZ 0 _ rfl
      have hlZ := (Array.getElem?_eq_some_iff.1 gZ).1
      have hblZ := Nat.lt_of_lt_of_le hbl hbwZ.size
      have D0 := BelowC.cell (W := Z) e0 hblZ
      have D1 := BelowC.cell (W := Z) e1 hlZ
      have hne : Nonempty (Subtype (Below Z.heap.size Z)) := ⟨⟨Z, Below.refl _ _⟩⟩
      have HBC := Go.Lib.hid (show Below Z.heap.size Z Z.drew from (Below.refl Z.heap.size Z).drew)
      have hun := fun W => HUN.out sn W hsn
      have hmk := fun W => MakeA_any sn 3600 sx W hsn
      generalize makeAN sn 3600 sx = r at *
      generalize Nm.underN sn zn = u at *
      generalize hL : adK zn sv k = L at *
      generalize hM : L.length = M at *
      have hzY := hbZ.size
      have hwk : W3.heap.size < wr.heap.size := by omega
      clear hown hbr hkb hbw
      have HST := Go.Lib.hid hst
      have HU := Go.Lib.hid hun
      have HMK := Go.Lib.hid hmk
      have HBWZ := Go.Lib.hid hbwZ
      have HOZ := Go.Lib.hid hownZ
      have HKZ := Go.Lib.hid hkZ
      have HB3Z := Go.Lib.hid hb3Z
      have GZ := Go.Lib.hid gZ
      have HBZ := Go.Lib.hid hbZ
      have HOG := Go.Lib.hid hog
      have HL0 := Go.Lib.hid hL
      have HM := Go.Lib.hid hM
      clear hst hun hmk hbwZ hownZ hkZ hb3Z gZ hbZ hog hL hM
      go_wp2_with fail
      refine Go.Mix.wp_region_mix (Es := [6]) (Below Z.heap.size Z) mixed (by kernel_rfl) (Below.refl _ _).drew (fun _ => ?_)
      iterate 6 (refine Go.Mix.mix_step rfl (fun K hK => ?_); have HKK := Go.Lib.hid hK; clear hK; go_simp; refine HKK.out _ _ ?_; clear HKK K)
      refine Go.Mix.mix_eff rfl (fun K hK => ?_)
      have HKK := Go.Lib.hid hK
      clear hK
      go_simp
      refine (HU.out _).mono ?_; rintro e WA ⟨rfl, hxa⟩
      have HB5 := Go.Lib.hid (HBC.out.trans (hxa.mono HBC.out.size))
      clear hxa HBC
      go_simp
      refine HKK.out _ _ HB5.out ?_
      clear HKK K
      refine Go.Mix.mix_nil ?_
      clear D0 D1 hne
      have hownA := owns_below HOZ.out HB5.out
      have hkA := heap_later HB5.out HKZ.out
      have gA := heap_later HB5.out GZ.out
      have hb3A := HB3Z.out.trans (HB5.out.mono HB3Z.out.size)
      have hsA := HB5.out.size
      clear hZ e0 e1
      cases u with
      | false =>
        have hf1 : adK zn sv (k + 1) = L := HST.out
        have HOA := Go.Lib.hid hownA
        have HKA := Go.Lib.hid hkA
        have HB3A := Go.Lib.hid hb3A
        have HF1 := Go.Lib.hid hf1
        clear hownA hkA hb3A hf1
        clear gA
        go_wp2_with fail
        go_roundw
        case rel => exact ⟨k + 1, _, by go_num, by omega, HKA.out, by rw [HF1.out, HM.out]; exact HOA.out, HB3A.out, by omega⟩
        case measure => simp [intOf]; omega
      | true =>
        have hf1 : adK zn sv (k + 1) = L ++ [r] := HST.out
        obtain ⟨rn, rt, rcl, rl, rd⟩ := r
        have hon := one_rr ⟨rn, rt, rcl, rl, rd⟩
        have hsnoc := encR_snoc L ⟨rn, rt, rcl, rl, rd⟩
        simp only [rrV] at HMK
        have D3 : ∀ y : Subtype (CR W3.heap.size wr.heap.size WA), y.1.cell? ⟨W3.heap.size, 11, none⟩ = some (.slice av M cv) := fun y => row_cell (y.2.k.trans hkA) 11 _ rfl
        have D0 : ∀ y : Subtype (CR W3.heap.size wr.heap.size WA), y.1.cell? ⟨wr.heap.size, 0, none⟩ = some (.string (mk sn)) := fun y => row_cell (y.2.y.trans gA) 0 _ rfl
        have D1 : ∀ y : Subtype (CR W3.heap.size wr.heap.size WA), y.1.cell? ⟨wr.heap.size, 1, none⟩ = some (.int .i64 sx) := fun y => row_cell (y.2.y.trans gA) 1 _ rfl
        have hneC : Nonempty (Subtype (CR W3.heap.size wr.heap.size WA)) := ⟨⟨WA, rfl, rfl⟩⟩
        have HOA := Go.Lib.hid hownA
        have HKA := Go.Lib.hid hkA
        have HB3A := Go.Lib.hid hb3A
        have HF1 := Go.Lib.hid hf1
        have GA := Go.Lib.hid gA
        have HON := Go.Lib.hid hon
        have HSN := Go.Lib.hid hsnoc
        clear hownA hkA hb3A hf1 gA hon hsnoc
        go_wp2_with fail
        refine Go.Mix.wp_region_mixT (Es := [6, 7, 8]) 10 (CR W3.heap.size wr.heap.size WA) mixed (by kernel_rfl) ⟨rfl, rfl⟩ ?_
        iterate 6 (refine Go.Mix.mixT_step rfl (fun K hK => ?_); have HKK := Go.Lib.hid hK; clear hK; go_simp; refine HKK.out _ _ ?_; clear HKK K)
        refine Go.Mix.mixT_eff rfl (fun K hK => ?_)
        have HKK := Go.Lib.hid hK
        clear hK
        go_simp
        refine (HMK.out WA.drew).mono ?_; rintro e W5 ⟨rfl, hx5⟩
        have hx5' : Below WA.heap.size WA W5 := (Below.refl _ WA).drew.trans hx5
        have hown5 := owns_below HOA.out hx5'
        have hk5 := heap_later hx5' HKA.out
        have hb5 := HB3A.out.trans (hx5'.mono HB3A.out.size)
        have hs5 := hx5'.size
        have hcr5 : CR W3.heap.size wr.heap.size WA W5 := ⟨hx5'.block _ (by omega), hx5'.block _ (by omega)⟩
        clear hx5 hx5'
        have HO5 := Go.Lib.hid hown5
        have HK5 := Go.Lib.hid hk5
        have HB35 := Go.Lib.hid hb5
        have HCR5 := Go.Lib.hid hcr5
        clear hown5 hk5 hb5 hcr5
        go_simp
        refine HKK.out _ _ HCR5.out ?_
        clear HKK K
        refine Go.Mix.mixT_eff rfl (fun K hK => ?_)
        have HKK := Go.Lib.hid hK
        clear hK
        go_simp
        have hal : Below W5.heap.size W5 (W5.alloc (.cells #[.string (mk rn), .int .i64 rt, .int .i64 rcl, .int .i64 rl, .string (mk rd)] 43)) := (Below.refl _ W5).alloc (Nat.le_refl _) _
        have hcr6 : CR W3.heap.size wr.heap.size WA (W5.alloc (.cells #[.string (mk rn), .int .i64 rt, .int .i64 rcl, .int .i64 rl, .string (mk rd)] 43)) := ⟨(hal.block _ (by omega)).trans HCR5.out.k, (hal.block _ (by omega)).trans HCR5.out.y⟩
        refine HKK.out _ _ hcr6 ?_
        clear HKK K
        have hown6 := owns_below HO5.out hal
        have hk6 := heap_later hal HK5.out
        have hb6 := HB35.out.trans (hal.mono HB35.out.size)
        have hs6 := hal.size
        have hnc := new_cells W5 [.string (mk rn), .int .i64 rt, .int .i64 rcl, .int .i64 rl, .string (mk rd)] 43
        have HO6 := Go.Lib.hid hown6
        have HK6 := Go.Lib.hid hk6
        have HB36 := Go.Lib.hid hb6
        have HCR6 := Go.Lib.hid hcr6
        have HNC := Go.Lib.hid hnc
        clear hown6 hk6 hb6 hcr6 hnc
        clear hal
        refine mixT_app1 eiRR (.tmp 32) (.tmp 38) rfl rfl rfl Y.heap.size (v := .slice av M cv) (n := M) (xs := encR L) (ad := ⟨W5.heap.size, 0, none⟩) (c := 1) rfl rfl HO6.out (news := [.string (mk rn), .int .i64 rt, .int .i64 rcl, .int .i64 rl, .string (mk rd)]) rfl HNC.out HON.out (by unfold maxLen; omega) (by omega) (by omega) ?_
        intro v7 W7 hown7 hg7 hsn7
        obtain ⟨a7, c7, rfl, _, _⟩ := (SlC.of_owns hown7).slice
        have hne7 := HOG.out
        have hcr7 : CR W3.heap.size wr.heap.size WA W7 := ⟨(hg7.block _ (by omega) (hne7 _ (.inl rfl))).trans HCR6.out.k, (hg7.block _ (by omega) (hne7 _ (.inr rfl))).trans HCR6.out.y⟩
        refine ⟨hcr7, ?_⟩
        have hk7 := (hg7.block _ (show W3.heap.size < _ by omega) (hne7 _ (.inl rfl))).trans HK6.out
        have hb7 : Below W3.heap.size W3 W7 := below_app HB36.out HO6.out hg7 (by omega) (by omega)
        have hs7 := hg7.size
        have hfz7 := frozen_of_row W7 W3.heap.size 11 _ _ hk7
        have hc7 : W7.cell? ⟨W3.heap.size, 11, none⟩ = some (.slice av M cv) := row_cell hk7 11 _ rfl
        clear hg7 hsn7 hne7 hcr7
        have HK7 := Go.Lib.hid hk7
        have HB37 := Go.Lib.hid hb7
        have HO7 := Go.Lib.hid hown7
        clear hk7 hb7 hown7
        iterate 1 (refine Go.Mix.mixT_step rfl (fun K hK => ?_); have HKK := Go.Lib.hid hK; clear hK; go_simp; refine HKK.out _ _ ?_; clear HKK K)
        refine Go.Mix.mixT_last rfl (fun K hK => ?_)
        have HKK := Go.Lib.hid hK
        clear hK
        go_simp
        refine HKK.out _ _ ?_
        clear HKK K
        have hkF := heap_setCell_same W7 W3.heap.size 11 _ _ (.slice a7 (M + 1) c7) HK7.out
        have hoF := owns_setCellT HO7.out (i := 11) HK7.out (by decide) (.slice a7 (M + 1) c7)
        have hbF := HB37.out.setCell (p := ⟨W3.heap.size, 11, none⟩) (Nat.le_refl _) (.slice a7 (M + 1) c7)
        have hszF : (W7.setCell ⟨W3.heap.size, 11, none⟩ (.slice a7 (M + 1) c7)).heap.size = W7.heap.size := by simp
        have HKF := Go.Lib.hid hkF
        have HOF := Go.Lib.hid hoF
        have HBF := Go.Lib.hid hbF
        clear hkF hoF hbF
        clear hc7 hfz7
        go_wp2_with fail
        go_roundw
        case rel => exact ⟨k + 1, _, by go_num, by omega, HKF.out, by rw [HF1.out, List.length_append, HSN.out, HM.out]; exact HOF.out, HBF.out, by omega⟩
        case measure => simp [intOf]; omega
    · have hke : k = N := by omega
      have hlt2 : ¬ (k : Int) < (N : Int) := by omega
      subst hke
      have g2 := (hbr.block _ (by omega)).trans ((HXW3.out.block _ hlX).trans G2.out)
      have hqs := HSQ.out.below hbr
      have hss := HSS.out.below hbr
      have hsaa := owns_below HSA.out hbr
      have hone9 : (sayC false 0 (.slice aq 1 cq) (.slice aa 0 ca) (.slice ax NL cx) (.slice av (adK zn sv k).length cv)).all (·.oneCell') = true := by simp [Value.oneCell']
      obtain ⟨fs, hu⟩ := undMsg
      generalize hL : adK zn sv k = L at *
      generalize hM : L.length = M at *
      have HKB := Go.Lib.hid hkb
      have HOWN := Go.Lib.hid hown
      have HBW := Go.Lib.hid hbw
      have HG2 := Go.Lib.hid g2
      have HQS := Go.Lib.hid hqs
      have HSSF := Go.Lib.hid hss
      have HSAA := Go.Lib.hid hsaa
      have HONE9 := Go.Lib.hid hone9
      have HBR := Go.Lib.hid hbr
      have HOG := Go.Lib.hid hog
      have HL0 := Go.Lib.hid hL
      have HM := Go.Lib.hid hM
      have HUD := Go.Lib.hid hu
      clear hkb hown hbw g2 hqs hss hsaa hone9 hbr hog hL hM hu
      go_wp2_with (first | (refine wpList_load_row rfl 34 (.tmp 7) rfl W3.heap.size rfl _ _ (0, 0) _ HKB.out HUD.out rfl infoMsg ?_) | (refine wpList_store_row rfl 34 (.tmp 6) (.tmp 42) rfl X1.heap.size _ rfl rfl _ _ HG2.out infoMsg rfl HONE9.out ?_))
      refine ret_msg (m := R) (q := .slice aq 1 cq) (an := .slice aa 0 ca) (s := .slice ax NL cx) (d := .slice av M cv) rfl rfl rfl ?_ ?_
      · rw [HDEF.out]
        exact setRow_heap _ _ _ _ _ _ HG2.out
      · refine ⟨_, _, _, _, rfl, ?_, below_setRow HBW.out hwX1 _⟩
        rw [HDEF.out]
        refine ⟨HQS.out.setRow HG2.out (by decide), SlT.of_owns (owns_setRowT HSAA.out HG2.out (by decide) _), ?_, ?_⟩
        · have := HSSF.out.setRow HG2.out (by decide) (new := sayC false 0 (.slice aq 1 cq) (.slice aa 0 ca) (.slice ax NL cx) (.slice av M cv))
          show SlT _ _ 5 _ NS.length _
          rw [HNS2.out]
          exact this
        · have := owns_setRowT HOWN.out HG2.out (by decide) (sayC false 0 (.slice aq 1 cq) (.slice aa 0 ca) (.slice ax NL cx) (.slice av M cv))
          show SlT _ _ 5 _ L.length (encR L)
          rw [HM.out]
          exact SlT.of_owns this
end Go.Proofs.YtkpcmnckdappnaaGreat

/- Tree: the contract of serve (what a zone says of a name that is in it). -/
namespace Go.Proofs.YtkpcmnckdappnaaGreat
open Go.RowKit Go.Sort Go.Lib
set_option maxRecDepth 100000
set_option linter.unusedVariables false
set_option linter.unusedSimpArgs false

theorem SlT.zero {w w' : World} {e sz : Nat} {v : Value} {cs : List Value} (h : SlT w e sz v 0 cs) : SlT w' e sz v 0 cs := by
  obtain ⟨⟨h1, a, cap, rfl, h2, h3, hz, h4⟩, h5⟩ := h
  exact ⟨⟨h1, a, cap, rfl, h2, h3, hz, .inl rfl⟩, fun x m c hv hm => by simp only [Value.slice.injEq] at hv; omega⟩
theorem SlT.kept {w w' : World} {e sz n : Nat} {v : Value} {cs : List Value} (h : SlT w e sz v n cs) {B e2 s2 n2 : Nat} {v2 : Value} {x2 : List Value} (ho : w.ownsRow B e2 s2 v2 n2 x2) (hne : e2 ≠ e) (hg : w.grownBy w' v2.ownBlock) : SlT w' e sz v n cs := by
  obtain ⟨⟨h1, a, cap, rfl, h2, h3, hz, h4⟩, h5⟩ := h
  have key : ∀ x, a = some x → 0 < n → some x.block ≠ v2.ownBlock := fun x hx hn e' => by
    obtain ⟨xs, fr', hh⟩ := h5 x n cap (by rw [hx]) hn
    rcases ho.2 with ⟨rfl, _⟩ | ⟨g, c2, cur, rfl, _, hgh, _⟩
    · simp [Value.ownBlock] at e'
    · simp only [Value.ownBlock, Option.some.injEq] at e'
      rw [e', hgh] at hh
      simp only [Option.some.injEq, Obj.cells.injEq] at hh
      exact hne hh.2.1
  refine ⟨⟨h1, a, cap, rfl, h2, h3, hz, ?_⟩, fun x m c hv hm => ?_⟩
  · rcases h4 with h4 | ⟨b, off, ha, hlt, h4⟩
    · exact .inl h4
    · by_cases hn : n = 0
      · exact .inl hn
      · refine .inr ⟨b, off, ha, Nat.lt_of_lt_of_le hlt hg.size, fun j hj => ?_⟩
        have hkk := key _ ha (by omega)
        have hb2 := hg.block b hlt hkk
        rw [← h4 j hj]
        simp only [World.cell?]
        rw [hb2]
  · obtain ⟨xs, fr', hh⟩ := h5 x m c hv hm
    simp only [Value.slice.injEq] at hv
    obtain ⟨rfl, rfl, rfl⟩ := hv
    exact ⟨xs, fr', (hg.block _ (Array.getElem?_eq_some_iff.1 hh).1 (key _ rfl hm)).trans hh⟩

theorem chainG_good (T : List Zp) (z : Zp) (t : Int) (hof : ∀ n, ∀ r ∈ ofP z n 5, RROk r) : ∀ (f : Nat) (L : List Rc.RR) (n : List UInt8) (met : List (List UInt8)), (∀ r ∈ L, RROk r) → n.length ≤ maxLen → L.length + f ≤ 8 →
    (chainG T z t f L n met).1.length ≤ 8 ∧ (chainG T z t f L n met).2.1.length ≤ maxLen ∧ ∀ r ∈ (chainG T z t f L n met).1, RROk r
  | 0, L, n, met, hL, hn, hf => by
    rw [chainG_0]
    exact ⟨by simpa using hf, hn, hL⟩
  | f + 1, L, n, met, hL, hn, hf => by
    by_cases h5 : t = 5
    · rw [chainG_5 T z t _ L n met h5]
      exact ⟨by simp only; omega, hn, hL⟩
    · rw [chainG_s T z t f L n met h5]
      have ho := hof n
      cases hO : ofP z n 5 with
      | nil => exact ⟨by simp only; omega, hn, hL⟩
      | cons x xs =>
        rw [hO] at ho
        have hx := ho x (List.mem_cons_self ..)
        have hL2 : ∀ r ∈ L ++ [x], RROk r := fun r hr => by
          rcases List.mem_append.1 hr with h | h
          · exact hL r h
          · rw [List.mem_singleton.1 h]; exact hx
        have hl2 : (L ++ [x]).length = L.length + 1 := by simp
        simp only
        split
        · exact ⟨by simp only; omega, targP_len hx, hL2⟩
        · split
          · exact ⟨by simp only; omega, targP_len hx, hL2⟩
          · exact chainG_good T z t hof f _ _ _ hL2 (targP_len hx) (by omega)
theorem chainP_good (T : List Zp) (z : Zn) (n : List UInt8) (t : Int) (hzo : ZnOk z) (hn : n.length ≤ maxLen) :
    (chainP T z.p n t).1.length ≤ 8 ∧ (chainP T z.p n t).2.1.length ≤ maxLen ∧ ∀ r ∈ (chainP T z.p n t).1, RROk r :=
  chainG_good T z.p t (fun n => (ofP_good hzo n 5).2) 8 [] n _ (fun r h => by cases h) hn (by simp)
theorem inP_f {T : List Zp} {z : Zp} {n e : List UInt8} {t : Int} {l : List Rc.RR} (h : chainP T z n t = (l, e, false)) : inP T z n t = ⟨0, true, l, [], []⟩ := by unfold inP; rw [h]
theorem inP_0 {T : List Zp} {z : Zp} {n e : List UInt8} {t : Int} {l : List Rc.RR} (h : chainP T z n t = (l, e, true)) (h0 : ofP z e t = []) : inP T z n t = ⟨if hasP T z e then 0 else 3, true, l, [soaP z], []⟩ := by unfold inP; rw [h]; simp only; rw [h0]
theorem inP_1 {T : List Zp} {z : Zp} {n e : List UInt8} {t : Int} {l : List Rc.RR} (h : chainP T z n t = (l, e, true)) (h0 : ¬ ofP z e t = []) : inP T z n t = ⟨0, true, l ++ ofP z e t, [], []⟩ := by
  unfold inP; rw [h]
  cases hO : ofP z e t with
  | nil => exact absurd hO h0
  | cons x xs => simp [hO]
set_option maxHeartbeats 16000000 in
theorem serveI_any (tb : Nat) (T : List Zn) (z : Zn) (b o : Nat) (q : Qn) (w : World) (ht : TRo tb T w) (hz : ZP w b o z) (hzo : ZnOk z) (hn : q.name.length ≤ maxLen) :
    Calls Tryz.prog 37 #[.pointer (some ⟨tb, 0, none⟩), .pointer (some ⟨b, o, none⟩), qV q] w (RetM w (sayN q (inP (T.map Zn.p) z.p q.name q.ty))) := by
  have hch := fun W (h : Below w.heap.size w W) => chain_any tb T z b o q.name q.ty q.cl W (ht.below h) (hz.below h) hzo hn
  have hask := fun W => ask0_any q W
  obtain ⟨hg1, hg2, _⟩ := chainP_good (T.map Zn.p) z q.name q.ty hzo hn
  have hrep := fun q1 a s d v2 W an hm h2 h3 => rep0_any q q1 a s d 0 v2 (.slice none 0 0) an [] W hm h2 (SlC.nil _ _) h3 (by simp)
  have hF := fun l e => inP_f (T := T.map Zn.p) (z := z.p) (n := q.name) (t := q.ty) (l := l) (e := e)
  have hT0 := fun l e => inP_0 (T := T.map Zn.p) (z := z.p) (n := q.name) (t := q.ty) (l := l) (e := e)
  have hT1 := fun l e => inP_1 (T := T.map Zn.p) (z := z.p) (n := q.name) (t := q.ty) (l := l) (e := e)
  have hof := fun nn W (h : Below w.heap.size w W) (hl : nn.length ≤ maxLen) => of_any z b o nn q.ty W (hz.below h) hzo hl
  have hogd := fun nn => (ofP_good hzo nn q.ty).1
  have hso := fun W (h : Below w.heap.size w W) => soa_any z b o W (hz.below h) hzo
  have hhs := fun nn W (h : Below w.heap.size w W) (hl : nn.length ≤ maxLen) => has_any tb T z b o nn W (ht.below h) (hz.below h) hzo hl
  generalize inP (T.map Zn.p) z.p q.name q.ty = R at *
  generalize chainP (T.map Zn.p) z.p q.name q.ty = CH at *
  obtain ⟨l, en, inn⟩ := CH
  simp only at hg1 hg2 hch
  have hF := hF l en
  have hT0 := hT0 l en
  have hT1 := hT1 l en
  have hof := fun W h => hof en W h hg2
  have hogd := hogd en
  have hhs := fun W h => hhs en W h hg2
  generalize ofP z.p en q.ty = O at *
  generalize soaP z.p = SO at *
  generalize hasP (T.map Zn.p) z.p en = hs at *
  obtain ⟨X1, hX1⟩ : ∃ X, w.alloc (.cells #[.string (mk q.name), .int .i64 q.ty, .int .i64 q.cl] 29) = X := ⟨_, rfl⟩
  obtain ⟨X, hX⟩ : ∃ X, X1.alloc (.cells zeroC 34) = X := ⟨_, rfl⟩
  have g1 : X1.heap[w.heap.size]? = some (.cells #[.string (mk q.name), .int .i64 q.ty, .int .i64 q.cl] 29 (0, 0)) := by rw [← hX1]; exact World.alloc_heap_new _ _
  have b1 : Below w.heap.size w X1 := by rw [← hX1]; exact (Below.refl _ w).alloc (Nat.le_refl _) _
  have g2 : X.heap[X1.heap.size]? = some (.cells zeroC 34 (0, 0)) := by rw [← hX]; exact World.alloc_heap_new _ _
  have b2' : Below X1.heap.size X1 X := by rw [← hX]; exact (Below.refl _ X1).alloc (Nat.le_refl _) _
  have hXX : X.heap.size = X1.heap.size + 1 := by rw [← hX]; simp
  have hbX := b1.trans (b2'.mono b1.size)
  have g1' := heap_later b2' g1
  have k0 : ∀ W, Below X.heap.size X W → W.cell? ⟨w.heap.size, 0, none⟩ = some (.string (mk q.name)) := fun W h => row_cell (heap_later h g1') 0 _ rfl
  have k1 : ∀ W, Below X.heap.size X W → W.cell? ⟨w.heap.size, 1, none⟩ = some (.int .i64 q.ty) := fun W h => row_cell (heap_later h g1') 1 _ rfl
  have k2 : ∀ W, Below X.heap.size X W → W.cell? ⟨w.heap.size, 2, none⟩ = some (.int .i64 q.cl) := fun W h => row_cell (heap_later h g1') 2 _ rfl
  have hwX1 := b1.size
  have hlX := (Array.getElem?_eq_some_iff.1 g2).1
  have k0x := k0 X (Below.refl _ _)
  have k1x := k1 X (Below.refl _ _)
  have k2x := k2 X (Below.refl _ _)
  obtain ⟨fs, hud⟩ := undMsg
  clear ht hz hzo g1 b1 b2' g1'
  generalize hLl : l.length = M at *
  have HCH := Go.Lib.hid hch
  have HASK := Go.Lib.hid hask
  have HREP := Go.Lib.hid hrep
  have HF := Go.Lib.hid hF
  have HT0 := Go.Lib.hid hT0
  have HT1 := Go.Lib.hid hT1
  have HOF := Go.Lib.hid hof
  have HSO := Go.Lib.hid hso
  have HHS := Go.Lib.hid hhs
  have HBX := Go.Lib.hid hbX
  have G2 := Go.Lib.hid g2
  have HK0 := Go.Lib.hid k0
  have HK1 := Go.Lib.hid k1
  have HK2 := Go.Lib.hid k2
  have HLL := Go.Lib.hid hLl
  have HUD := Go.Lib.hid hud
  clear hch hask hrep hF hT0 hT1 hof hso hhs hbX g2 k0 k1 k2 hLl hud
  go_enter Tryz.func37, Tryz.ntmps37
  go_wp2_with fail
  refine (HCH.out X HBX.out).mono ?_; rintro e W1 ⟨v1, rfl, hv1, hx1⟩
  have hb1 := HBX.out.trans (hx1.mono HBX.out.size)
  have k0x := HK0.out W1 hx1
  have k1x := HK1.out W1 hx1
  have k2x := HK2.out W1 hx1
  obtain ⟨al, cl, rfl, _, _⟩ := hv1.slice
  have hw1 := hx1.size
  clear hX hX1
  have HV1 := Go.Lib.hid hv1
  have HB1 := Go.Lib.hid hb1
  have HX1 := Go.Lib.hid hx1
  clear hv1 hb1 hx1
  go_wp2_with fail
  refine (HASK.out W1).mono ?_; rintro e W2 ⟨q1, a1, s1, d1, rfl, hm1, hx2⟩
  have hb2 := HB1.out.trans (hx2.mono HB1.out.size)
  have hX2 := HX1.out.trans (hx2.mono HX1.out.size)
  have hr2 := HREP.out q1 a1 s1 d1 (.slice al l.length cl) W2 l hm1 (HV1.out.below hx2 (Nat.le_refl _)) (by rw [HLL.out]; omega)
  rw [HLL.out] at hr2
  have hw2 := hX2.size
  clear hx2 hm1
  rw [HLL.out]
  have HB2 := Go.Lib.hid hb2
  have HX2 := Go.Lib.hid hX2
  have HR2 := Go.Lib.hid hr2
  clear hb2 hX2 hr2
  go_wp2_with fail
  refine HR2.out.mono ?_; rintro e W3 ⟨aq, cq, aa, ca, ax, cx, rfl, hsq, hsa, hss, hx3⟩
  simp only [List.length_nil] at hss
  have hb3 := HB2.out.trans (hx3.mono HB2.out.size)
  have hX3 := HX2.out.trans (hx3.mono HX2.out.size)
  have hw23 := hx3.size
  have hw3 := hX3.size
  obtain ⟨Y, hY⟩ : ∃ Y, W3.alloc (.cells (sayC false 0 (.slice aq 1 cq) (.slice aa M ca) (.slice ax 0 cx) (.slice none 0 0)) 34) = Y := ⟨_, rfl⟩
  have gY : Y.heap[W3.heap.size]? = some (.cells (sayC false 0 (.slice aq 1 cq) (.slice aa M ca) (.slice ax 0 cx) (.slice none 0 0)) 34 (0, 0)) := by rw [← hY]; exact World.alloc_heap_new _ _
  have hbY : Below W3.heap.size W3 Y := by rw [← hY]; exact (Below.refl _ W3).alloc (Nat.le_refl _) _
  have hyz : Y.heap.size = W3.heap.size + 1 := by rw [← hY]; simp
  have hone : (sayC false 0 (.slice aq 1 cq) (.slice aa M ca) (.slice ax 0 cx) (.slice none 0 0)).all (·.oneCell') = true := by simp [Value.oneCell']
  have hc3 : Y.cell? ⟨W3.heap.size, 3, none⟩ = some (.bool false) := row_cell gY 3 _ rfl
  have hfz3 := frozen_of_row Y W3.heap.size 3 _ _ gY
  have hno : some W3.heap.size ≠ (Value.slice aa M ca).ownBlock := fun e => by have := (hsa.lt _ e.symm).2; omega
  have gF := heap_setCell_same Y W3.heap.size 3 _ _ (.bool true) gY
  have hsaF := owns_setCellT (owns_below hsa hbY) (i := 3) gY (by decide) (.bool true)
  have hsqF := (hsq.below hbY).setCell (i := 3) (u := .bool true) gY (by decide)
  have hbF := (hb3.trans (hbY.mono hb3.size)).setCell (p := ⟨W3.heap.size, 3, none⟩) (show w.heap.size ≤ W3.heap.size by omega) (.bool true)
  have hXF := (hX3.trans (hbY.mono hX3.size)).setCell (p := ⟨W3.heap.size, 3, none⟩) hw3 (.bool true)
  have hszF : (Y.setCell ⟨W3.heap.size, 3, none⟩ (.bool true)).heap.size = Y.heap.size := by simp
  have k1f := HK1.out _ hXF
  have hgF := heap_later hXF G2.out
  clear hx3 hsq hsa k0x k1x k2x
  have HB3 := Go.Lib.hid hb3
  have HX3 := Go.Lib.hid hX3
  have GY := Go.Lib.hid gY
  have HBY := Go.Lib.hid hbY
  have HONE := Go.Lib.hid hone
  have HSS := Go.Lib.hid hss
  have HKF := Go.Lib.hid gF
  have HSA := Go.Lib.hid hsaF
  have HSQ := Go.Lib.hid hsqF
  have HBF := Go.Lib.hid hbF
  have HXF := Go.Lib.hid hXF
  have HGF := Go.Lib.hid hgF
  have HNO := Go.Lib.hid hno
  clear hb3 hX3 gY hbY hone hss gF hsaF hsqF hbF hXF hgF hno
  cases inn with
  | false =>
    have hR := HF.out rfl
    subst hR
    clear k1f
    have hone9 : (sayC true 0 (.slice aq 1 cq) (.slice aa M ca) (.slice ax 0 cx) (.slice none 0 0)).all (·.oneCell') = true := by simp [Value.oneCell']
    have HONE9 := Go.Lib.hid hone9
    clear hone9
    go_wp2_with (first | (refine wpList_store_row rfl 34 (.tmp 10) (.tmp 23) rfl W3.heap.size _ rfl rfl _ _ (World.alloc_heap_new _ _) infoMsg rfl HONE.out ?_; rw [World.setRow_alloc_new, hY]) | (refine wpList_load_row rfl 34 (.tmp 10) rfl W3.heap.size rfl _ _ (0, 0) _ HKF.out HUD.out rfl infoMsg ?_) | (refine wpList_store_row rfl 34 (.tmp 6) (.tmp 27) rfl X1.heap.size _ rfl rfl _ _ HGF.out infoMsg rfl HONE9.out ?_))
    refine ret_msg (m := sayN q ⟨0, true, l, [], []⟩) (q := .slice aq 1 cq) (an := .slice aa M ca) (s := .slice ax 0 cx) (d := .slice none 0 0) rfl rfl rfl (setRow_heap _ _ _ _ _ _ HGF.out) ⟨_, _, _, _, rfl, ⟨HSQ.out.setRow HGF.out (by decide), ?_, HSS.out.zero, SlT.nil _ _ _⟩, below_setRow HBF.out hwX1 _⟩
    show SlT _ _ 5 _ l.length _
    rw [HLL.out]
    exact SlT.of_owns (owns_setRowT HSA.out HGF.out (by decide) _)
  | true =>
    go_wp2_with (first | (refine wpList_store_row rfl 34 (.tmp 10) (.tmp 23) rfl W3.heap.size _ rfl rfl _ _ (World.alloc_heap_new _ _) infoMsg rfl HONE.out ?_; rw [World.setRow_alloc_new, hY]))
    clear hY hc3 hfz3 k1f
    generalize Y.setCell ⟨W3.heap.size, 3, none⟩ (.bool true) = Z at *
    refine (HOF.out Z HBF.out).mono ?_; rintro e W6 ⟨v6, rfl, hv6, hx6⟩
    obtain ⟨a6, c6, rfl, _, _⟩ := (SlC.of_owns hv6).slice
    have hsa6 := owns_below HSA.out hx6
    have hsq6 := HSQ.out.below hx6
    have hk6 := heap_later hx6 HKF.out
    have hb6 := HBF.out.trans (hx6.mono HBF.out.size)
    have hX6 := HXF.out.trans (hx6.mono HXF.out.size)
    have hc9 : W6.cell? ⟨W3.heap.size, 9, none⟩ = some (.slice aa M ca) := row_cell hk6 9 _ rfl
    have hsz6 := hx6.size
    have hO1 := one_rrs O
    generalize hOl : O.length = K at *
    clear hx6
    have hXle : X.heap.size ≤ W2.heap.size := hw2
    have hX6s := hX6.size
    have hm6 : M ≤ 8 := by omega
    have HV6 := Go.Lib.hid hv6
    have HSA6 := Go.Lib.hid hsa6
    have HSQ6 := Go.Lib.hid hsq6
    have HK6 := Go.Lib.hid hk6
    have HB6 := Go.Lib.hid hb6
    have HX6 := Go.Lib.hid hX6
    have HO1 := Go.Lib.hid hO1
    have HOL := Go.Lib.hid hOl
    clear hv6 hsa6 hsq6 hk6 hb6 hX6 hO1 hOl
    by_cases hK : K = 0
    · have hO : O = [] := List.eq_nil_of_length_eq_zero (by rw [HOL.out]; exact hK)
      have hR := HT0.out (by trivial) hO
      subst hK
      clear HOL
      subst hO
      obtain ⟨on, ot, oc, ol, od⟩ := SO
      simp only [rrV] at HSO
      have hone8 := one_rr ⟨on, ot, oc, ol, od⟩
      have HR := Go.Lib.hid hR
      have HONE8 := Go.Lib.hid hone8
      clear hR hone8
      go_wp2_with (at_builtin; go_loud (refine wpList_app eiRR (.tmp 34) (.tmp 35) rfl rfl W2.heap.size rfl rfl HSA6.out (SlC.of_owns HV6.out) HO1.out (by unfold maxLen; omega) (by omega) (by omega) ?_; intro v7 W7 hown7 hg7; obtain ⟨a7, c7, rfl, _, _⟩ := (SlC.of_owns hown7).slice; have hk7 := (hg7.block _ (by omega) HNO.out).trans HK6.out; have hc7 : W7.cell? ⟨W3.heap.size, 9, none⟩ = some (.slice aa M ca) := row_cell hk7 9 _ rfl; have hf7 := frozen_of_row W7 W3.heap.size 9 _ _ hk7; have hb7 := below_app HB6.out HSA6.out hg7 (by omega) (by omega); have hX7 := below_app HX6.out HSA6.out hg7 hXle hX6s; have hsq7 := HSQ6.out.kept HSA6.out (by decide) hg7; have HG7 := Go.Lib.hid hg7; have HK7 := Go.Lib.hid hk7; have HOWN7 := Go.Lib.hid hown7; have HB7 := Go.Lib.hid hb7; have HX7 := Go.Lib.hid hX7; have HSQ7 := Go.Lib.hid hsq7; clear hg7 hk7 hown7 hb7 hX7 hsq7))
      have gV := heap_setCell_same W7 W3.heap.size 9 _ _ (.slice a7 (M + 0) c7) HK7.out
      have hoV := owns_setCellT HOWN7.out (i := 9) HK7.out (by decide) (.slice a7 (M + 0) c7)
      have hqV := HSQ7.out.setCell (i := 9) (u := .slice a7 (M + 0) c7) HK7.out (by decide)
      have hbV := HB7.out.setCell (p := ⟨W3.heap.size, 9, none⟩) (show w.heap.size ≤ W3.heap.size by omega) (.slice a7 (M + 0) c7)
      have hXV := HX7.out.setCell (p := ⟨W3.heap.size, 9, none⟩) hw3 (.slice a7 (M + 0) c7)
      have hszV : (W7.setCell ⟨W3.heap.size, 9, none⟩ (.slice a7 (M + 0) c7)).heap.size = W7.heap.size := by simp
      have hs7 := HG7.out.size
      simp only [Nat.add_zero] at gV hoV hqV hbV hXV hszV ⊢
      clear hc7 hf7
      generalize W7.setCell ⟨W3.heap.size, 9, none⟩ (.slice a7 M c7) = V at *
      refine (HSO.out V hbV).mono ?_; rintro e W9 ⟨rfl, hx9⟩
      have g9 := heap_later hx9 gV
      have ho9 := owns_below hoV hx9
      have hq9 := hqV.below hx9
      have hb9 := hbV.trans (hx9.mono hbV.size)
      have hX9 := hXV.trans (hx9.mono hXV.size)
      have hsz9 := hx9.size
      have hal : Below W9.heap.size W9 (W9.alloc (.cells #[.string (mk on), .int .i64 ot, .int .i64 oc, .int .i64 ol, .string (mk od)] 43)) := (Below.refl _ W9).alloc (Nat.le_refl _) _
      have gA := heap_later hal g9
      have hoA := owns_below ho9 hal
      have hqA := hq9.below hal
      have hbA := hb9.trans (hal.mono hb9.size)
      have hXA := hX9.trans (hal.mono hX9.size)
      have hsA := hal.size
      have hnA : SlT (W9.alloc (.cells #[.string (mk on), .int .i64 ot, .int .i64 oc, .int .i64 ol, .string (mk od)] 43)) 43 5 (.slice (some ⟨W9.heap.size, 0, none⟩) 1 1) 1 (encR [⟨on, ot, oc, ol, od⟩]) := slt_new W9 5 1 43 (encR [⟨on, ot, oc, ol, od⟩]) rfl (by decide)
      have hcA : (W9.alloc (.cells #[.string (mk on), .int .i64 ot, .int .i64 oc, .int .i64 ol, .string (mk od)] 43)).cell? ⟨W3.heap.size, 10, none⟩ = some (.slice ax 0 cx) := row_cell gA 10 _ rfl
      have hfA := frozen_of_row _ W3.heap.size 10 _ _ gA
      have gB := heap_setCell_same _ W3.heap.size 10 _ _ (.slice (some ⟨W9.heap.size, 0, none⟩) 1 1) gA
      have hoB := owns_setCellT hoA (i := 10) gA (by decide) (.slice (some ⟨W9.heap.size, 0, none⟩) 1 1)
      have hqB := hqA.setCell (i := 10) (u := .slice (some ⟨W9.heap.size, 0, none⟩) 1 1) gA (by decide)
      have hnB := hnA.setCell (i := 10) (u := .slice (some ⟨W9.heap.size, 0, none⟩) 1 1) gA (by decide)
      have hbB := hbA.setCell (p := ⟨W3.heap.size, 10, none⟩) (show w.heap.size ≤ W3.heap.size by omega) (.slice (some ⟨W9.heap.size, 0, none⟩) 1 1)
      have hXB := hXA.setCell (p := ⟨W3.heap.size, 10, none⟩) hw3 (.slice (some ⟨W9.heap.size, 0, none⟩) 1 1)
      clear gV hoV hqV hbV hXV g9 ho9 hq9 hb9 hX9 hx9 hal gA hoA hqA hbA hXA hnA
      have GB2 := Go.Lib.hid gB
      have HOB := Go.Lib.hid hoB
      have HQB := Go.Lib.hid hqB
      have HNB := Go.Lib.hid hnB
      have HBB := Go.Lib.hid hbB
      have HXB := Go.Lib.hid hXB
      clear gB hoB hqB hnB hbB hXB
      go_wp2_with fail
      have hcA := hcA
      clear hcA hfA
      have hhs := HHS.out _ HBB.out
      generalize (W9.alloc (.cells #[.string (mk on), .int .i64 ot, .int .i64 oc, .int .i64 ol, .string (mk od)] 43)).setCell ⟨W3.heap.size, 10, none⟩ (.slice (some ⟨W9.heap.size, 0, none⟩) 1 1) = U at *
      refine hhs.mono ?_; rintro e WA ⟨rfl, hxA⟩
      have gC := heap_later hxA GB2.out
      have hoC := owns_below HOB.out hxA
      have hqC := HQB.out.below hxA
      have hnC := HNB.out.below hxA
      have hbC := HBB.out.trans (hxA.mono HBB.out.size)
      have hXC := HXB.out.trans (hxA.mono HXB.out.size)
      have hgC := heap_later hXC G2.out
      have hsC := hbC.size
      clear hxA
      cases hs with
      | true =>
        simp only [if_true] at HR
        have hone9 : (sayC true 0 (.slice aq 1 cq) (.slice a7 M c7) (.slice (some ⟨W9.heap.size, 0, none⟩) 1 1) (.slice none 0 0)).all (·.oneCell') = true := by simp [Value.oneCell']
        have GC := Go.Lib.hid gC
        have HOC := Go.Lib.hid hoC
        have HQC := Go.Lib.hid hqC
        have HNC := Go.Lib.hid hnC
        have HBC := Go.Lib.hid hbC
        have HXC := Go.Lib.hid hXC
        have HGC := Go.Lib.hid hgC
        have HONE9 := Go.Lib.hid hone9
        clear gC hoC hqC hnC hbC hXC hgC hone9
        go_wp2_with (first | (refine wpList_load_row rfl 34 (.tmp 10) rfl W3.heap.size rfl _ _ (0, 0) _ GC.out HUD.out rfl infoMsg ?_) | (refine wpList_store_row rfl 34 (.tmp 6) (.tmp 51) rfl X1.heap.size _ rfl rfl _ _ HGC.out infoMsg rfl HONE9.out ?_))
        rw [HR.out]
        refine ret_msg (m := sayN q ⟨0, true, l, [⟨on, ot, oc, ol, od⟩], []⟩) (q := .slice aq 1 cq) (an := .slice a7 M c7) (s := .slice (some ⟨W9.heap.size, 0, none⟩) 1 1) (d := .slice none 0 0) rfl rfl rfl (setRow_heap _ _ _ _ _ _ HGC.out) ⟨_, _, _, _, rfl, ⟨HQC.out.setRow HGC.out (by decide), ?_, HNC.out.setRow HGC.out (by decide), SlT.nil _ _ _⟩, below_setRow HBC.out hwX1 _⟩
        show SlT _ _ 5 _ l.length _
        rw [HLL.out]
        have := owns_setRowT HOC.out HGC.out (by decide) (sayC true 0 (.slice aq 1 cq) (.slice a7 M c7) (.slice (some ⟨W9.heap.size, 0, none⟩) 1 1) (.slice none 0 0))
        simp only [encR, List.flatMap_nil, List.append_nil] at this
        exact SlT.of_owns this
      | false =>
        simp only [Bool.false_eq_true, if_false] at HR
        have hone9 : (sayC true 3 (.slice aq 1 cq) (.slice a7 M c7) (.slice (some ⟨W9.heap.size, 0, none⟩) 1 1) (.slice none 0 0)).all (·.oneCell') = true := by simp [Value.oneCell']
        have hc9 : WA.cell? ⟨W3.heap.size, 7, none⟩ = some (.int .i64 0) := row_cell gC 7 _ rfl
        have hf9 := frozen_of_row WA W3.heap.size 7 _ _ gC
        have gD := heap_setCell_same WA W3.heap.size 7 _ _ (.int .i64 3) gC
        have hoD := owns_setCellT hoC (i := 7) gC (by decide) (.int .i64 3)
        have hqD := hqC.setCell (i := 7) (u := .int .i64 3) gC (by decide)
        have hnD := hnC.setCell (i := 7) (u := .int .i64 3) gC (by decide)
        have hbD := hbC.setCell (p := ⟨W3.heap.size, 7, none⟩) (show w.heap.size ≤ W3.heap.size by omega) (.int .i64 3)
        have hXD := hXC.setCell (p := ⟨W3.heap.size, 7, none⟩) hw3 (.int .i64 3)
        have hgD := heap_later hXD G2.out
        clear gC hoC hqC hnC hbC hXC hgC
        have GC := Go.Lib.hid gD
        have HOC := Go.Lib.hid hoD
        have HQC := Go.Lib.hid hqD
        have HNC := Go.Lib.hid hnD
        have HBC := Go.Lib.hid hbD
        have HXC := Go.Lib.hid hXD
        have HGC := Go.Lib.hid hgD
        have HONE9 := Go.Lib.hid hone9
        clear gD hoD hqD hnD hbD hXD hgD hone9
        go_wp2_with (first | (refine wpList_load_row rfl 34 (.tmp 10) rfl W3.heap.size rfl _ _ (0, 0) _ GC.out HUD.out rfl infoMsg ?_) | (refine wpList_store_row rfl 34 (.tmp 6) (.tmp 51) rfl X1.heap.size _ rfl rfl _ _ HGC.out infoMsg rfl HONE9.out ?_))
        rw [HR.out]
        refine ret_msg (m := sayN q ⟨3, true, l, [⟨on, ot, oc, ol, od⟩], []⟩) (q := .slice aq 1 cq) (an := .slice a7 M c7) (s := .slice (some ⟨W9.heap.size, 0, none⟩) 1 1) (d := .slice none 0 0) rfl rfl rfl (setRow_heap _ _ _ _ _ _ HGC.out) ⟨_, _, _, _, rfl, ⟨HQC.out.setRow HGC.out (by decide), ?_, HNC.out.setRow HGC.out (by decide), SlT.nil _ _ _⟩, below_setRow HBC.out hwX1 _⟩
        show SlT _ _ 5 _ l.length _
        rw [HLL.out]
        have := owns_setRowT HOC.out HGC.out (by decide) (sayC true 3 (.slice aq 1 cq) (.slice a7 M c7) (.slice (some ⟨W9.heap.size, 0, none⟩) 1 1) (.slice none 0 0))
        simp only [encR, List.flatMap_nil, List.append_nil] at this
        exact SlT.of_owns this
    · have hO : ¬ O = [] := fun e => hK (by rw [← HOL.out, e]; rfl)
      have hR := HT1.out (by trivial) hO
      have hKb : ((K : Int) == 0) = false := beq_eq_false_iff_ne.2 (by omega)
      have HR := Go.Lib.hid hR
      clear hR
      clear hO hK
      go_wp2_with (first | (at_builtin; go_loud (refine wpList_app eiRR (.tmp 34) (.tmp 35) rfl rfl W2.heap.size rfl rfl HSA6.out (SlC.of_owns HV6.out) HO1.out (by unfold maxLen; omega) (by omega) (by omega) ?_; intro v7 W7 hown7 hg7; obtain ⟨a7, c7, rfl, _, _⟩ := (SlC.of_owns hown7).slice; have hk7 := (hg7.block _ (by omega) HNO.out).trans HK6.out; have hc7 : W7.cell? ⟨W3.heap.size, 9, none⟩ = some (.slice aa M ca) := row_cell hk7 9 _ rfl; have hf7 := frozen_of_row W7 W3.heap.size 9 _ _ hk7; have hb7 := below_app HB6.out HSA6.out hg7 (by omega) (by omega); have hX7 := below_app HX6.out HSA6.out hg7 hXle hX6s; have hsq7 := HSQ6.out.kept HSA6.out (by decide) hg7; have gV : (W7.setCell ⟨W3.heap.size, 9, none⟩ (.slice a7 (M + K) c7)).heap[W3.heap.size]? = some (.cells (sayC true 0 (.slice aq 1 cq) (.slice a7 (M + K) c7) (.slice ax 0 cx) (.slice none 0 0)) 34 (0, 0)) := heap_setCell_same W7 W3.heap.size 9 _ _ (.slice a7 (M + K) c7) hk7; have hoV := owns_setCellT hown7 (i := 9) hk7 (by decide) (.slice a7 (M + K) c7); have hqV := hsq7.setCell (i := 9) (u := .slice a7 (M + K) c7) hk7 (by decide); have hbV := hb7.setCell (p := ⟨W3.heap.size, 9, none⟩) (show w.heap.size ≤ W3.heap.size by omega) (.slice a7 (M + K) c7); have hXV := hX7.setCell (p := ⟨W3.heap.size, 9, none⟩) hw3 (.slice a7 (M + K) c7); have hgV := heap_later hXV G2.out; have GV := Go.Lib.hid gV; have HOV := Go.Lib.hid hoV; have HQV := Go.Lib.hid hqV; have HBV := Go.Lib.hid hbV; have HGV := Go.Lib.hid hgV; clear hg7 hk7 hown7 hb7 hX7 hsq7 gV hoV hqV hbV hXV hgV)) | (refine wpList_load_row rfl 34 (.tmp 10) rfl W3.heap.size rfl _ _ (0, 0) _ GV.out HUD.out rfl infoMsg ?_) | (refine wpList_store_row rfl 34 (.tmp 6) (.tmp 51) rfl X1.heap.size _ rfl rfl _ _ HGV.out infoMsg rfl (show (sayC true 0 (.slice aq 1 cq) (.slice a7 (M + K) c7) (.slice ax 0 cx) (.slice none 0 0)).all (·.oneCell') = true by simp [Value.oneCell']) ?_))
      rw [HR.out]
      refine ret_msg (m := sayN q ⟨0, true, l ++ O, [], []⟩) (q := .slice aq 1 cq) (an := .slice a7 (M + K) c7) (s := .slice ax 0 cx) (d := .slice none 0 0) rfl rfl rfl (setRow_heap _ _ _ _ _ _ HGV.out) ⟨_, _, _, _, rfl, ⟨HQV.out.setRow HGV.out (by decide), ?_, HSS.out.zero, SlT.nil _ _ _⟩, below_setRow HBV.out hwX1 _⟩
      show SlT _ _ 5 _ (l ++ O).length (encR (l ++ O))
      have e1 : encR (l ++ O) = encR l ++ encR O := by unfold encR; rw [List.flatMap_append]
      rw [List.length_append, HLL.out, HOL.out, e1]
      exact SlT.of_owns (owns_setRowT HOV.out HGV.out (by decide) _)
end Go.Proofs.YtkpcmnckdappnaaGreat

/- Tree: the contract of Serve. -/
namespace Go.Proofs.YtkpcmnckdappnaaGreat
open Go.RowKit Go.Sort Go.Lib
set_option maxRecDepth 100000
set_option linter.unusedVariables false
set_option linter.unusedSimpArgs false

theorem serveP_none {T : List Zp} {zone n : List UInt8} {t : Int} (h : findP T zone = none) : serveP T zone n t = ⟨5, false, [], [], []⟩ := by unfold serveP; rw [h]
theorem serveP_out {T : List Zp} {zone n : List UInt8} {t : Int} {z : Zp} (h : findP T zone = some z) (hu : Nm.underN n z.nm = false) : serveP T zone n t = ⟨5, false, [], [], []⟩ := by unfold serveP; rw [h]; simp [hu]
theorem serveP_ref {T : List Zp} {zone n : List UInt8} {t : Int} {z to : Zp} (h : findP T zone = some z) (hu : Nm.underN n z.nm = true) (hb : belowP T z.nm n = some to) : serveP T zone n t = referP z to := by unfold serveP; rw [h]; simp [hu, hb]
theorem serveP_in {T : List Zp} {zone n : List UInt8} {t : Int} {z : Zp} (h : findP T zone = some z) (hu : Nm.underN n z.nm = true) (hb : belowP T z.nm n = none) : serveP T zone n t = inP T z n t := by unfold serveP; rw [h]; simp [hu, hb]
theorem one_MC (m : Msg) {q a s d : Value} (hq : ∃ x n c, q = .slice x n c) (ha : ∃ x n c, a = .slice x n c) (hs : ∃ x n c, s = .slice x n c) (hd : ∃ x n c, d = .slice x n c) : (MC m q a s d).all (·.oneCell') = true := by
  obtain ⟨_, _, _, rfl⟩ := hq
  obtain ⟨_, _, _, rfl⟩ := ha
  obtain ⟨_, _, _, rfl⟩ := hs
  obtain ⟨_, _, _, rfl⟩ := hd
  simp [MC, Value.oneCell']
theorem SlT.one {w : World} {e sz n : Nat} {v : Value} {cs : List Value} (h : SlT w e sz v n cs) : ∃ x n c, v = .slice x n c := by
  obtain ⟨a, c, rfl, _, _⟩ := h.1.slice
  exact ⟨_, _, _, rfl⟩
set_option maxHeartbeats 16000000 in
theorem Serve_any (tb : Nat) (T : List Zn) (zone : List UInt8) (q : Qn) (w : World) (ht : TRo tb T w) (hzl : zone.length ≤ maxLen) (hn : q.name.length ≤ maxLen) :
    Calls Tryz.prog 10 #[.pointer (some ⟨tb, 0, none⟩), .string (mk zone), qV q] w (RetM w (sayN q (serveP (T.map Zn.p) zone q.name q.ty))) := by
  have mixed : Tryz.prog.follows .mixedOrders = true := by kernel_rfl
  have hfi := fun W (h : Below w.heap.size w W) => find_any tb T zone W (ht.below h) hzl
  have hask := fun W => ask0_any q W
  have href := fun q1 a s d W hm => Refuse_any (askN i0 q) q1 a s d 5 W hm (by simp [askN])
  have hbl := fun zn W (h : Below w.heap.size w W) (hl : zn.length ≤ maxLen) => below_any tb T zn q.name W (ht.below h) hl hn
  have hun := fun zn W (hl : zn.length ≤ maxLen) => underM q.name zn W hn hl
  have hrf := fun z to b o b2 o2 W => refer_any z to b o b2 o2 q W
  have hsi := fun z b o W (h : Below w.heap.size w W) hz hzo => serveI_any tb T z b o q W (ht.below h) hz hzo hn
  have e1 := fun h => congrArg (sayN q) (serveP_none (T := T.map Zn.p) (zone := zone) (n := q.name) (t := q.ty) h)
  have e2 := fun z h hu => congrArg (sayN q) (serveP_out (T := T.map Zn.p) (zone := zone) (n := q.name) (t := q.ty) (z := z) h hu)
  have e3 := fun z to h hu hb => congrArg (sayN q) (serveP_ref (T := T.map Zn.p) (zone := zone) (n := q.name) (t := q.ty) (z := z) (to := to) h hu hb)
  have e4 := fun z h hu hb => congrArg (sayN q) (serveP_in (T := T.map Zn.p) (zone := zone) (n := q.name) (t := q.ty) (z := z) h hu hb)
  generalize sayN q (serveP (T.map Zn.p) zone q.name q.ty) = R at *
  generalize T.map Zn.p = TP at *
  obtain ⟨X1, hX1⟩ : ∃ X, w.alloc (.cells #[.string (mk q.name), .int .i64 q.ty, .int .i64 q.cl] 29) = X := ⟨_, rfl⟩
  obtain ⟨X, hX⟩ : ∃ X, X1.alloc (.cells zeroC 34) = X := ⟨_, rfl⟩
  have g1 : X1.heap[w.heap.size]? = some (.cells #[.string (mk q.name), .int .i64 q.ty, .int .i64 q.cl] 29 (0, 0)) := by rw [← hX1]; exact World.alloc_heap_new _ _
  have b1 : Below w.heap.size w X1 := by rw [← hX1]; exact (Below.refl _ w).alloc (Nat.le_refl _) _
  have g2 : X.heap[X1.heap.size]? = some (.cells zeroC 34 (0, 0)) := by rw [← hX]; exact World.alloc_heap_new _ _
  have b2' : Below X1.heap.size X1 X := by rw [← hX]; exact (Below.refl _ X1).alloc (Nat.le_refl _) _
  have hbX := b1.trans (b2'.mono b1.size)
  have g1' := heap_later b2' g1
  have hl1 := (Array.getElem?_eq_some_iff.1 g1').1
  have k0 : ∀ W, Below X.heap.size X W → W.cell? ⟨w.heap.size, 0, none⟩ = some (.string (mk q.name)) := fun W h => row_cell (heap_later h g1') 0 _ rfl
  have k1 : ∀ W, Below X.heap.size X W → W.cell? ⟨w.heap.size, 1, none⟩ = some (.int .i64 q.ty) := fun W h => row_cell (heap_later h g1') 1 _ rfl
  have k2 : ∀ W, Below X.heap.size X W → W.cell? ⟨w.heap.size, 2, none⟩ = some (.int .i64 q.cl) := fun W h => row_cell (heap_later h g1') 2 _ rfl
  have hwX1 := b1.size
  clear ht g1 b1 b2' g1'
  have HFI := Go.Lib.hid hfi
  have HASK := Go.Lib.hid hask
  have HREF := Go.Lib.hid href
  have HBL := Go.Lib.hid hbl
  have HUN := Go.Lib.hid hun
  have HRF := Go.Lib.hid hrf
  have HSI := Go.Lib.hid hsi
  have E1 := Go.Lib.hid e1
  have E2 := Go.Lib.hid e2
  have E3 := Go.Lib.hid e3
  have E4 := Go.Lib.hid e4
  have HBX := Go.Lib.hid hbX
  have G2 := Go.Lib.hid g2
  have HK0 := Go.Lib.hid k0
  have HK1 := Go.Lib.hid k1
  have HK2 := Go.Lib.hid k2
  clear hfi hask href hbl hun hrf hsi e1 e2 e3 e4 hbX g2 k0 k1 k2
  go_enter Tryz.func10, Tryz.ntmps10
  go_wp2_with fail
  refine (HFI.out X HBX.out).mono ?_; rintro e W1 ⟨v1, rfl, hp1, hx1⟩
  have hb1 := HBX.out.trans (hx1.mono HBX.out.size)
  have hsz1 := hx1.size
  have k0x := HK0.out W1 hx1
  have k1x := HK1.out W1 hx1
  have k2x := HK2.out W1 hx1
  clear hX hX1
  generalize hfp : findP TP zone = fp at *
  have HB1 := Go.Lib.hid hb1
  have HX1 := Go.Lib.hid hx1
  clear hb1 hx1
  cases fp with
  | none =>
    have hv : v1 = Value.pointer none := hp1
    subst hv
    have hR := E1.out (by first | rfl | trivial)
    subst hR
    clear hp1 hfp
    have D0 := BelowC.cell (W := W1) k0x (show w.heap.size < W1.heap.size by omega)
    have hne : Nonempty (Subtype (Below W1.heap.size W1)) := ⟨⟨W1, Below.refl _ _⟩⟩
    have HBC := Go.Lib.hid (show Below W1.heap.size W1 W1.drew from (Below.refl W1.heap.size W1).drew)
    go_wp2_with fail
    refine Go.Mix.wp_region_mix (Es := [9]) (Below W1.heap.size W1) mixed (by kernel_rfl) (Below.refl _ _).drew (fun _ => ?_)
    iterate 9 (refine Go.Mix.mix_step rfl (fun K hK => ?_); have HKK := Go.Lib.hid hK; clear hK; go_simp; refine HKK.out _ _ ?_; clear HKK K)
    refine Go.Mix.mix_eff rfl (fun K hK => ?_)
    have HKK := Go.Lib.hid hK
    clear hK
    go_simp
    refine HKK.out _ _ HBC.out ?_
    clear HKK K
    iterate 2 (refine Go.Mix.mix_step rfl (fun K hK => ?_); have HKK := Go.Lib.hid hK; clear hK; go_simp; refine HKK.out _ _ ?_; clear HKK K)
    refine Go.Mix.mix_nil ?_
    clear D0 hne
    have k0y := HK0.out _ (HX1.out.trans (HBC.out.mono HX1.out.size))
    have k1y := HK1.out _ (HX1.out.trans (HBC.out.mono HX1.out.size))
    have k2y := HK2.out _ (HX1.out.trans (HBC.out.mono HX1.out.size))
    clear k0x k1x k2x
    go_wp2_with fail
    refine (HASK.out _).mono ?_; rintro e W8 ⟨q8, a8, s8, d8, rfl, hm8, hx8⟩
    have hb8 := (HB1.out.trans (HBC.out.mono HB1.out.size)).trans (hx8.mono (HB1.out.trans (HBC.out.mono HB1.out.size)).size)
    have hX8 := (HX1.out.trans (HBC.out.mono HX1.out.size)).trans (hx8.mono (HX1.out.trans (HBC.out.mono HX1.out.size)).size)
    have hr8 := HREF.out q8 a8 s8 d8 W8 hm8
    clear hm8 hx8
    have HB8 := Go.Lib.hid hb8
    have HX8 := Go.Lib.hid hX8
    have HR8 := Go.Lib.hid hr8
    clear hb8 hX8 hr8
    go_wp2_with fail
    refine HR8.out.mono ?_; rintro e W9 ⟨qq, aa, ss, dd, rfl, hm9, hx9⟩
    have hb9 := (HB8.out).trans (hx9.mono (HB8.out).size)
    have hg9 := heap_later ((HX8.out).trans (hx9.mono (HX8.out).size)) G2.out
    have hone9 := one_MC (replyN (askN i0 q) 5 [] []) hm9.qs.one hm9.an.one hm9.sv.one hm9.ad.one
    clear hx9
    have HB9 := Go.Lib.hid hb9
    have HG9 := Go.Lib.hid hg9
    have HM9 := Go.Lib.hid hm9
    have HONE9 := Go.Lib.hid hone9
    clear hb9 hg9 hm9 hone9
    go_wp2_with (refine wpList_store_row rfl 34 (.tmp 6) (.tmp 26) rfl X1.heap.size (MC (replyN (askN i0 q) 5 [] []) qq aa ss dd) rfl rfl _ _ HG9.out infoMsg rfl HONE9.out ?_)
    exact ret_msg (m := (replyN (askN i0 q) 5 [] [])) rfl rfl rfl (setRow_heap _ _ _ _ _ _ HG9.out) ⟨_, _, _, _, rfl, HM9.out.setRow HG9.out, below_setRow HB9.out hwX1 _⟩
  | some zp =>
    obtain ⟨z, b, o, hzp, rfl, hzP, hzO⟩ := hp1
    subst hzp
    have c0 := hzP.c0
    have hnm := hzO.nmM
    have hzn : z.p.nm = z.nm := rfl
    have hun := fun W => HUN.out z.nm W hnm
    have D0 := BelowC.cell (W := W1) k0x (show w.heap.size < W1.heap.size by omega)
    have D1 := BelowC.cell (W := W1) c0 hzP.lt
    have hne : Nonempty (Subtype (Below W1.heap.size W1)) := ⟨⟨W1, Below.refl _ _⟩⟩
    have HBC := Go.Lib.hid (show Below W1.heap.size W1 W1.drew from (Below.refl W1.heap.size W1).drew)
    generalize hu : Nm.underN q.name z.nm = u at *
    clear k1x k2x k0x c0
    have HU := Go.Lib.hid hun
    have HU0 := Go.Lib.hid hu
    have HZP := Go.Lib.hid hzP
    have HZO := Go.Lib.hid hzO
    have HFP := Go.Lib.hid hfp
    have HNM := Go.Lib.hid hnm
    clear hun hu hzP hzO hfp hnm
    go_wp2_with fail
    refine Go.Mix.wp_region_mix (Es := [9]) (Below W1.heap.size W1) mixed (by kernel_rfl) (Below.refl _ _).drew (fun _ => ?_)
    iterate 9 (refine Go.Mix.mix_step rfl (fun K hK => ?_); have HKK := Go.Lib.hid hK; clear hK; go_simp; refine HKK.out _ _ ?_; clear HKK K)
    refine Go.Mix.mix_eff rfl (fun K hK => ?_)
    have HKK := Go.Lib.hid hK
    clear hK
    go_simp
    refine (HU.out _).mono ?_; rintro e wb1 ⟨rfl, hx⟩
    have hb := HBC.out.trans (hx.mono HBC.out.size)
    clear HBC
    have HBC := Go.Lib.hid hb
    clear hx hb
    go_simp
    refine HKK.out _ _ HBC.out ?_
    clear HKK K
    iterate 2 (refine Go.Mix.mix_step rfl (fun K hK => ?_); have HKK := Go.Lib.hid hK; clear hK; go_simp; refine HKK.out _ _ ?_; clear HKK K)
    refine Go.Mix.mix_nil ?_
    clear D0 D1 hne
    have hX2 := HX1.out.trans (HBC.out.mono HX1.out.size)
    have hb2 := HB1.out.trans (HBC.out.mono HB1.out.size)
    have hz2 := HZP.out.below HBC.out
    generalize hWW : wb1 = W2 at *
    clear hWW
    have k0y := HK0.out _ hX2
    have k1y := HK1.out _ hX2
    have k2y := HK2.out _ hX2
    have c0 := hz2.c0
    have hsz2 := hX2.size
    clear HBC HZP
    have HX2 := Go.Lib.hid hX2
    have HB2 := Go.Lib.hid hb2
    have HZ2 := Go.Lib.hid hz2
    clear hX2 hb2 hz2
    cases u with
    | false =>
      have hR := E2.out z.p (by first | rfl | trivial) HU0.out
      subst hR
      clear c0
      go_wp2_with fail
      refine (HASK.out W2).mono ?_; rintro e W8 ⟨q8, a8, s8, d8, rfl, hm8, hx8⟩
      have hb8 := (HB2.out).trans (hx8.mono (HB2.out).size)
      have hX8 := (HX2.out).trans (hx8.mono (HX2.out).size)
      have hr8 := HREF.out q8 a8 s8 d8 W8 hm8
      clear hm8 hx8
      have HB8 := Go.Lib.hid hb8
      have HX8 := Go.Lib.hid hX8
      have HR8 := Go.Lib.hid hr8
      clear hb8 hX8 hr8
      go_wp2_with fail
      refine HR8.out.mono ?_; rintro e W9 ⟨qq, aa, ss, dd, rfl, hm9, hx9⟩
      have hb9 := (HB8.out).trans (hx9.mono (HB8.out).size)
      have hg9 := heap_later ((HX8.out).trans (hx9.mono (HX8.out).size)) G2.out
      have hone9 := one_MC (replyN (askN i0 q) 5 [] []) hm9.qs.one hm9.an.one hm9.sv.one hm9.ad.one
      clear hx9
      have HB9 := Go.Lib.hid hb9
      have HG9 := Go.Lib.hid hg9
      have HM9 := Go.Lib.hid hm9
      have HONE9 := Go.Lib.hid hone9
      clear hb9 hg9 hm9 hone9
      go_wp2_with (refine wpList_store_row rfl 34 (.tmp 6) (.tmp 26) rfl X1.heap.size (MC (replyN (askN i0 q) 5 [] []) qq aa ss dd) rfl rfl _ _ HG9.out infoMsg rfl HONE9.out ?_)
      exact ret_msg (m := (replyN (askN i0 q) 5 [] [])) rfl rfl rfl (setRow_heap _ _ _ _ _ _ HG9.out) ⟨_, _, _, _, rfl, HM9.out.setRow HG9.out, below_setRow HB9.out hwX1 _⟩
    | true =>
      have D0 := BelowC.cell (W := W2) k0y (show w.heap.size < W2.heap.size by omega)
      have D1 := BelowC.cell (W := W2) c0 HZ2.out.lt
      have hne : Nonempty (Subtype (Below W2.heap.size W2)) := ⟨⟨W2, Below.refl _ _⟩⟩
      have hbl := fun W (h : Below W2.heap.size W2 W) => HBL.out z.nm W (HB2.out.trans (h.mono HB2.out.size)) HNM.out
      clear k0y k1y k2y c0
      have HBL2 := Go.Lib.hid hbl
      clear hbl
      go_wp2_with fail
      refine Go.Mix.wp_region_mix (Es := [7]) (Below W2.heap.size W2) mixed (by kernel_rfl) (Below.refl _ _).drew (fun _ => ?_)
      iterate 7 (refine Go.Mix.mix_step rfl (fun K hK => ?_); have HKK := Go.Lib.hid hK; clear hK; go_simp; refine HKK.out _ _ ?_; clear HKK K)
      refine Go.Mix.mix_eff rfl (fun K hK => ?_)
      have HKK := Go.Lib.hid hK
      clear hK
      go_simp
      refine (HBL2.out W2.drew (Below.refl _ _).drew).mono ?_; rintro e W3 ⟨v3, rfl, hp3, hx3⟩
      have hb23 : Below W2.heap.size W2 W3 := (Below.refl _ W2).drew.trans hx3
      clear hx3
      have HB23 := Go.Lib.hid hb23
      have HP3 := Go.Lib.hid hp3
      clear hb23 hp3
      go_simp
      refine HKK.out _ _ HB23.out ?_
      clear HKK K
      iterate 1 (refine Go.Mix.mix_step rfl (fun K hK => ?_); have HKK := Go.Lib.hid hK; clear hK; go_simp; refine HKK.out _ _ ?_; clear HKK K)
      refine Go.Mix.mix_nil ?_
      clear D0 D1 hne
      have hX3 := HX2.out.trans (HB23.out.mono HX2.out.size)
      have hb3 := HB2.out.trans (HB23.out.mono HB2.out.size)
      have hz3 := HZ2.out.below HB23.out
      have k0y := HK0.out _ hX3
      have k1y := HK1.out _ hX3
      have k2y := HK2.out _ hX3
      have hp3 := HP3.out
      clear HP3
      generalize hbo : belowP TP z.nm q.name = bo at *
      have HX3 := Go.Lib.hid hX3
      have HB3 := Go.Lib.hid hb3
      have HZ3 := Go.Lib.hid hz3
      have HBO := Go.Lib.hid hbo
      clear hX3 hb3 hz3 hbo
      cases bo with
      | none =>
        have hv : v3 = Value.pointer none := hp3
        subst hv
        have hR := E4.out z.p (by first | rfl | trivial) HU0.out HBO.out
        subst hR
        clear hp3
        go_wp2_with fail
        refine (HSI.out z b o W3 HB3.out HZ3.out HZO.out).mono ?_; rintro e W9 ⟨qq, aa, ss, dd, rfl, hm9, hx9⟩
        have hb9 := (HB3.out).trans (hx9.mono (HB3.out).size)
        have hg9 := heap_later ((HX3.out).trans (hx9.mono (HX3.out).size)) G2.out
        have hone9 := one_MC (sayN q (inP TP z.p q.name q.ty)) hm9.qs.one hm9.an.one hm9.sv.one hm9.ad.one
        clear hx9
        have HB9 := Go.Lib.hid hb9
        have HG9 := Go.Lib.hid hg9
        have HM9 := Go.Lib.hid hm9
        have HONE9 := Go.Lib.hid hone9
        clear hb9 hg9 hm9 hone9
        go_wp2_with (refine wpList_store_row rfl 34 (.tmp 6) (.tmp 44) rfl X1.heap.size (MC (sayN q (inP TP z.p q.name q.ty)) qq aa ss dd) rfl rfl _ _ HG9.out infoMsg rfl HONE9.out ?_)
        exact ret_msg (m := (sayN q (inP TP z.p q.name q.ty))) rfl rfl rfl (setRow_heap _ _ _ _ _ _ HG9.out) ⟨_, _, _, _, rfl, HM9.out.setRow HG9.out, below_setRow HB9.out hwX1 _⟩
      | some y =>
        obtain ⟨yn, b2, o2, rfl, rfl, hyP, hyO⟩ := hp3
        have hR := E3.out z.p yn.p (by first | rfl | trivial) HU0.out HBO.out
        subst hR
        have HYP := Go.Lib.hid hyP
        have HYO := Go.Lib.hid hyO
        clear hyP hyO
        go_wp2_with fail
        refine (HRF.out z yn b o b2 o2 W3 HZ3.out HZO.out HYP.out HYO.out).mono ?_; rintro e W9 ⟨qq, aa, ss, dd, rfl, hm9, hx9⟩
        have hb9 := (HB3.out).trans (hx9.mono (HB3.out).size)
        have hg9 := heap_later ((HX3.out).trans (hx9.mono (HX3.out).size)) G2.out
        have hone9 := one_MC (sayN q (referP z.p yn.p)) hm9.qs.one hm9.an.one hm9.sv.one hm9.ad.one
        clear hx9
        have HB9 := Go.Lib.hid hb9
        have HG9 := Go.Lib.hid hg9
        have HM9 := Go.Lib.hid hm9
        have HONE9 := Go.Lib.hid hone9
        clear hb9 hg9 hm9 hone9
        go_wp2_with (refine wpList_store_row rfl 34 (.tmp 6) (.tmp 40) rfl X1.heap.size (MC (sayN q (referP z.p yn.p)) qq aa ss dd) rfl rfl _ _ HG9.out infoMsg rfl HONE9.out ?_)
        exact ret_msg (m := (sayN q (referP z.p yn.p))) rfl rfl rfl (setRow_heap _ _ _ _ _ _ HG9.out) ⟨_, _, _, _, rfl, HM9.out.setRow HG9.out, below_setRow HB9.out hwX1 _⟩
end Go.Proofs.YtkpcmnckdappnaaGreat

/- Tree: the order of names; names that are all unlike, sorted. -/
namespace Go.Proofs.YtkpcmnckdappnaaGreat
open Go.RowKit Go.Sort Go.Lib
set_option maxRecDepth 100000
set_option linter.unusedVariables false
set_option linter.unusedSimpArgs false

theorem insL_new {α : Type} [DecidableEq α] {lt : α → α → Bool} {x : α} : ∀ {l : List α}, x ∉ l → (insL lt x l).length = l.length + 1
  | [], _ => rfl
  | y :: l, h => by
    have h1 : ¬ y = x := fun e => h (by rw [e]; exact List.mem_cons_self ..)
    have h2 : x ∉ l := fun e => h (List.mem_cons_of_mem _ e)
    unfold insL
    split
    · rw [List.length_cons, insL_new h2, List.length_cons]
    · simp [h1]
theorem insAll_mem {α : Type} [DecidableEq α] {lt : α → α → Bool} (x : α) : ∀ (l o : List α), x ∈ l.foldl (fun o x => insL lt x o) o ↔ x ∈ l ∨ x ∈ o
  | [], o => by simp
  | y :: l, o => by
    rw [List.foldl_cons, insAll_mem x l, insL_mem, List.mem_cons]
    constructor
    · rintro (h | h | h)
      · exact .inl (.inr h)
      · exact .inl (.inl h)
      · exact .inr h
    · rintro ((h | h) | h)
      · exact .inr (.inl h)
      · exact .inl h
      · exact .inr (.inr h)
theorem insFold_len {α : Type} [DecidableEq α] {lt : α → α → Bool} : ∀ (l o : List α), l.Nodup → (∀ x ∈ l, x ∉ o) → (l.foldl (fun o x => insL lt x o) o).length = l.length + o.length
  | [], o, _, _ => by simp
  | y :: l, o, h, hn => by
    obtain ⟨h1, h2⟩ := List.nodup_cons.1 h
    rw [List.foldl_cons, insFold_len l _ h2, insL_new (hn y (List.mem_cons_self ..)), List.length_cons]
    · omega
    · intro x hx hm
      rcases (insL_mem y o x).1 hm with e | e
      · exact h1 (by rw [← e]; exact hx)
      · exact hn x (List.mem_cons_of_mem _ hx) e
theorem insAll_nodup {α : Type} [DecidableEq α] {lt : α → α → Bool} {l : List α} (h : l.Nodup) : (insAll lt l).length = l.length := by
  have := insFold_len (lt := lt) l [] h (fun _ _ => by simp)
  simpa [insAll] using this
theorem compact_full {α : Type} [DecidableEq α] [Inhabited α] {d : Array α} (h : (compactUpTo d d.size).length = d.size) : compactUpTo d d.size = d.toList := by
  unfold compactUpTo at h ⊢
  rw [List.length_map] at h
  have h2 : (List.range d.size).filter (keeps d) = List.range d.size := by
    have h3 : ∀ (p : Nat → Bool) (l : List Nat), (l.filter p).length = l.length → l.filter p = l := by
      intro p l
      induction l with
      | nil => intro _; rfl
      | cons x l ih =>
        intro hh
        rw [List.filter_cons] at hh ⊢
        split at hh
        · rename_i hp
          rw [if_pos hp, ih (by simpa using hh)]
        · have := List.length_filter_le p l
          rw [List.length_cons] at hh
          omega
    exact h3 _ _ (by rw [h, List.length_range])
  rw [h2]
  apply List.ext_getElem
  · simp
  · intro i h1 h2
    simp at h1
    simp [h1]
set_option maxHeartbeats 1000000 in
theorem trOrder_any (a b : List UInt8) (w : World) (ha : a.length ≤ maxLen) (hb : b.length ≤ maxLen) :
    Calls Tryz.prog 79 #[.string (mk a), .string (mk b)] w fun e w' => e = .returned (.int .i64 (cmpN a b)) ∧ Below w.heap.size w w' := by
  have h1 := fun W => Less_any (mk a) (mk b) W (by rw [size_mk]; exact ha) (by rw [size_mk]; exact hb)
  have h2 := fun W => Less_any (mk b) (mk a) W (by rw [size_mk]; exact hb) (by rw [size_mk]; exact ha)
  simp only [bl_mk] at h1 h2
  have hr : Hid (cmpN a b = if Nm.lessN a b then -1 else if Nm.lessN b a then 1 else 0) := Go.Lib.hid rfl
  have HB := Go.Lib.hid (Below.refl w.heap.size w)
  generalize cmpN a b = r at *
  generalize Nm.lessN a b = x at *
  generalize Nm.lessN b a = y at *
  have H1 := Go.Lib.hid h1
  have H2 := Go.Lib.hid h2
  clear h1 h2
  cases x with
  | true =>
    go_enter Tryz.func79, Tryz.ntmps79
    go_wp2_with fail
    refine (H1.out _).mono ?_; rintro e wb1 ⟨rfl, hx⟩
    have hb := HB.out.trans (hx.mono HB.out.size)
    clear HB
    have HB := Go.Lib.hid hb
    clear hx hb
    go_wp2_with fail
    go_ret
    exact ⟨by rw [hr.out]; rfl, HB.out⟩
  | false =>
    cases y with
    | true =>
      go_enter Tryz.func79, Tryz.ntmps79
      go_wp2_with fail
      refine (H1.out _).mono ?_; rintro e wb2 ⟨rfl, hx⟩
      have hb := HB.out.trans (hx.mono HB.out.size)
      clear HB
      have HB := Go.Lib.hid hb
      clear hx hb
      go_wp2_with fail
      refine (H2.out _).mono ?_; rintro e wb3 ⟨rfl, hx⟩
      have hb := HB.out.trans (hx.mono HB.out.size)
      clear HB
      have HB := Go.Lib.hid hb
      clear hx hb
      go_wp2_with fail
      go_ret
      exact ⟨by rw [hr.out]; rfl, HB.out⟩
    | false =>
      go_enter Tryz.func79, Tryz.ntmps79
      go_wp2_with fail
      refine (H1.out _).mono ?_; rintro e wb4 ⟨rfl, hx⟩
      have hb := HB.out.trans (hx.mono HB.out.size)
      clear HB
      have HB := Go.Lib.hid hb
      clear hx hb
      go_wp2_with fail
      refine (H2.out _).mono ?_; rintro e wb5 ⟨rfl, hx⟩
      have hb := HB.out.trans (hx.mono HB.out.size)
      clear HB
      have HB := Go.Lib.hid hb
      clear hx hb
      go_wp2_with fail
      go_ret
      exact ⟨by rw [hr.out]; rfl, HB.out⟩
theorem cmpLays (blk off size : Nat) (w : World) : CmpLays1 Tryz.prog 79 #[] encN' (fun x y : FN => cmpN x.1 y.1) blk off size w := fun m os dk hs x y =>
  Go.Drw.calls_grow (trOrder_any x.1 y.1 _ (by have := pn_len x.2; unfold maxLen; omega) (by have := pn_len y.2; unfold maxLen; omega))
/-- names, sorted -/
theorem sortS_any {w : World} {base g cap : Nat} {l : List (List UInt8)} (hl : ∀ x ∈ l, PN x) (hown : w.ownsRow base 9 1 (.slice (some ⟨g, 0, none⟩) l.length cap) l.length (encS l)) (hn : l.length < 4611686018427387904) :
    Calls Tryz.prog 78 #[.slice (some ⟨g, 0, none⟩) l.length cap, .func (.func 79) #[] #[]] w fun e w' => e = .returned (.tuple #[]) ∧
      ∃ d : Array FN, d.size = l.length ∧ (compactUpTo d d.size).map (·.1) = insAll Nm.lessN l ∧ Row w' g (d.toList.map encN') ∧ ∀ B w0, B ≤ g → B ≤ w.heap.size → Below B w0 w → Below B w0 w' := by
  obtain ⟨hr, hbg, hnc, hcm⟩ := row_of_owns hown
  have hr2 : Row w g ((fnL l hl).toArray.toList.map encN') := by rw [List.toList_toArray, fnL_enc]; exact hr
  have hsz : (fnL l hl).toArray.size = l.length := by rw [List.size_toArray, fnL_len]
  have h := Any.slices_SortFunc (α := FN) Tryz.sortS encN' one_encN (fun x y : FN => cmpN x.1 y.1) (by rw [lt_cmpN]; exact swo_of od_fn) 79 #[] g 0 cap (fnL l hl).toArray w (enters_of Tryz.func79 (by kernel_rfl) rfl) (cmpLays _ _ _ _) (holds_of hr2) hr.lt (by rw [hsz]; exact hn)
  rw [hsz] at h
  refine h.mono ?_
  rintro e w' ⟨rfl, d, n, os, hp, hs, rfl⟩
  rw [lt_cmpN] at hs
  have hds : d.size = l.length := by rw [hp.1, hsz]
  refine ⟨rfl, d, hds, ?_, put_row hr2 d (by rw [hds, List.length_map, List.toList_toArray, fnL_len]) n os, fun B w0 h1 h2 h3 => below_put h3 h1 h2 d n os⟩
  rw [sort_compact (P := fun _ => True) od_fn (d := (fnL l hl).toArray) (fun _ _ => trivial) (by rw [hsz]; exact hp) (by rw [hsz]; exact hs), insAll_val, List.toList_toArray, fnL_val]
/-- names that are all unlike, sorted -/
theorem sortU_any {w : World} {base cap : Nat} {a : Option Addr} {l : List (List UInt8)} (hl : ∀ x ∈ l, PN x) (hd : l.Nodup) (hown : w.ownsRow base 9 1 (.slice a l.length cap) l.length (encS l)) (hn : l.length ≤ 1000) (hB : base ≤ w.heap.size) :
    Calls Tryz.prog 78 #[.slice a l.length cap, .func (.func 79) #[] #[]] w fun e w' => e = .returned (.tuple #[]) ∧ Strs w' (.slice a l.length cap) (insAll Nm.lessN l) ∧ ∀ w0, Below base w0 w → Below base w0 w' := by
  have hlen := insAll_nodup (lt := Nm.lessN) hd
  cases a with
  | none =>
    have h0 : l = [] ∧ cap = 0 := by
      rcases hown.2 with ⟨hv, hz⟩ | ⟨g, c, cur, hv, _⟩
      · simp only [Value.slice.injEq] at hv
        exact ⟨List.eq_nil_of_length_eq_zero hz, hv.2.2⟩
      · cases hv
    obtain ⟨rfl, rfl⟩ := h0
    refine (AnyF.slices_SortFunc_none Tryz.sortS0 none 0 _ w).mono ?_
    rintro e w' ⟨rfl, rfl⟩
    exact ⟨rfl, SlC.of_owns hown, fun w0 h => h⟩
  | some x =>
    have hx : ∃ g, x = ⟨g, 0, none⟩ ∧ base ≤ g := by
      rcases hown.2 with ⟨hv, hz⟩ | ⟨g, c, cur, hv, hg, _⟩
      · cases hv
      · simp only [Value.slice.injEq, Option.some.injEq] at hv
        exact ⟨g, hv.1, hg⟩
    obtain ⟨g, rfl, hg⟩ := hx
    obtain ⟨_, _, hnc, hcm⟩ := row_of_owns hown
    refine (sortS_any hl hown (by omega)).mono ?_
    rintro e w' ⟨rfl, d, hds, hc, hrow, hbel⟩
    refine ⟨rfl, ?_, fun w0 h => hbel base w0 hg hB h⟩
    have hcl : (compactUpTo d d.size).length = d.size := by
      have := congrArg List.length hc
      rw [List.length_map, hlen] at this
      rw [this, hds]
    rw [compact_full hcl] at hc
    have henc : d.toList.map encN' = encS (insAll Nm.lessN l) := by rw [← hc]; unfold encS; rw [List.map_map]; rfl
    rw [henc] at hrow
    unfold Strs
    rw [hlen]
    exact hrow.slc (by simp [encS, hlen]) hnc hcm
end Go.Proofs.YtkpcmnckdappnaaGreat

/- Tree: the contracts of names, Zones, At, Longest, Best. -/
namespace Go.Proofs.YtkpcmnckdappnaaGreat
open Go.RowKit Go.Sort Go.Lib
set_option maxRecDepth 100000
set_option linter.unusedVariables false
set_option linter.unusedSimpArgs false

/-- the names of the first zones that are so -/
def nmK (p : Zn → Bool) (T : List Zn) (k : Nat) : List (List UInt8) := ((T.take k).filter p).map fun z => Nm.foldN z.nm
theorem nmK_step {p : Zn → Bool} {T : List Zn} {k : Nat} (hk : k < T.length) : nmK p T (k + 1) = if p (T.getD k zn0) then nmK p T k ++ [Nm.foldN (T.getD k zn0).nm] else nmK p T k := by
  unfold nmK
  rw [List.take_succ_eq_append_getElem hk, List.filter_append, List.map_append, List.getD_eq_getElem?_getD, List.getElem?_eq_getElem hk]
  simp only [Option.getD_some]
  cases hp : p T[k] with
  | true => simp [List.filter, hp]
  | false => simp [List.filter, hp]
theorem nmK_len {p : Zn → Bool} {T : List Zn} {k : Nat} : (nmK p T k).length ≤ k := by
  unfold nmK
  rw [List.length_map]
  exact Nat.le_trans (List.length_filter_le _ _) (by rw [List.length_take]; omega)
theorem nmK_pn {p : Zn → Bool} {T : List Zn} {k : Nat} (hv : ∀ z ∈ T, Nm.valid z.nm = true) : ∀ x ∈ nmK p T k, PN x := by
  intro x hx
  unfold nmK at hx
  obtain ⟨z, hz, rfl⟩ := List.mem_map.1 hx
  exact pn_fold (hv z (List.mem_of_mem_take (List.mem_filter.1 hz).1))
theorem nmK_nodup {p : Zn → Bool} {T : List Zn} (h : (T.map fun z => Nm.foldN z.nm).Nodup) : (nmK p T T.length).Nodup := by
  unfold nmK
  rw [List.take_length]
  exact h.sublist ((List.filter_sublist ..).map _)
set_option maxHeartbeats 4000000 in
theorem names_any (tb : Nat) (T : List Zn) (f : FuncId) (lb : Array Value) (p : Zn → Bool) (w : World) (ht : TRo tb T w) (hv : ∀ z ∈ T, Nm.valid z.nm = true) (hd : (T.map fun z => Nm.foldN z.nm).Nodup)
    (hent : ∀ args w, (callFunc f args).run Tryz.prog w = .ok (.enter f args) w)
    (hf : ∀ W z, z ∈ T → Below w.heap.size w W → Calls Tryz.prog f (#[znV z] ++ lb) W fun e W' => e = .returned (.bool (p z)) ∧ Below W.heap.size W W') :
    Calls Tryz.prog 49 #[.pointer (some ⟨tb, 0, none⟩), .func (.func f) #[] lb] w (RetStrs w (insAll Nm.lessN (nmK p T T.length))) := by
  obtain ⟨⟨a, c, hta⟩, hok, hlen⟩ := ht
  have k0 := hta.cell
  have hpn := fun k => nmK_pn (p := p) (k := k) hv
  have hnd := nmK_nodup (p := p) hd
  have hstep := fun k (hk : k < T.length) => nmK_step (p := p) (T := T) (k := k) hk
  have hkl := fun k => nmK_len (p := p) (T := T) (k := k)
  generalize hN : T.length = N at *
  clear hd
  have HTA := Go.Lib.hid hta
  have HOK := Go.Lib.hid hok
  have HPN := Go.Lib.hid hpn
  have HSTEP := Go.Lib.hid hstep
  have HKL := Go.Lib.hid hkl
  have HN := Go.Lib.hid hN
  have HV := Go.Lib.hid hv
  have HF := Go.Lib.hid hf
  have HND := Go.Lib.hid hnd
  clear hta hok hpn hstep hkl hN hv hf hnd
  go_enter Tryz.func49, Tryz.ntmps49
  go_wp2_with fail
  go_loopw [4, 14] (fun v i wr => ∃ k : Nat, i = .int .i64 k ∧ k ≤ N ∧ wr.ownsRow w.heap.size 9 1 v (nmK p T k).length (encS (nmK p T k)) ∧ Below w.heap.size w wr) (fun _ i _ => N - (intOf i).toNat)
  case atStart => exact ⟨0, rfl, Nat.zero_le _, World.ownsRow_nil _ _ _ _, Below.refl _ _⟩
  case round =>
    obtain ⟨k, rfl, hk, hown, hbr⟩ := hrel
    have hws := hbr.size
    have hlk := HKL.out k
    by_cases hlt : k < N
    · have hta2 := HTA.out.below hbr
      have hlt0 : k < T.length := by rw [HN.out]; exact hlt
      obtain ⟨b, off, rfl, hzp⟩ := Zns.place hta2.zs hlt0
      have hzo := HOK.out _ (zn_mem hlt0)
      have hst := HSTEP.out k hlt
      have hmem := zn_mem hlt0
      have hvz := HV.out _ hmem
      have hlt2 : (k : Int) < (N : Int) := by omega
      have w1 : IntKind.i64.wrap ((k : Int) + 1) = (k : Int) + 1 := wrapi (by omega) (by omega)
      clear k0 hta2 hlt0
      generalize T.getD k zn0 = z at *
      obtain ⟨zn, ra, rc, rs, sa, sc, sv⟩ := z
      have d0 := hzp.c0
      have d1 := hzp.c1
      have d2 := hzp.c2
      have hnm := hzo.nmM
      simp only at d0 d1 d2 hst hnm
      obtain ⟨Y, hY⟩ : ∃ Y, wr.alloc (.cells #[.string (mk zn), .slice ra rs.length rc, .slice sa sv.length sc] 50) = Y := ⟨_, rfl⟩
      have gY : Y.heap[wr.heap.size]? = some (.cells #[.string (mk zn), .slice ra rs.length rc, .slice sa sv.length sc] 50 (0, 0)) := by rw [← hY]; exact World.alloc_heap_new _ _
      have hbY : Below wr.heap.size wr Y := by rw [← hY]; exact (Below.refl _ wr).alloc (Nat.le_refl _) _
      have e0 : Y.cell? ⟨wr.heap.size, 0, none⟩ = some (.string (mk zn)) := row_cell gY 0 _ rfl
      have e1 : Y.cell? ⟨wr.heap.size, 1, none⟩ = some (.slice ra rs.length rc) := row_cell gY 1 _ rfl
      have e2 : Y.cell? ⟨wr.heap.size, 2, none⟩ = some (.slice sa sv.length sc) := row_cell gY 2 _ rfl
      have hbXY := hbr.trans (hbY.mono hws)
      have hownY := owns_below hown hbY
      have hzY := hbXY.size
      have hcl := HF.out Y ⟨zn, ra, rc, rs, sa, sc, sv⟩ hmem hbXY
      generalize hLk : nmK p T k = L at *
      have hfl := fun W => foldM zn W hnm
      have hlY := (Array.getElem?_eq_some_iff.1 gY).1
      have HCL := Go.Lib.hid hcl
      have HST := Go.Lib.hid hst
      have HBXY := Go.Lib.hid hbXY
      have HOY := Go.Lib.hid hownY
      have HMEM := Go.Lib.hid hmem
      have HVZ := Go.Lib.hid hvz
      have HZO := Go.Lib.hid hzo
      have HZP := Go.Lib.hid hzp
      have HFL := Go.Lib.hid hfl
      have HLK := Go.Lib.hid hLk
      clear hcl hst hbXY hownY hmem hvz hzo hzp hfl hLk
      clear hown hbr hbY
      go_wp2_with fail
      refine HCL.out.mono ?_; rintro e Z ⟨rfl, hz⟩
      have hbXZ := HBXY.out.trans (hz.mono HBXY.out.size)
      have hownZ := owns_below HOY.out hz
      have hzz := hz.size
      have e0 := (hz.cell (p := ⟨wr.heap.size, 0, none⟩) hlY).trans e0
      clear e1 e2 d0 d1 d2 hY gY hz
      cases hp : p ⟨zn, ra, rc, rs, sa, sc, sv⟩ with
      | false =>
        have hfin : L = nmK p T (k + 1) := by rw [HST.out, hp]; rfl
        rw [hfin] at hownZ
        have HBXZ := Go.Lib.hid hbXZ
        have HOZ := Go.Lib.hid hownZ
        clear hbXZ hownZ
        clear hfin hp
        go_wp2_with fail
        go_roundw
        case rel => exact ⟨k + 1, by go_num, by omega, HOZ.out, HBXZ.out⟩
        case measure => simp [intOf]; omega
      | true =>
        have hfin : nmK p T (k + 1) = L ++ [Nm.foldN zn] := by rw [HST.out, hp]; rfl
        have HBXZ := Go.Lib.hid hbXZ
        have HOZ := Go.Lib.hid hownZ
        have HFIN := Go.Lib.hid hfin
        clear hbXZ hownZ hfin
        clear hp
        go_wp2_with fail
        refine (HFL.out Z).mono ?_; rintro e Z2 ⟨rfl, hz2⟩
        have hownZ2 := owns_below HOZ.out hz2
        have hbXZ2 := HBXZ.out.trans (hz2.mono HBXZ.out.size)
        have hz3 := hz2.size
        generalize Nm.foldN zn = fz at *
        have HOZ2 := Go.Lib.hid hownZ2
        have HBXZ2 := Go.Lib.hid hbXZ2
        clear hownZ2 hbXZ2
        clear hz2 e0
        go_wp2_with (at_builtin; refine wpList_app eiS (.tmp 21) (.tmp 25) rfl rfl w.heap.size rfl rfl (HOZ2.out.alloc _) (slc_new _ 1 1 9 [.string (mk fz)] rfl (by decide)) ?h1 ?h2 ?h3 ?h4 ?h5; rotate_right; intro v1 w3 hown1 hg1)
        case h1 => exact one_strs [fz]
        case h2 => unfold maxLen; omega
        case h3 => omega
        case h4 => simp; omega
        go_roundw
        case rel => exact ⟨k + 1, by go_num, by omega, by rw [HFIN.out, List.length_append]; unfold encS; rw [List.map_append]; exact hown1, below_app (HBXZ2.out.alloc HBXZ2.out.size _) (HOZ2.out.alloc _) hg1 (Nat.le_refl _) (by simp; omega)⟩
        case measure => simp [intOf]; omega
    · have hke : k = N := by omega
      subst hke
      have hlt2 : ¬ (k : Int) < (k : Int) := by omega
      have hpnk := HPN.out k
      obtain ⟨av, cv, rfl, _, _⟩ := (SlC.of_owns hown).slice
      have hs := sortU_any (w := wr) hpnk HND.out hown (by omega) hws
      obtain ⟨R, hR⟩ : ∃ R, insAll Nm.lessN (nmK p T k) = R := ⟨_, rfl⟩
      rw [hR] at hs
      have HR := Go.Lib.hid hR
      clear hR
      generalize (nmK p T k).length = M at *
      have HS := Go.Lib.hid hs
      have HBR := Go.Lib.hid hbr
      clear hs hbr
      clear hpnk hown
      go_wp2_with fail
      refine HS.out.mono ?_; rintro e w5 ⟨rfl, hs5, hb5⟩
      have hb6 := hb5 w HBR.out
      have HS5 := Go.Lib.hid hs5
      have HB6 := Go.Lib.hid hb6
      clear hs5 hb6
      clear hb5
      go_wp2_with fail
      go_ret
      exact ⟨_, rfl, by rw [HR.out]; exact HS5.out, HB6.out⟩
theorem ones_any (z : Zn) (w : World) : Calls Tryz.prog 50 #[znV z] w fun e w' => e = .returned (.bool true) ∧ Below w.heap.size w w' := by
  obtain ⟨zn, ra, rc, rs, sa, sc, sv⟩ := z
  go_enter Tryz.func50, Tryz.ntmps50
  go_wp2_with fail
  go_ret
  exact ⟨rfl, (Below.refl _ _).alloc (Nat.le_refl _) _⟩
theorem nmK_all (T : List Zn) : insAll Nm.lessN (nmK (fun _ => true) T T.length) = zonesP (T.map Zn.p) := by
  unfold nmK zonesP namesP
  rw [List.take_length, List.filter_eq_self.2 (fun _ _ => rfl), List.filter_eq_self.2 (fun _ _ => rfl), List.map_map]
  rfl
theorem Zones_any (tb : Nat) (T : List Zn) (w : World) (ht : TRo tb T w) (hv : ∀ z ∈ T, Nm.valid z.nm = true) (hd : (T.map fun z => Nm.foldN z.nm).Nodup) :
    Calls Tryz.prog 23 #[.pointer (some ⟨tb, 0, none⟩)] w (RetStrs w (zonesP (T.map Zn.p))) := by
  have hn := names_any tb T 50 #[] (fun _ => true) w ht hv hd (enters_of Tryz.func50 (by kernel_rfl) rfl) fun W z _ _ => ones_any z W
  rw [nmK_all] at hn
  generalize zonesP (T.map Zn.p) = R at *
  clear ht hv hd
  have HN := Go.Lib.hid hn
  clear hn
  go_enter Tryz.func23, Tryz.ntmps23
  go_wp2_with fail
  refine HN.out.mono ?_; rintro e wb ⟨v, rfl, hs, hb⟩
  have HS := Go.Lib.hid hs
  have HB := Go.Lib.hid hb
  clear hs hb
  go_wp2_with fail
  go_ret
  exact ⟨_, rfl, HS.out, HB.out⟩
theorem at11_any (s : Sv) (x : Int) (B : Nat) (W : World) (hB : W.heap[B]? = some (.cells #[.int .i64 x] 3 (0, 0))) :
    Calls Tryz.prog 53 #[svV s, .pointer (some ⟨B, 0, none⟩)] W fun e w' => e = .returned (.bool (decide (s.2 = x))) ∧ Below W.heap.size W w' := by
  obtain ⟨xn, xa⟩ := s
  obtain ⟨Y, hY⟩ : ∃ Y, W.alloc (.cells #[.string (mk xn), .int .i64 xa] 55) = Y := ⟨_, rfl⟩
  have gY : Y.heap[W.heap.size]? = some (.cells #[.string (mk xn), .int .i64 xa] 55 (0, 0)) := by rw [← hY]; exact World.alloc_heap_new _ _
  have hbY : Below W.heap.size W Y := by rw [← hY]; exact (Below.refl _ W).alloc (Nat.le_refl _) _
  have gB := (hbY.block B (Array.getElem?_eq_some_iff.1 hB).1).trans hB
  have k1 : Y.cell? ⟨W.heap.size, 1, none⟩ = some (.int .i64 xa) := row_cell gY 1 _ rfl
  have k2 : Y.cell? ⟨B, 0, none⟩ = some (.int .i64 x) := row_cell gB 0 _ rfl
  have hr : Hid (decide (xa = x) = (xa == x)) := Go.Lib.hid rfl
  clear hB gY gB
  have HBY := Go.Lib.hid hbY
  clear hbY
  go_enter Tryz.func53, Tryz.ntmps53
  go_wp2_with fail
  go_ret
  exact ⟨by first | rfl | (rw [hr.out]), HBY.out⟩
theorem at1_any (z : Zn) (x : Int) (B : Nat) (W : World) (hz : ZnAt W z) (hzo : ZnOk z) (hB : W.heap[B]? = some (.cells #[.int .i64 x] 3 (0, 0))) :
    Calls Tryz.prog 51 #[znV z, .pointer (some ⟨B, 0, none⟩)] W fun e w' => e = .returned (.bool (z.sv.any fun s => decide (s.2 = x))) ∧ Below W.heap.size W w' := by
  obtain ⟨zn, ra, rc, rs, sa, sc, sv⟩ := z
  obtain ⟨Y, hY⟩ : ∃ Y, W.alloc (.cells #[.string (mk zn), .slice ra rs.length rc, .slice sa sv.length sc] 50) = Y := ⟨_, rfl⟩
  have gY : Y.heap[W.heap.size]? = some (.cells #[.string (mk zn), .slice ra rs.length rc, .slice sa sv.length sc] 50 (0, 0)) := by rw [← hY]; exact World.alloc_heap_new _ _
  have hbY : Below W.heap.size W Y := by rw [← hY]; exact (Below.refl _ W).alloc (Nat.le_refl _) _
  have gB := (hbY.block B (Array.getElem?_eq_some_iff.1 hB).1).trans hB
  have k1 : Y.cell? ⟨W.heap.size, 2, none⟩ = some (.slice sa sv.length sc) := row_cell gY 2 _ rfl
  have hl2 := hzo.l2
  have hh := hasV_any 53 #[.pointer (some ⟨B, 0, none⟩)] (fun s => decide (s.2 = x)) sa sc sv Y (hz.below hbY).sv (by simp only at hl2; omega) (enters_of Tryz.func53 (by kernel_rfl) rfl) (fun W' r hr hb => at11_any r x B W' ((hb.block _ (Array.getElem?_eq_some_iff.1 gB).1).trans gB))
  clear hB gY gB hz hzo hl2
  simp only
  generalize (sv.any fun s => decide (s.2 = x)) = q at *
  have HBY := Go.Lib.hid hbY
  have HH := Go.Lib.hid hh
  clear hbY hh
  go_enter Tryz.func51, Tryz.ntmps51
  go_wp2_with fail
  refine HH.out.mono ?_; rintro e wb ⟨rfl, hx⟩
  have HX := Go.Lib.hid hx
  clear hx
  go_wp2_with fail
  go_ret
  exact ⟨rfl, HBY.out.trans (HX.out.mono HBY.out.size)⟩
theorem nmK_at (T : List Zn) (x : Int) : insAll Nm.lessN (nmK (fun z => z.sv.any fun s => decide (s.2 = x)) T T.length) = atP (T.map Zn.p) x := by
  unfold nmK atP namesP
  rw [List.take_length, List.filter_map, List.map_map]
  rfl
theorem At_any (tb : Nat) (T : List Zn) (x : Int) (w : World) (ht : TRo tb T w) (hv : ∀ z ∈ T, Nm.valid z.nm = true) (hd : (T.map fun z => Nm.foldN z.nm).Nodup) :
    Calls Tryz.prog 24 #[.pointer (some ⟨tb, 0, none⟩), .int .i64 x] w (RetStrs w (atP (T.map Zn.p) x)) := by
  obtain ⟨Y, hY⟩ : ∃ Y, w.alloc (.cells #[.int .i64 x] 3) = Y := ⟨_, rfl⟩
  have gY : Y.heap[w.heap.size]? = some (.cells #[.int .i64 x] 3 (0, 0)) := by rw [← hY]; exact World.alloc_heap_new _ _
  have hbY : Below w.heap.size w Y := by rw [← hY]; exact (Below.refl _ w).alloc (Nat.le_refl _) _
  have htY := ht.below hbY
  have hzt : ∀ z ∈ T, ZnAt Y z := by
    obtain ⟨⟨a, c, h1⟩, _⟩ := htY
    exact h1.zs.2
  have hn := names_any tb T 51 #[.pointer (some ⟨w.heap.size, 0, none⟩)] (fun z => z.sv.any fun s => decide (s.2 = x)) Y htY hv hd (enters_of Tryz.func51 (by kernel_rfl) rfl)
    fun W z hz hb => at1_any z x w.heap.size W ((hzt z hz).below hb) (ht.ok z hz) ((hb.block _ (Array.getElem?_eq_some_iff.1 gY).1).trans gY)
  rw [nmK_at] at hn
  generalize atP (T.map Zn.p) x = R at *
  clear ht hv hd htY hzt gY
  have HN := Go.Lib.hid hn
  have HBY := Go.Lib.hid hbY
  clear hn hbY
  go_enter Tryz.func24, Tryz.ntmps24
  go_wp2_with fail
  refine HN.out.mono ?_; rintro e wb ⟨v, rfl, hs, hb⟩
  have HS := Go.Lib.hid hs
  have HB := Go.Lib.hid hb
  clear hs hb
  go_wp2_with fail
  go_ret
  exact ⟨_, rfl, HS.out, HBY.out.trans (HB.out.mono HBY.out.size)⟩
end Go.Proofs.YtkpcmnckdappnaaGreat

