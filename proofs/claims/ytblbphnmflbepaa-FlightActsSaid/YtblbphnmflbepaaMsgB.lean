/- The contracts of match.Reply, Refuse, and of the reference's. Condition: no list has more than 1000000 records. -/
import Derived.Test.YtblbphnmflbepaaMsg
import Derived.Deep.WholeRow
namespace Go.Proofs.Ytblbphnmflbepaa
open Go.RowKit Go.Shelf Go.Sq
set_option linter.unusedVariables false

def replyN (m : Msg) (code : Int) (an sv : List Rc.RR) : Msg := ⟨m.id, true, m.op, false, false, m.des, true, code, m.qs, an, sv, [], m.edns, if m.edns then 1232 else 0⟩

/-- what the effects of Reply's region leave -/
def FRep (iq ia is ip : Nat) (B : Nat) (m : Msg) (an sv : List Rc.RR) (i : Nat) (v : Value) (w : World) : Prop :=
  (i = iq → SlT w 34 3 v m.qs.length (encQn m.qs)) ∧ (i = ia → SlT w 90 5 v an.length (encR an)) ∧ (i = is → SlT w 90 5 v sv.length (encR sv)) ∧ (i = ip → ∃ kb, v = .pointer (some ⟨kb, 0, none⟩) ∧ B ≤ kb ∧ w.heap[kb]? = some (.cells (MC ⟨0, false, 0, false, false, false, false, 0, [], [], [], [], false, 0⟩ (.slice none 0 0) (.slice none 0 0) (.slice none 0 0) (.slice none 0 0)) 40 (0, 0)))
def SRep (iq ia is ip : Nat) (i : Nat) (v : Value) : Prop := (i = iq ∨ i = ia ∨ i = is → ∃ a n c, v = .slice a n c) ∧ (i = ip → ∃ kb, v = .pointer (some ⟨kb, 0, none⟩))
theorem FRep.stable {iq ia is ip B : Nat} {m : Msg} {an sv : List Rc.RR} {i : Nat} {v : Value} {w w' : World} (h : FRep iq ia is ip B m an sv i v w) (hg : GB w w') : FRep iq ia is ip B m an sv i v w' := by
  obtain ⟨h1, h2, h3, h4⟩ := h
  refine ⟨fun e => (h1 e).below hg, fun e => (h2 e).below hg, fun e => (h3 e).below hg, fun e => ?_⟩
  obtain ⟨kb, k1, k2, k3⟩ := h4 e
  exact ⟨kb, k1, k2, hg.heap k3⟩
theorem SRep.inh (iq ia is ip : Nat) (h1 : ip ≠ iq) (h2 : ip ≠ ia) (h3 : ip ≠ is) (i : Nat) : ∃ v, SRep iq ia is ip i v := by
  by_cases h : i = ip
  · exact ⟨.pointer (some ⟨0, 0, none⟩), fun e => by omega, fun _ => ⟨0, rfl⟩⟩
  · exact ⟨.slice none 0 0, fun _ => ⟨_, _, _, rfl⟩, fun e => absurd e h⟩


/-! ### Refuse -/

/-! ### the reference's -/
theorem effR_app0 {P : Program} {t e sz bytes : Nat} (ei : EI P t e sz bytes) {w : World} {o : Oper} {a : Act} {R : Value → World → Prop} (s x : Operand)
    (ho : o.op = .call { callee := .builtin .append, args := #[s, x], argTypes := #[t, t] }) (g : Nat) {src : Value} {m : Nat} {news : List Value} (hs : a.eval s = .slice (some ⟨g, 0, none⟩) 0 0) (hx : a.eval x = src)
    (hsrc : SlC w sz src m news) (h1 : ∀ u ∈ news, u.oneCell' = true) (h63 : m ≤ maxLen) (hbytes : m * bytes ≤ 140737488355328)
    (h : ∀ a' c' w', SlT w' e sz (.slice a' m c') m news → Below w.heap.size w w' → R (.slice a' m c') w') : Go.Mix.EffR P R ((execOp a.eval o).run P w) := by
  obtain ⟨v', w', hr, ⟨a', c', rfl⟩, h2, h3⟩ := run_app0 ei w o.type g hsrc h1 h63 hbytes
  unfold execOp
  simp only [ho, resolve, invoke, builtin, Sem.run_bind, Sem.run_pure, Result.andThen_ok, List.map_toArray, List.map_cons, List.map_nil, hs, hx, hr]
  exact h a' c' w' h2 h3
def FRef (B : Nat) (m : Msg) (i : Nat) (v : Value) (w : World) : Prop :=
  (i = 10 → SlT w 34 3 v m.qs.length (encQn m.qs)) ∧ (i = 14 → ∃ kb, v = .pointer (some ⟨kb, 0, none⟩) ∧ B ≤ kb ∧ w.heap[kb]? = some (.cells (MC ⟨0, false, 0, false, false, false, false, 0, [], [], [], [], false, 0⟩ (.slice none 0 0) (.slice none 0 0) (.slice none 0 0) (.slice none 0 0)) 40 (0, 0)))
def SRef (i : Nat) (v : Value) : Prop := (i = 7 → ∃ g, v = .slice (some ⟨g, 0, none⟩) 0 0) ∧ (i = 10 → ∃ a n c, v = .slice a n c) ∧ (i = 14 → ∃ kb, v = .pointer (some ⟨kb, 0, none⟩))
theorem FRef.stable {B : Nat} {m : Msg} {i : Nat} {v : Value} {w w' : World} (h : FRef B m i v w) (hg : GB w w') : FRef B m i v w' := by
  obtain ⟨h1, h4⟩ := h
  refine ⟨fun e => (h1 e).below hg, fun e => ?_⟩
  obtain ⟨kb, k1, k2, k3⟩ := h4 e
  exact ⟨kb, k1, k2, hg.heap k3⟩
theorem SRef.inh (i : Nat) : ∃ v, SRef i v := by
  by_cases h : i = 14
  · exact ⟨.pointer (some ⟨0, 0, none⟩), fun e => by omega, fun e => by omega, fun _ => ⟨0, rfl⟩⟩
  · exact ⟨.slice (some ⟨0, 0, none⟩) 0 0, fun _ => ⟨0, rfl⟩, fun _ => ⟨_, _, _, rfl⟩, fun e => absurd e h⟩

set_option maxRecDepth 100000 in
set_option maxHeartbeats 4000000 in
theorem refRefuse_any (m : Msg) (q a s d : Value) (code : Int) (w : World) (hm : MsgL w m q a s d) (l1 : m.qs.length ≤ 1000000) :
    Calls Try.prog 33 #[MV m q a s d, .int .i64 code] w (RetM w (replyN m code [] [])) := by
  obtain ⟨aq, cq, rfl, _, _⟩ := hm.qs.slice
  obtain ⟨aa, ca, rfl, _, _⟩ := hm.an.slice
  obtain ⟨asv, cs, rfl, _, _⟩ := hm.sv.slice
  obtain ⟨ad, cd, rfl, _, _⟩ := hm.ad.slice
  have hq := hm.qs
  have hone := one_qs m.qs
  have hx := two_boxes w (MC m (.slice aq m.qs.length cq) (.slice aa m.an.length ca) (.slice asv m.sv.length cs) (.slice ad m.ad.length cd)) (MC ⟨0, false, 0, false, false, false, false, 0, [], [], [], [], false, 0⟩ (.slice none 0 0) (.slice none 0 0) (.slice none 0 0) (.slice none 0 0)) 40
  obtain ⟨hx1, hx2⟩ := hx
  have hbx : Below w.heap.size w ((w.alloc (.cells (MC m (.slice aq m.qs.length cq) (.slice aa m.an.length ca) (.slice asv m.sv.length cs) (.slice ad m.ad.length cd)) 40)).alloc (.cells (MC ⟨0, false, 0, false, false, false, false, 0, [], [], [], [], false, 0⟩ (.slice none 0 0) (.slice none 0 0) (.slice none 0 0) (.slice none 0 0)) 40)) := ((Below.refl _ w).alloc (Nat.le_refl _) _).alloc (by simp) _
  have hsz : ((w.alloc (.cells (MC m (.slice aq m.qs.length cq) (.slice aa m.an.length ca) (.slice asv m.sv.length cs) (.slice ad m.ad.length cd)) 40)).alloc (.cells (MC ⟨0, false, 0, false, false, false, false, 0, [], [], [], [], false, 0⟩ (.slice none 0 0) (.slice none 0 0) (.slice none 0 0) (.slice none 0 0)) 40)).heap.size = w.heap.size + 2 := by simp
  clear hm
  have hrep : replyN m code [] [] = ⟨m.id, true, m.op, false, false, m.des, true, code, m.qs, [], [], [], m.edns, if m.edns then 1232 else 0⟩ := rfl
  obtain ⟨mid, mre, mop, mau, mcu, mde, mav, mco, mqs, man, msv, mad, med, msi⟩ := m
  simp only [MC, MV] at hq hone hrep hx1 hx2 hbx hsz l1 ⊢
  generalize replyN ⟨mid, mre, mop, mau, mcu, mde, mav, mco, mqs, man, msv, mad, med, msi⟩ code [] [] = res at *
  unfold Qns at hq
  generalize hnq : mqs.length = nq at hq hx1 hx2 hbx hsz l1 ⊢
  generalize man.length = na at *
  generalize msv.length = ns at *
  generalize mad.length = nd at *
  have HNQ := Go.Lib.hid hnq
  have HQ := Go.Lib.hid hq
  have HONE := Go.Lib.hid hone
  have HREP := Go.Lib.hid hrep
  have HX1 := Go.Lib.hid hx1
  have HX2 := Go.Lib.hid hx2
  have HBX := Go.Lib.hid hbx
  clear hnq hq hone hrep hx1 hx2 hbx
  go_enter Try.func33, Try.ntmps33
  go_wp2_with fail
  generalize hW : (w.alloc (.cells #[.int .i64 mid, .bool mre, .int .i64 mop, .bool mau, .bool mcu, .bool mde, .bool mav, .int .i64 mco, .slice aq nq cq, .slice aa na ca, .slice asv ns cs, .slice ad nd cd, .bool med, .int .i64 msi] 40)).alloc (.cells #[.int .i64 0, .bool false, .int .i64 0, .bool false, .bool false, .bool false, .bool false, .int .i64 0, .slice none 0 0, .slice none 0 0, .slice none 0 0, .slice none 0 0, .bool false, .int .i64 0] 40) = W at *
  have hg := cell_of_heap HX1.out
  have b0 : w.heap.size < W.heap.size := by omega
  have d0 := GB.cell (W := W) (hg 0) b0
  have d2 := GB.cell (W := W) (hg 2) b0
  have d5 := GB.cell (W := W) (hg 5) b0
  have d8 := GB.cell (W := W) (hg 8) b0
  have d12 := GB.cell (W := W) (hg 12) b0
  have hne : Nonempty (Subtype (GB W.drew)) := ⟨⟨W.drew, GB.refl _⟩⟩
  clear hg hW
  refine Go.Mix.wp_region_mixR [7, 10, 14] 15 GB (FRef W.heap.size ⟨mid, mre, mop, mau, mcu, mde, mav, mco, mqs, man, msv, mad, med, msi⟩) SRef mixed (by kernel_rfl) GB.trans GB.refl (fun i v w w' h hg => h.stable hg) SRef.inh ?_
  iterate 7 (refine Go.Mix.mixR_step rfl (fun K hK => ?_); have HKK := Go.Lib.hid hK; clear hK; go_simp; refine HKK.out _ ?_; clear HKK K)
  refine Go.Mix.mixR_eff rfl rfl (fun w7 hw7 => ?_) (fun v7 hv7 => ?_)
  · go_simp
    exact ⟨(Below.refl _ _).alloc (Nat.le_refl _) _, ⟨fun _ => ⟨_, rfl⟩, (fun h => by cases h), (fun h => by cases h)⟩, (fun h => by cases h), (fun h => by cases h)⟩
  obtain ⟨g7, rfl⟩ := hv7.1 rfl
  clear hv7
  iterate 2 (refine Go.Mix.mixR_step rfl (fun K hK => ?_); have HKK := Go.Lib.hid hK; clear hK; go_simp; refine HKK.out _ ?_; clear HKK K)
  refine Go.Mix.mixR_eff rfl rfl (fun w7 hw7 => ?_) (fun v10 hv10 => ?_)
  · refine effR_app0 eiQn (.tmp 13) (.tmp 15) rfl g7 rfl rfl (HQ.out.below (HBX.out.trans ((Below.trans (Below.drew (Below.refl _ W)) hw7).mono HBX.out.size)) (Nat.le_refl _)) HONE.out (by unfold maxLen; omega) (by omega) (fun a' c' w' h1 h2 => ?_)
    exact ⟨h2, ⟨(fun h => by cases h), fun _ => ⟨_, _, _, rfl⟩, (fun h => by cases h)⟩, fun _ => (by show SlT _ _ 3 _ mqs.length _; rw [HNQ.out]; exact h1), (fun h => by cases h)⟩
  obtain ⟨x10, n10, c10, rfl⟩ := hv10.2.1 rfl
  clear hv10
  iterate 3 (refine Go.Mix.mixR_step rfl (fun K hK => ?_); have HKK := Go.Lib.hid hK; clear hK; go_simp; refine HKK.out _ ?_; clear HKK K)
  refine Go.Mix.mixR_eff rfl rfl (fun w7 hw7 => ?_) (fun v14 hv14 => ?_)
  · go_simp
    exact ⟨(Below.refl _ _).alloc (Nat.le_refl _) _, ⟨(fun h => by cases h), (fun h => by cases h), fun _ => ⟨_, rfl⟩⟩, (fun h => by cases h), fun _ => ⟨w7.heap.size, rfl, (by have h7 : W.drew.heap.size ≤ w7.heap.size := GB.size hw7; have h8 : W.drew.heap.size = W.heap.size := rfl; omega), World.alloc_heap_new _ _⟩⟩
  obtain ⟨kb, rfl⟩ := hv14.2.2 rfl
  clear hv14
  refine Go.Mix.mixR_last rfl (fun w9 hg9 hΦ K hK => ?_)
  obtain ⟨⟨⟨_, f7⟩, f10⟩, f14⟩ := hΦ
  have g9 := f10.1 rfl
  obtain ⟨kb', hk1, hk2, hk3⟩ := f14.2 rfl
  simp only [Value.pointer.injEq, Option.some.injEq, Addr.mk.injEq, and_true] at hk1
  subst hk1
  rw [if_pos (show Region.wanted _ _ = true from rfl)]
  refine wp_store_row 40 (.tmp 5) (.tmp 19) rfl kb _ rfl rfl _ _ hk3 infoMsg rfl (by simp [Value.oneCell']) ?_
  have hgw : GB W w9 := Below.trans (Below.drew (Below.refl _ W)) hg9
  have o1 := hgw.heap HX1.out
  have o2 := hgw.heap HX2.out
  have k1 : w.heap.size ≠ kb := by omega
  have k2 : w.heap.size + 1 ≠ kb := by omega
  have hbw : Below w.heap.size w w9 := HBX.out.trans (hgw.mono HBX.out.size)
  refine hK _ _ ?_
  clear hK K
  have e1 := setRow_heap w9 kb _ #[.int .i64 mid, .bool true, .int .i64 mop, .bool false, .bool false, .bool mde, .bool true, .int .i64 code, .slice x10 n10 c10, .slice none 0 0, .slice none 0 0, .slice none 0 0, .bool med, .int .i64 0] _ _ hk3
  have e2 := (setRow_other w9 kb w.heap.size #[.int .i64 mid, .bool true, .int .i64 mop, .bool false, .bool false, .bool mde, .bool true, .int .i64 code, .slice x10 n10 c10, .slice none 0 0, .slice none 0 0, .slice none 0 0, .bool med, .int .i64 0] k1).trans o1
  have e3 := (setRow_other w9 kb (w.heap.size + 1) #[.int .i64 mid, .bool true, .int .i64 mop, .bool false, .bool false, .bool mde, .bool true, .int .i64 code, .slice x10 n10 c10, .slice none 0 0, .slice none 0 0, .slice none 0 0, .bool med, .int .i64 0] k2).trans o2
  have g9' := g9.setRow (new := #[.int .i64 mid, .bool true, .int .i64 mop, .bool false, .bool false, .bool mde, .bool true, .int .i64 code, .slice x10 n10 c10, .slice none 0 0, .slice none 0 0, .slice none 0 0, .bool med, .int .i64 0]) hk3 (by decide)
  have hbX := below_setRow hbw (show w.heap.size ≤ kb by omega) #[.int .i64 mid, .bool true, .int .i64 mop, .bool false, .bool false, .bool mde, .bool true, .int .i64 code, .slice x10 n10 c10, .slice none 0 0, .slice none 0 0, .slice none 0 0, .bool med, .int .i64 0]
  clear f7 f10 f14 g9 o1 o2 hg9 hgw hbw hk3 d0 d2 d5 d8 d12 hne
  generalize w9.setRow kb #[.int .i64 mid, .bool true, .int .i64 mop, .bool false, .bool false, .bool mde, .bool true, .int .i64 code, .slice x10 n10 c10, .slice none 0 0, .slice none 0 0, .slice none 0 0, .bool med, .int .i64 0] = X at *
  have hc2 := cell_of_heap e2 12
  have hc1 := cell_of_heap e1 13
  have hf1 := frozen_of_row X kb 13 _ _ e1
  simp only [List.getElem?_toArray, List.getElem?_cons_succ, List.getElem?_cons_zero] at hc2 hc1
  obtain ⟨fs, hu⟩ := undMsg
  have G9 := Go.Lib.hid g9'
  have HBX2 := Go.Lib.hid hbX
  have HU := Go.Lib.hid hu
  clear g9' hbX hu
  cases med with
  | true =>
    have E1 : (X.setCell ⟨kb, 13, none⟩ (.int .i64 1232)).heap[kb]? = some (.cells #[.int .i64 mid, .bool true, .int .i64 mop, .bool false, .bool false, .bool mde, .bool true, .int .i64 code, .slice x10 n10 c10, .slice none 0 0, .slice none 0 0, .slice none 0 0, .bool true, .int .i64 1232] 40 (0, 0)) := heap_setCell_same X kb 13 _ _ (.int .i64 1232) e1
    have E3 := (heap_setCell_other X ⟨kb, 13, none⟩ (w.heap.size + 1) (.int .i64 1232) k2).trans e3
    have F9 := G9.out.setCell (i := 13) (u := .int .i64 1232) e1 (by decide)
    have HB3 := HBX2.out.setCell (p := ⟨kb, 13, none⟩) (show w.heap.size ≤ kb by omega) (.int .i64 1232)
    have HF9 := Go.Lib.hid F9
    have HBX3 := Go.Lib.hid HB3
    have HE1 := Go.Lib.hid E1
    have HE3 := Go.Lib.hid E3
    have He1 := Go.Lib.hid e1
    have He2 := Go.Lib.hid e2
    have He3 := Go.Lib.hid e3
    clear F9 HB3 E1 E3 e1 e2 e3
    have hone : (#[.int .i64 mid, .bool true, .int .i64 mop, .bool false, .bool false, .bool mde, .bool true, .int .i64 code, .slice x10 n10 c10, .slice none 0 0, .slice none 0 0, .slice none 0 0, .bool true, .int .i64 1232] : Array Value).all (·.oneCell') = true := by simp [Value.oneCell']
    go_wp2_with (first | (refine wpList_load_row rfl 40 (.tmp 5) rfl kb rfl _ _ (0, 0) _ HE1.out HU.out rfl infoMsg ?_) | (refine wpList_store_row rfl 40 (.tmp 4) (.tmp 23) rfl (w.heap.size + 1) #[.int .i64 mid, .bool true, .int .i64 mop, .bool false, .bool false, .bool mde, .bool true, .int .i64 code, .slice x10 n10 c10, .slice none 0 0, .slice none 0 0, .slice none 0 0, .bool true, .int .i64 1232] rfl rfl _ _ HE3.out infoMsg rfl hone ?_))
    refine ret_msg (m := ⟨mid, true, mop, false, false, mde, true, code, mqs, [], [], [], true, 1232⟩) rfl rfl rfl (setRow_heap _ _ _ _ _ _ HE3.out) ?_
    rw [HREP.out]
    exact ⟨_, _, _, _, rfl, ⟨(HF9.out.setRow HE3.out (by decide)), SlT.nil _ _ _, SlT.nil _ _ _, SlT.nil _ _ _⟩, below_setRow HBX3.out (by omega) _⟩
  | false =>
    have He1 := Go.Lib.hid e1
    have He2 := Go.Lib.hid e2
    have He3 := Go.Lib.hid e3
    clear e1 e2 e3
    have hone : (#[.int .i64 mid, .bool true, .int .i64 mop, .bool false, .bool false, .bool mde, .bool true, .int .i64 code, .slice x10 n10 c10, .slice none 0 0, .slice none 0 0, .slice none 0 0, .bool false, .int .i64 0] : Array Value).all (·.oneCell') = true := by simp [Value.oneCell']
    go_wp2_with (first | (refine wpList_load_row rfl 40 (.tmp 5) rfl kb rfl _ _ (0, 0) _ He1.out HU.out rfl infoMsg ?_) | (refine wpList_store_row rfl 40 (.tmp 4) (.tmp 23) rfl (w.heap.size + 1) #[.int .i64 mid, .bool true, .int .i64 mop, .bool false, .bool false, .bool mde, .bool true, .int .i64 code, .slice x10 n10 c10, .slice none 0 0, .slice none 0 0, .slice none 0 0, .bool false, .int .i64 0] rfl rfl _ _ He3.out infoMsg rfl hone ?_))
    refine ret_msg (m := ⟨mid, true, mop, false, false, mde, true, code, mqs, [], [], [], false, 0⟩) rfl rfl rfl (setRow_heap _ _ _ _ _ _ He3.out) ?_
    rw [HREP.out]
    exact ⟨_, _, _, _, rfl, ⟨(G9.out.setRow He3.out (by decide)), SlT.nil _ _ _, SlT.nil _ _ _, SlT.nil _ _ _⟩, below_setRow HBX2.out (by omega) _⟩

set_option maxRecDepth 100000 in
set_option maxHeartbeats 4000000 in
theorem refReply_any (m : Msg) (q a s d : Value) (code : Int) (v2 v3 : Value) (an sv : List Rc.RR) (w : World) (hm : MsgL w m q a s d) (h2 : RRs w v2 an) (h3 : RRs w v3 sv)
    (l1 : m.qs.length ≤ 1000000) (l2 : an.length ≤ 1000000) (l3 : sv.length ≤ 1000000) :
    Calls Try.prog 22 #[MV m q a s d, .int .i64 code, v2, v3] w (RetM w (replyN m code an sv)) := by
  have hx := two_boxes w (MC m q a s d) (MC ⟨0, false, 0, false, false, false, false, 0, [], [], [], [], false, 0⟩ (.slice none 0 0) (.slice none 0 0) (.slice none 0 0) (.slice none 0 0)) 40
  obtain ⟨hx1, hx2⟩ := hx
  have hbx : Below w.heap.size w ((w.alloc (.cells (MC m q a s d) 40)).alloc (.cells (MC ⟨0, false, 0, false, false, false, false, 0, [], [], [], [], false, 0⟩ (.slice none 0 0) (.slice none 0 0) (.slice none 0 0) (.slice none 0 0)) 40)) := ((Below.refl _ w).alloc (Nat.le_refl _) _).alloc (by simp) _
  have hrep := refRefuse_any m q a s d code ((w.alloc (.cells (MC m q a s d) 40)).alloc (.cells (MC ⟨0, false, 0, false, false, false, false, 0, [], [], [], [], false, 0⟩ (.slice none 0 0) (.slice none 0 0) (.slice none 0 0) (.slice none 0 0)) 40)) (hm.below hbx (Nat.le_refl _)) l1
  have hlt2 := (Array.getElem?_eq_some_iff.1 hx2).1
  obtain ⟨aq, cq, rfl, _, _⟩ := hm.qs.slice
  obtain ⟨aa, ca, rfl, _, _⟩ := hm.an.slice
  obtain ⟨asv, cs, rfl, _, _⟩ := hm.sv.slice
  obtain ⟨ad, cd, rfl, _, _⟩ := hm.ad.slice
  obtain ⟨a2, c2, rfl, _, _⟩ := h2.slice
  obtain ⟨a3, c3, rfl, _, _⟩ := h3.slice
  obtain ⟨fs, hu⟩ := undMsg
  clear hm
  have hres : replyN m code an sv = { replyN m code [] [] with an := an, sv := sv } := rfl
  have hre0 : (replyN m code [] []).an = [] ∧ (replyN m code [] []).sv = [] ∧ (replyN m code [] []).ad = [] := ⟨rfl, rfl, rfl⟩
  generalize replyN m code [] [] = res0 at *
  generalize replyN m code an sv = res at *
  obtain ⟨mid, mre, mop, mau, mcu, mde, mav, mco, mqs, man, msv, mad, med, msi⟩ := m
  simp only [MC, MV] at hrep hx1 hx2 hbx hlt2 ⊢
  generalize mqs.length = nq at *
  generalize man.length = na at *
  generalize msv.length = ns at *
  generalize mad.length = nd at *
  unfold RRs at h2 h3
  generalize hn2 : an.length = n2 at h2 l2 ⊢
  generalize hn3 : sv.length = n3 at h3 l3 ⊢
  have hone2 := one_rrs an
  have hone3 := one_rrs sv
  have HREP := Go.Lib.hid hrep
  have HX1 := Go.Lib.hid hx1
  have HX2 := Go.Lib.hid hx2
  have HBX := Go.Lib.hid hbx
  have HU := Go.Lib.hid hu
  have H2 := Go.Lib.hid h2
  have H3 := Go.Lib.hid h3
  have HN2 := Go.Lib.hid hn2
  have HN3 := Go.Lib.hid hn3
  have HONE2 := Go.Lib.hid hone2
  have HONE3 := Go.Lib.hid hone3
  have HRES := Go.Lib.hid hres
  have HRE0 := Go.Lib.hid hre0
  clear hrep hx1 hx2 hbx hu h2 h3 hn2 hn3 hone2 hone3 hres hre0
  go_enter Try.func22, Try.ntmps22
  go_wp2_with (refine wpList_load_row rfl 40 (.tmp 4) rfl w.heap.size rfl _ _ (0, 0) _ HX1.out HU.out rfl infoMsg ?_)
  refine HREP.out.mono ?_; rintro e wb ⟨q', a', s', d', rfl, hm', hb'⟩
  obtain ⟨rid, rre, rop, rau, rcu, rde, rav, rco, rqs, ran, rsv, rad, red, rsi⟩ := res0
  obtain ⟨y1, y2, y3⟩ := HRE0.out
  simp only at y1 y2 y3
  subst y1 y2 y3
  obtain ⟨hq', ha', hs', hd'⟩ := hm'
  obtain ⟨aq', cq', rfl, _, _⟩ := hq'.1.slice
  obtain ⟨aa', ca', rfl, _, _⟩ := ha'.1.slice
  obtain ⟨as', cs', rfl, _, _⟩ := hs'.1.slice
  obtain ⟨ad', cd', rfl, _, _⟩ := hd'.1.slice
  have h2 := (hb'.block _ hlt2).trans HX2.out
  have hwb := hb'.size
  have hbb := HBX.out.trans (hb'.mono HBX.out.size)
  simp only [MV, MC] at hq' hs' ha' hd' ⊢
  generalize hnq' : rqs.length = nq' at hq' ⊢
  have hone : (#[.int .i64 rid, .bool rre, .int .i64 rop, .bool rau, .bool rcu, .bool rde, .bool rav, .int .i64 rco, .slice aq' nq' cq', .slice aa' ([] : List Rc.RR).length ca', .slice as' ([] : List Rc.RR).length cs', .slice ad' ([] : List Rc.RR).length cd', .bool red, .int .i64 rsi] : Array Value).all (·.oneCell') = true := by simp [Value.oneCell']
  simp only [List.length_nil] at hone hs' ha' hd' ⊢
  have hbz := hbb.size
  have hw2 : w.heap.size + 2 ≤ wb.heap.size := by simpa using hwb
  have HNQ' := Go.Lib.hid hnq'
  have HQ' := Go.Lib.hid hq'
  have HD' := Go.Lib.hid hd'
  have HB := Go.Lib.hid hb'
  have H22 := Go.Lib.hid h2
  have HONE := Go.Lib.hid hone
  have HBB := Go.Lib.hid hbb
  clear hnq' hq' hd' hb' h2 hone hbb
  clear ha' hs'
  have hb1 : Below w.heap.size w ((wb.alloc (.cells #[.int .i64 rid, .bool rre, .int .i64 rop, .bool rau, .bool rcu, .bool rde, .bool rav, .int .i64 rco, .slice aq' nq' cq', .slice aa' 0 ca', .slice as' 0 cs', .slice ad' 0 cd', .bool red, .int .i64 rsi] 40)).alloc (.cells #[] 90)) := (HBB.out.alloc (by omega) _).alloc (by simp; omega) _
  have hbw0 : Below wb.heap.size wb ((wb.alloc (.cells #[.int .i64 rid, .bool rre, .int .i64 rop, .bool rau, .bool rcu, .bool rde, .bool rav, .int .i64 rco, .slice aq' nq' cq', .slice aa' 0 ca', .slice as' 0 cs', .slice ad' 0 cd', .bool red, .int .i64 rsi] 40)).alloc (.cells #[] 90)) := ((Below.refl _ wb).alloc (Nat.le_refl _) _).alloc (by simp) _
  have hk1 : ((wb.alloc (.cells #[.int .i64 rid, .bool rre, .int .i64 rop, .bool rau, .bool rcu, .bool rde, .bool rav, .int .i64 rco, .slice aq' nq' cq', .slice aa' 0 ca', .slice as' 0 cs', .slice ad' 0 cd', .bool red, .int .i64 rsi] 40)).alloc (.cells #[] 90)).heap[wb.heap.size]? = some (.cells #[.int .i64 rid, .bool rre, .int .i64 rop, .bool rau, .bool rcu, .bool rde, .bool rav, .int .i64 rco, .slice aq' nq' cq', .slice aa' 0 ca', .slice as' 0 cs', .slice ad' 0 cd', .bool red, .int .i64 rsi] 40 (0, 0)) := heap_old (World.alloc_heap_new wb _) _
  have HB1 := Go.Lib.hid hb1
  have HBW0 := Go.Lib.hid hbw0
  have HK1 := Go.Lib.hid hk1
  clear hb1 hbw0 hk1
  go_wp2_with (first | (refine wpList_store_row rfl 40 (.tmp 9) (.tmp 12) rfl wb.heap.size _ rfl rfl _ _ (World.alloc_heap_new _ _) infoMsg rfl HONE.out ?_; rw [World.setRow_alloc_new]) | (at_builtin; go_loud (refine wp_app0 eiRR (.tmp 13) (.tmp 14) rfl rfl _ rfl rfl (H2.out.below HB1.out (Nat.le_refl _)) HONE2.out (by unfold maxLen; omega) (by omega) (fun a1 c1 w1 g1 b1 => ?_); have k1 := (b1.block _ (Array.getElem?_eq_some_iff.1 HK1.out).1).trans HK1.out; have hc9 := cell_of_heap k1 9; have hf9 := frozen_of_row w1 wb.heap.size 9 _ _ k1; simp only [List.getElem?_toArray, List.getElem?_cons_succ, List.getElem?_cons_zero] at hc9; have hbw1 := HBW0.out.trans (b1.mono HBW0.out.size); have hb2 := HB1.out.trans (b1.mono HB1.out.size); have k3 : ((w1.setCell ⟨wb.heap.size, 9, none⟩ (.slice a1 n2 c1)).alloc (.cells #[] 90)).heap[wb.heap.size]? = some (.cells #[.int .i64 rid, .bool rre, .int .i64 rop, .bool rau, .bool rcu, .bool rde, .bool rav, .int .i64 rco, .slice aq' nq' cq', .slice a1 n2 c1, .slice as' 0 cs', .slice ad' 0 cd', .bool red, .int .i64 rsi] 40 (0, 0)) := heap_old (heap_setCell_same w1 wb.heap.size 9 _ _ (.slice a1 n2 c1) k1) _; have hb3 : Below w.heap.size w ((w1.setCell ⟨wb.heap.size, 9, none⟩ (.slice a1 n2 c1)).alloc (.cells #[] 90)) := (hb2.setCell (p := ⟨wb.heap.size, 9, none⟩) (show w.heap.size ≤ wb.heap.size by omega) _).alloc (by have := hb2.size; simp; omega) _; have f1 := (g1.setCell (i := 9) (u := .slice a1 n2 c1) k1 (by decide)).below ((Below.refl _ _).alloc (Nat.le_refl _) (.cells #[] 90)); have q1 := ((HQ'.out.below hbw1).setCell (i := 9) (u := .slice a1 n2 c1) k1 (by decide)).below ((Below.refl _ _).alloc (Nat.le_refl _) (.cells #[] 90)); have d1 := ((HD'.out.below hbw1).setCell (i := 9) (u := .slice a1 n2 c1) k1 (by decide)).below ((Below.refl _ _).alloc (Nat.le_refl _) (.cells #[] 90)); have o1 := heap_old ((heap_setCell_other w1 ⟨wb.heap.size, 9, none⟩ (w.heap.size + 1) (.slice a1 n2 c1) (show w.heap.size + 1 ≠ wb.heap.size by omega)).trans ((hbw1.block _ (Array.getElem?_eq_some_iff.1 H22.out).1).trans H22.out)) (.cells #[] 90); have HK3 := Go.Lib.hid k3; clear k3; have HB3 := Go.Lib.hid hb3; clear hb3; have HF1 := Go.Lib.hid f1; clear f1; have HQ1 := Go.Lib.hid q1; clear q1; have HD1 := Go.Lib.hid d1; clear d1; have HO1 := Go.Lib.hid o1; clear o1; clear g1 b1 k1 hbw1 hb2)) | (at_builtin; go_loud (refine wp_app0 eiRR (.tmp 17) (.tmp 18) rfl rfl _ rfl rfl (H3.out.below HB3.out (Nat.le_refl _)) HONE3.out (by unfold maxLen; omega) (by omega) (fun a5 c5 w5 g5 b5 => ?_)); go_loud (have k5 := (b5.block _ (Array.getElem?_eq_some_iff.1 HK3.out).1).trans HK3.out); go_loud (have hc10 := cell_of_heap k5 10); go_loud (have hf10 := frozen_of_row w5 wb.heap.size 10 _ _ k5); go_loud (simp only [List.getElem?_toArray, List.getElem?_cons_succ, List.getElem?_cons_zero] at hc10); go_loud (have e5 : (w5.setCell ⟨wb.heap.size, 10, none⟩ (.slice a5 n3 c5)).heap[wb.heap.size]? = some (.cells #[.int .i64 rid, .bool rre, .int .i64 rop, .bool rau, .bool rcu, .bool rde, .bool rav, .int .i64 rco, .slice aq' nq' cq', .slice a1 n2 c1, .slice a5 n3 c5, .slice ad' 0 cd', .bool red, .int .i64 rsi] 40 (0, 0)) := heap_setCell_same w5 wb.heap.size 10 _ _ (.slice a5 n3 c5) k5); go_loud (have o5 := (heap_setCell_other w5 ⟨wb.heap.size, 10, none⟩ (w.heap.size + 1) (.slice a5 n3 c5) (show w.heap.size + 1 ≠ wb.heap.size by omega)).trans ((b5.block _ (Array.getElem?_eq_some_iff.1 HO1.out).1).trans HO1.out)); go_loud (have f5 := ((HF1.out.below b5).setCell (i := 10) (u := .slice a5 n3 c5) k5 (by decide)).setRow (new := #[.int .i64 rid, .bool rre, .int .i64 rop, .bool rau, .bool rcu, .bool rde, .bool rav, .int .i64 rco, .slice aq' nq' cq', .slice a1 n2 c1, .slice a5 n3 c5, .slice ad' 0 cd', .bool red, .int .i64 rsi]) o5 (by decide)); go_loud (have g6 := (g5.setCell (i := 10) (u := .slice a5 n3 c5) k5 (by decide)).setRow (new := #[.int .i64 rid, .bool rre, .int .i64 rop, .bool rau, .bool rcu, .bool rde, .bool rav, .int .i64 rco, .slice aq' nq' cq', .slice a1 n2 c1, .slice a5 n3 c5, .slice ad' 0 cd', .bool red, .int .i64 rsi]) o5 (by decide)); go_loud (have q5 := ((HQ1.out.below b5).setCell (i := 10) (u := .slice a5 n3 c5) k5 (by decide)).setRow (new := #[.int .i64 rid, .bool rre, .int .i64 rop, .bool rau, .bool rcu, .bool rde, .bool rav, .int .i64 rco, .slice aq' nq' cq', .slice a1 n2 c1, .slice a5 n3 c5, .slice ad' 0 cd', .bool red, .int .i64 rsi]) o5 (by decide)); go_loud (have d5 := ((HD1.out.below b5).setCell (i := 10) (u := .slice a5 n3 c5) k5 (by decide)).setRow (new := #[.int .i64 rid, .bool rre, .int .i64 rop, .bool rau, .bool rcu, .bool rde, .bool rav, .int .i64 rco, .slice aq' nq' cq', .slice a1 n2 c1, .slice a5 n3 c5, .slice ad' 0 cd', .bool red, .int .i64 rsi]) o5 (by decide)); go_loud (have hb5 := below_setRow ((HB3.out.trans (b5.mono HB3.out.size)).setCell (p := ⟨wb.heap.size, 10, none⟩) (show w.heap.size ≤ wb.heap.size by omega) (.slice a5 n3 c5)) (show w.heap.size ≤ w.heap.size + 1 by omega) #[.int .i64 rid, .bool rre, .int .i64 rop, .bool rau, .bool rcu, .bool rde, .bool rav, .int .i64 rco, .slice aq' nq' cq', .slice a1 n2 c1, .slice a5 n3 c5, .slice ad' 0 cd', .bool red, .int .i64 rsi]); go_loud (have hone5 : (#[.int .i64 rid, .bool rre, .int .i64 rop, .bool rau, .bool rcu, .bool rde, .bool rav, .int .i64 rco, .slice aq' nq' cq', .slice a1 n2 c1, .slice a5 n3 c5, .slice ad' 0 cd', .bool red, .int .i64 rsi] : Array Value).all (·.oneCell') = true := by simp [Value.oneCell']); go_loud (have HE5 := Go.Lib.hid e5); go_loud (clear e5); go_loud (have HO5 := Go.Lib.hid o5); go_loud (clear o5); go_loud (have HF5 := Go.Lib.hid f5); go_loud (clear f5); go_loud (have HG6 := Go.Lib.hid g6); go_loud (clear g6); go_loud (have HQ5 := Go.Lib.hid q5); go_loud (clear q5); go_loud (have HD5 := Go.Lib.hid d5); go_loud (clear d5); go_loud (have HB5 := Go.Lib.hid hb5); go_loud (clear hb5); go_loud (have HONE5 := Go.Lib.hid hone5); go_loud (clear hone5); go_loud (clear g5 b5 k5)) | (refine wpList_load_row rfl 40 (.tmp 9) rfl wb.heap.size rfl _ _ (0, 0) _ HE5.out HU.out rfl infoMsg ?_) | (refine wpList_store_row rfl 40 (.tmp 8) (.tmp 21) rfl (w.heap.size + 1) _ rfl rfl _ _ HO5.out infoMsg rfl HONE5.out ?_))
  refine ret_msg (m := ⟨rid, rre, rop, rau, rcu, rde, rav, rco, rqs, an, sv, [], red, rsi⟩) rfl rfl rfl (setRow_heap _ _ _ _ _ _ HO5.out) ?_
  rw [HRES.out]
  refine ⟨_, _, _, _, rfl, ⟨?_, ?_, ?_, HD5.out⟩, HB5.out⟩
  · show SlT _ _ 3 _ rqs.length _
    rw [HNQ'.out]
    exact HQ5.out
  · show SlT _ _ 5 _ an.length _
    rw [HN2.out]
    exact HF5.out
  · show SlT _ _ 5 _ sv.length _
    rw [HN3.out]
    exact HG6.out
end Go.Proofs.Ytblbphnmflbepaa

