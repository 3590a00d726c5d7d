/- Merged texts of the seat, in their order: EncD, SamA, SamB, SamC, SamD, AwkA, AwkB, HdA, HdB, HdC. -/
import Derived.Test.YthfhmbooeemaaaaG3
import Derived.Test.YthfhmbooeemaaaaG5
import Derived.Test.YthfhmbooeemaaaaG6
/- Message: Encode's walk. -/
namespace Go.Proofs.Ythfhmbooeemaaaa
open Go.RowKit Go.Lib Go.Maps Go.Sq
set_option maxRecDepth 100000
set_option linter.unusedVariables false

attribute [local go_sem] Oper.semAt_some

set_option maxHeartbeats 8000000 in
theorem Encode_ok (m : Msg) (q a s d : Value) (w : World) (hm : MsgL w m q a s d) (hs : MsgS m) (hc : checkM m = true) (HP : ∀ x ∈ allR m, PutOk x.2) : Calls Try.prog 16 #[MV m q a s d] w (EncEnd w (encN m)) := by
  obtain ⟨F, hF⟩ : ∃ F, F = encN m := ⟨_, rfl⟩
  rw [← hF]
  have hF2 : F = outN 4096 (endW m (bodyW m).1) false := by rw [hF]; unfold encN; rw [hc]; rfl
  obtain ⟨aq, cq, rfl, _, _⟩ := hm.qs.slice
  obtain ⟨aa, ca, rfl, _, _⟩ := hm.an.slice
  obtain ⟨av, cs, rfl, _, _⟩ := hm.sv.slice
  obtain ⟨ad, cd, rfl, _, _⟩ := hm.ad.slice
  obtain ⟨X, hX⟩ : ∃ X, w.alloc (.cells (MC m (.slice aq m.qs.length cq) (.slice aa m.an.length ca) (.slice av m.sv.length cs) (.slice ad m.ad.length cd)) 27) = X := ⟨_, rfl⟩
  have hb : Below w.heap.size w X := by rw [← hX]; exact (Below.refl _ w).alloc (Nat.le_refl _) _
  have g1 : X.heap[w.heap.size]? = some (.cells (MC m (.slice aq m.qs.length cq) (.slice aa m.an.length ca) (.slice av m.sv.length cs) (.slice ad m.ad.length cd)) 27 (0, 0)) := by rw [← hX]; exact heap_alloc_new _ _
  have hck := MCheck_any m _ _ _ _ X (hm.below hb (Nat.le_refl _)) hs
  rw [hc] at hck
  obtain ⟨fs, hu⟩ := undMsg
  have hcc : 0 ≤ m.op ∧ m.op ≤ 15 := by
    unfold checkM headOk withinN at hc
    simp only [Bool.and_eq_true, decide_eq_true_eq] at hc
    omega
  have hq : m.qs.all qOk = true := by
    unfold checkM at hc
    simp only [Bool.and_eq_true] at hc
    exact hc.1.2
  have HCK := Go.Lib.hid hck
  have G1 := Go.Lib.hid g1
  have HB := Go.Lib.hid hb
  have HU := Go.Lib.hid hu
  have HM := Go.Lib.hid hm
  have HS := Go.Lib.hid hs
  have HC := Go.Lib.hid hc
  have HPUT := Go.Lib.hid HP
  have HF := Go.Lib.hid hF
  have HF2 := Go.Lib.hid hF2
  have HCC := Go.Lib.hid hcc
  have HQQ := Go.Lib.hid hq
  clear hck g1 hb hu hm hs hc HP hF hF2 hcc hq
  obtain ⟨mid, mre, mop, mau, mcu, mde, mav, mco, mqs, man, msv, mad, med, msi⟩ := m
  simp only at *
  have hcq : mqs.length ≤ 4 ∧ man.length ≤ 64 ∧ msv.length ≤ 64 ∧ mad.length ≤ 64 := by
    have := HC.out
    unfold checkM cntOk at this
    simp only [Bool.and_eq_true, decide_eq_true_eq] at this
    omega
  obtain ⟨lq, la, ls, ld⟩ := hcq
  generalize hnq : mqs.length = nq at *
  generalize hna : man.length = na at *
  generalize hns : msv.length = ns at *
  generalize hnd : mad.length = nd at *
  have HNQ := Go.Lib.hid hnq
  have HNA := Go.Lib.hid hna
  have HNS := Go.Lib.hid hns
  have HND := Go.Lib.hid hnd
  clear hnq hna hns hnd
  simp only [MC] at hX
  have y0 : X.cell? ⟨w.heap.size, 0, none⟩ = some (.int .i64 mid) := row_cell G1.out 0 _ rfl
  have y1 : X.cell? ⟨w.heap.size, 1, none⟩ = some (.bool mre) := row_cell G1.out 1 _ rfl
  have y2 : X.cell? ⟨w.heap.size, 2, none⟩ = some (.int .i64 mop) := row_cell G1.out 2 _ rfl
  have y3 : X.cell? ⟨w.heap.size, 3, none⟩ = some (.bool mau) := row_cell G1.out 3 _ rfl
  have y4 : X.cell? ⟨w.heap.size, 4, none⟩ = some (.bool mcu) := row_cell G1.out 4 _ rfl
  have y5 : X.cell? ⟨w.heap.size, 5, none⟩ = some (.bool mde) := row_cell G1.out 5 _ rfl
  have y6 : X.cell? ⟨w.heap.size, 6, none⟩ = some (.bool mav) := row_cell G1.out 6 _ rfl
  have y7 : X.cell? ⟨w.heap.size, 7, none⟩ = some (.int .i64 mco) := row_cell G1.out 7 _ rfl
  have y8 : X.cell? ⟨w.heap.size, 8, none⟩ = some (.slice aq nq cq) := row_cell G1.out 8 _ rfl
  have y9 : X.cell? ⟨w.heap.size, 9, none⟩ = some (.slice aa na ca) := row_cell G1.out 9 _ rfl
  have y10 : X.cell? ⟨w.heap.size, 10, none⟩ = some (.slice av ns cs) := row_cell G1.out 10 _ rfl
  have y11 : X.cell? ⟨w.heap.size, 11, none⟩ = some (.slice ad nd cd) := row_cell G1.out 11 _ rfl
  have y12 : X.cell? ⟨w.heap.size, 12, none⟩ = some (.bool med) := row_cell G1.out 12 _ rfl
  have y13 : X.cell? ⟨w.heap.size, 13, none⟩ = some (.int .i64 msi) := row_cell G1.out 13 _ rfl
  refine (callsIn_wide (n := 8)).1 ?_
  refine callsIn_of_wp_marks Try.func16 rfl trivial ?_ rfl
  simp only [Try.ntmps16, List.size_toArray, List.length_cons, List.length_nil, Nat.reduceAdd, Nat.reduceSub, Array.replicate_succ, Array.replicate_zero, List.push_toArray, List.append_toArray, List.nil_append, List.cons_append]
  gi_wp2_with fail
  refine ⟨trivial, (callsIn_wide.2 HCK.out).mono ?_⟩
  rintro e w1 ⟨rfl, h1⟩
  clear y0 y1 y2 y3 y4 y5 y6 y7 y8 y9 y10 y11 y12 y13 hX
  have H1 := Go.Lib.hid h1
  clear h1
  gi_wp2_with fail
  refine ⟨trivial, (callsIn_wide.2 (WNew_any 4096 w1)).mono ?_⟩
  rintro e w2 ⟨g, bm, rfl, hc, hws⟩
  have hba : Below w2.heap.size w2 (w2.alloc (.cells #[.pointer (some ⟨g, 0, none⟩)] 76)) := (Below.refl _ w2).alloc (Nat.le_refl _) _
  have hptr := heap_alloc_new w2 (.cells #[.pointer (some ⟨g, 0, none⟩)] 76)
  have hws2 := hws.below hc hba
  have hbX : Below w.heap.size w w1 := HB.out.trans (H1.out.mono HB.out.size)
  have gN := (hba.block _ (Nat.lt_of_lt_of_le (Array.getElem?_eq_some_iff.1 ((H1.out.block _ (Array.getElem?_eq_some_iff.1 G1.out).1).trans G1.out)).1 hws.2.1.size)).trans ((hws.2.1.block _ (Array.getElem?_eq_some_iff.1 ((H1.out.block _ (Array.getElem?_eq_some_iff.1 G1.out).1).trans G1.out)).1).trans ((H1.out.block _ (Array.getElem?_eq_some_iff.1 G1.out).1).trans G1.out))
  obtain ⟨Y, hY⟩ : ∃ Y, w2.alloc (.cells #[.pointer (some ⟨g, 0, none⟩)] 76) = Y := ⟨_, rfl⟩
  rw [hY] at hba hptr hws2 gN
  have HWC := Go.Lib.hid hc
  have HWS := Go.Lib.hid hws2
  have HBA := Go.Lib.hid hba
  have HPTR := Go.Lib.hid hptr
  have HBX := Go.Lib.hid hbX
  have GN := Go.Lib.hid gN
  clear hc hws2 hba hptr hbX gN
  clear hws
  have y12 : Y.cell? ⟨w.heap.size, 12, none⟩ = some (.bool med) := row_cell GN.out 12 _ rfl
  have hflag : ∃ fl : Int, fl = flagN med 0 ∧ 0 ≤ fl ∧ fl ≤ 1 := ⟨_, rfl, by cases med <;> decide, by cases med <;> decide⟩
  obtain ⟨fl, hfl, fl0, fl1⟩ := hflag
  have hfc : ∀ W, Calls Try.prog 36 #[.bool med, .int .i64 0] W fun e w' => e = .returned (.int .i64 fl) ∧ w' = W := fun W => by rw [hfl]; exact flag_lit med 0 (by omega) W
  have HFC := Go.Lib.hid hfc
  have HFL := Go.Lib.hid hfl
  clear hfc hfl
  gi_wp2_with fail
  refine ⟨trivial, (callsIn_wide.2 (HFC.out _)).mono ?_⟩
  rintro e w9 ⟨rfl, hw9⟩
  have hw8 := hw9.symm
  clear hw9
  subst hw8
  gi_upto_region 5 with fail
  gi_cut [37, 38, 39] from 12 (fun v37 v38 v39 wx => ∃ g6, v37 = .slice (some ⟨g6, 0, none⟩) 6 6 ∧ v38 = .int .i64 6 ∧ v39 = .int .i64 0 ∧ Below Y.heap.size Y wx ∧ wx.heap[g6]? = some (.cells #[.int .i64 mid, .int .i64 (flagsN ⟨mid, mre, mop, mau, mcu, mde, mav, mco, mqs, man, msv, mad, med, msi⟩), .int .i64 nq, .int .i64 na, .int .i64 ns, .int .i64 (nd + fl)] 3 (0, 0)))
  case first =>
    have hlY := (Array.getElem?_eq_some_iff.1 GN.out).1
    have Z0 := BelowC.cell (W := Y) (show Y.cell? ⟨w.heap.size, 0, none⟩ = some (.int .i64 mid) from row_cell GN.out 0 _ rfl) hlY
    have Z1 := BelowC.cell (W := Y) (show Y.cell? ⟨w.heap.size, 1, none⟩ = some (.bool mre) from row_cell GN.out 1 _ rfl) hlY
    have Z2 := BelowC.cell (W := Y) (show Y.cell? ⟨w.heap.size, 2, none⟩ = some (.int .i64 mop) from row_cell GN.out 2 _ rfl) hlY
    have Z3 := BelowC.cell (W := Y) (show Y.cell? ⟨w.heap.size, 3, none⟩ = some (.bool mau) from row_cell GN.out 3 _ rfl) hlY
    have Z4 := BelowC.cell (W := Y) (show Y.cell? ⟨w.heap.size, 4, none⟩ = some (.bool mcu) from row_cell GN.out 4 _ rfl) hlY
    have Z5 := BelowC.cell (W := Y) (show Y.cell? ⟨w.heap.size, 5, none⟩ = some (.bool mde) from row_cell GN.out 5 _ rfl) hlY
    have Z6 := BelowC.cell (W := Y) (show Y.cell? ⟨w.heap.size, 6, none⟩ = some (.bool mav) from row_cell GN.out 6 _ rfl) hlY
    have Z7 := BelowC.cell (W := Y) (show Y.cell? ⟨w.heap.size, 7, none⟩ = some (.int .i64 mco) from row_cell GN.out 7 _ rfl) hlY
    have Z8 := BelowC.cell (W := Y) (show Y.cell? ⟨w.heap.size, 8, none⟩ = some (.slice aq nq cq) from row_cell GN.out 8 _ rfl) hlY
    have Z9 := BelowC.cell (W := Y) (show Y.cell? ⟨w.heap.size, 9, none⟩ = some (.slice aa na ca) from row_cell GN.out 9 _ rfl) hlY
    have Z10 := BelowC.cell (W := Y) (show Y.cell? ⟨w.heap.size, 10, none⟩ = some (.slice av ns cs) from row_cell GN.out 10 _ rfl) hlY
    have Z11 := BelowC.cell (W := Y) (show Y.cell? ⟨w.heap.size, 11, none⟩ = some (.slice ad nd cd) from row_cell GN.out 11 _ rfl) hlY
    have Z12 := BelowC.cell (W := Y) (show Y.cell? ⟨w.heap.size, 12, none⟩ = some (.bool med) from row_cell GN.out 12 _ rfl) hlY
    have Z13 := BelowC.cell (W := Y) (show Y.cell? ⟨w.heap.size, 13, none⟩ = some (.int .i64 msi) from row_cell GN.out 13 _ rfl) hlY
    have hne : Nonempty (Subtype (Below Y.heap.size Y)) := ⟨⟨Y, Below.refl _ _⟩⟩
    have HBC := Go.Lib.hid (show Below Y.heap.size Y Y.drew from (Below.refl Y.heap.size Y).drew)
    have q1 : IntKind.i64.wrap ((nd : Int) + fl) = (nd : Int) + fl := wrapi (by omega) (by omega)
    have hfls := fun W => flags_any ⟨mid, mre, mop, mau, mcu, mde, mav, mco, mqs, man, msv, mad, med, msi⟩ (.slice aq nq cq) (.slice aa na ca) (.slice av ns cs) (.slice ad nd cd) W HCC.out
    have HFLS := Go.Lib.hid hfls
    clear hfls
    clear y12 hY
    refine wpIn_wide.2 ?_
    refine Go.Mix.wp_region_mix (Es := [3, 18]) (Below Y.heap.size Y) mixed (by kernel_rfl) (Below.refl _ _).drew (fun _ => ?_)
    iterate 3 (refine Go.Mix.mix_step rfl (fun K hK => ?_); have HKK := Go.Lib.hid hK; clear hK; go_simp; refine HKK.out _ _ ?_; clear HKK K)
    refine Go.Mix.mix_eff rfl (fun K hK => ?_)
    have HKK := Go.Lib.hid hK
    clear hK
    go_simp
    refine (HFLS.out _).mono ?_; rintro e wb1 ⟨rfl, hx⟩
    have hb := HBC.out.trans (hx.mono HBC.out.size)
    clear HBC
    have HBC := Go.Lib.hid hb
    clear hx hb
    go_simp
    refine HKK.out _ _ HBC.out ?_
    clear HKK K
    iterate 14 (refine Go.Mix.mix_step rfl (fun K hK => ?_); have HKK := Go.Lib.hid hK; clear hK; go_simp; refine HKK.out _ _ ?_; clear HKK K)
    have hnew := heap_alloc_new wb1 (.cells #[.int .i64 mid, .int .i64 (flagsN ⟨mid, mre, mop, mau, mcu, mde, mav, mco, mqs, man, msv, mad, med, msi⟩), .int .i64 nq, .int .i64 na, .int .i64 ns, .int .i64 (nd + fl)] 3)
    have hbn := HBC.out.alloc HBC.out.size (.cells #[.int .i64 mid, .int .i64 (flagsN ⟨mid, mre, mop, mau, mcu, mde, mav, mco, mqs, man, msv, mad, med, msi⟩), .int .i64 nq, .int .i64 na, .int .i64 ns, .int .i64 (nd + fl)] 3)
    have HNEW := Go.Lib.hid hnew
    have HBN := Go.Lib.hid hbn
    clear hnew hbn
    refine Go.Mix.mix_eff rfl (fun K hK => ?_)
    have HKK := Go.Lib.hid hK
    clear hK
    go_simp
    refine HKK.out _ _ HBN.out ?_
    clear HKK K
    iterate 2 (refine Go.Mix.mix_step rfl (fun K hK => ?_); have HKK := Go.Lib.hid hK; clear hK; go_simp; refine HKK.out _ _ ?_; clear HKK K)
    refine Go.Mix.mix_nil ?_
    gi_wp2_with fail
    gi_meet
    case rel => exact ⟨_, rfl, rfl, rfl, HBN.out, HNEW.out⟩
  case rest =>
  obtain ⟨g6, rfl, rfl, rfl, hbc, hrow⟩ := hcut
  have hws3 := HWS.out.below HWC.out hbc
  have hp4 := (hbc.block _ (Array.getElem?_eq_some_iff.1 HPTR.out).1).trans HPTR.out
  have hgm := (hbc.block _ (Array.getElem?_eq_some_iff.1 GN.out).1).trans GN.out
  have hpw : ∀ W, KW bm wc W → W.cell? ⟨w2.heap.size, 0, none⟩ = some (.pointer (some ⟨g, 0, none⟩)) := fun W h => row_cell (h.row hp4 ⟨by decide, by decide⟩) 0 _ rfl
  have hgw : ∀ W, KW bm wc W → W.heap[w.heap.size]? = some (.cells (MC ⟨mid, mre, mop, mau, mcu, mde, mav, mco, mqs, man, msv, mad, med, msi⟩ (.slice aq nq cq) (.slice aa na ca) (.slice av ns cs) (.slice ad nd cd)) 27 (0, 0)) := fun W h => h.row hgm ⟨by decide, by decide⟩
  obtain ⟨H, hH⟩ : ∃ H : List Int, H = [mid, flagsN ⟨mid, mre, mop, mau, mcu, mde, mav, mco, mqs, man, msv, mad, med, msi⟩, (nq : Int), (na : Int), (ns : Int), (nd : Int) + fl] := ⟨_, rfl⟩
  have hHl : H.length = 6 := by rw [hH]; rfl
  have hrw : ∀ W, KW bm wc W → ∀ k, k < 6 → W.cell? ⟨g6, k, none⟩ = some (.int .i64 (H.getD k 0)) := fun W h k hk => by
    have h1 := h.row hrow ⟨by decide, by decide⟩
    rw [hH]
    rcases (by omega : k = 0 ∨ k = 1 ∨ k = 2 ∨ k = 3 ∨ k = 4 ∨ k = 5) with rfl | rfl | rfl | rfl | rfl | rfl <;> exact row_cell h1 _ _ rfl
  have HWS3 := Go.Lib.hid hws3
  have HPW := Go.Lib.hid hpw
  have HGW := Go.Lib.hid hgw
  have HRW := Go.Lib.hid hrw
  have HH := Go.Lib.hid hH
  have HHL := Go.Lib.hid hHl
  clear hws3 hpw hgw hrw hH hHl
  clear hbc hrow hp4 hgm y12 hY HFC
  gi_wp2_with fail
  gi_loopw [39] (fun i wr => ∃ k : Nat, i = .int .i64 k ∧ k ≤ 6 ∧ WS g bm w1.heap.size w1 4096 ((H.take k).flatMap two2) [] false wr ∧ KW bm wc wr) (fun i _ => 6 - (RowKit.intOf i).toNat)
  case atStart => exact ⟨0, rfl, by omega, HWS3.out, .refl _ _⟩
  case round =>
    obtain ⟨k, rfl, hk, hws, hkw⟩ := hrel
    have p4 := HPW.out _ hkw
    by_cases hlt : k < 6
    · have t1 : (k : Int) < 6 := by omega
      have t0 : (0 : Int) ≤ (k : Int) := by omega
      have q2 : IntKind.i64.wrap ((k : Int) + 1) = (k : Int) + 1 := wrapi (by omega) (by omega)
      have x6 := HRW.out _ hkw k hlt
      have hfl := flat_len (H.take k)
      rw [List.length_take, HHL.out, Nat.min_eq_left hk] at hfl
      have htwo := WTwo_any HWC.out hws (H.getD k 0) (by omega)
      have hst := flat_step (l := H) (k := k) (by rw [HHL.out]; exact hlt)
      rw [← hst] at htwo
      generalize H.getD k 0 = hv at *
      have HTWO := Go.Lib.hid htwo
      have HKW := Go.Lib.hid hkw
      clear htwo hkw
      clear hws hst hfl
      gi_wp2_with fail
      refine ⟨trivial, (callsIn_wide.2 HTWO.out).mono ?_⟩
      rintro e wz ⟨⟨vz, rfl⟩, hwz, hkz⟩
      have hkz2 := HKW.out.trans hkz
      have HWZ := Go.Lib.hid hwz
      have HKZ := Go.Lib.hid hkz2
      clear hwz hkz2
      clear hkz
      gi_wp2_with fail
      go_roundw
      case rel => exact ⟨k + 1, by go_num, by omega, HWZ.out, HKZ.out⟩
      case measure => simp [RowKit.intOf]; omega
    · obtain rfl : k = 6 := by omega
      have hst : H.take 6 = H := List.take_of_length_le (by rw [HHL.out]; omega)
      rw [hst] at hws
      have hfl := flat_len H
      rw [HHL.out] at hfl
      have hst0 : StOk (H.flatMap two2, ([] : Met)) := ⟨MOk.nil, Nat.zero_le _⟩
      have hHB : H.flatMap two2 = hdrB ⟨mid, mre, mop, mau, mcu, mde, mav, mco, mqs, man, msv, mad, med, msi⟩ := by
        rw [HH.out]
        unfold hdrB hdrV
        simp only [HNQ.out, HNA.out, HNS.out, HND.out, HFL.out]
      have g8 : wr.cell? ⟨w.heap.size, 8, none⟩ = some (.slice aq nq cq) := row_cell (HGW.out _ hkw) 8 _ rfl
      have t1 : ¬ ((6 : Nat) : Int) < 6 := by omega
      have hfo := fun k => foldQ_st (mqs.take k) (fun x hx => qOk_valid (List.all_eq_true.1 HQQ.out _ (List.take_subset _ _ hx))) _ hst0
      generalize H.flatMap two2 = H2 at *
      have HWS6 := Go.Lib.hid hws
      have HKW := Go.Lib.hid hkw
      have HHB := Go.Lib.hid hHB
      have HFO := Go.Lib.hid hfo
      clear hws hkw hHB hfo
      clear hst0 hst HRW HWS3
      gi_wp2_with fail
      clear g8 p4
      generalize wr = w6 at *
      gi_loopw [50] (fun i wr => ∃ k : Nat, i = .int .i64 k ∧ k ≤ nq ∧ WS g bm w1.heap.size w1 4096 ((mqs.take k).foldl qW (H2, [])).1 ((mqs.take k).foldl qW (H2, [])).2 false wr ∧ KW bm wc wr) (fun i _ => nq - (RowKit.intOf i).toNat)
      case atStart => exact ⟨0, rfl, Nat.zero_le _, HWS6.out, HKW.out⟩
      case round =>
        clear HWS6 HKW
        obtain ⟨k, rfl, hk, hws, hkw⟩ := hrel
        have p4 := HPW.out _ hkw
        by_cases hlt : k < nq
        · have t1 : (k : Int) < (nq : Int) := by omega
          have t0 : (0 : Int) ≤ (k : Int) := by omega
          have q2 : IntKind.i64.wrap ((k : Int) + 1) = (k : Int) + 1 := wrapi (by omega) (by omega)
          have hbw : Below w.heap.size w wr := HBX.out.trans (hws.2.1.mono HBX.out.size)
          have hqr : Qns wr (.slice aq nq cq) mqs := by
            have := HM.out.qs.below hbw (Nat.le_refl _)
            exact this
          obtain ⟨gq, off, rfl, hgw2, hat⟩ := Qns.at (by rw [← HNQ.out] at hqr; exact hqr) (by rw [HNQ.out]; omega)
          obtain ⟨x0, x1, x2⟩ := hat k (by rw [HNQ.out]; exact hlt)
          have hmem := (qn_step HNQ.out hlt).2
          have hval := qOk_valid (List.all_eq_true.1 HQQ.out _ hmem)
          have hstep := foldQ_step (l := mqs) (k := k) (by rw [HNQ.out]; exact hlt) (H2, [])
          obtain ⟨hso, hsl⟩ := HFO.out k
          have hkl : (mqs.take k).length = k := by rw [List.length_take, HNQ.out]; omega
          rw [hkl] at hsl
          have hsl2 : ((mqs.take k).foldl qW (H2, [])).1.length ≤ 12 + 259 * 4 := by
            have h12 : H2.length = 12 := by omega
            have : (H2, ([] : Met)).1.length = 12 := h12
            omega
          clear hmem hkl hsl
          generalize mqs.getD k q0 = y at *
          obtain ⟨yn, yt, yc⟩ := y
          generalize (mqs.take k).foldl qW (H2, []) = S at *
          obtain ⟨Sb, SM⟩ := S
          have HST := Go.Lib.hid hstep
          clear hstep
          simp only at hval x0 x1 x2 hws hsl2
          obtain ⟨X1, hX1⟩ : ∃ X1, wr.alloc (.cells #[.string (mk yn), .int .i64 yt, .int .i64 yc] 47) = X1 := ⟨_, rfl⟩
          have hbn : Below wr.heap.size wr X1 := by rw [← hX1]; exact (Below.refl _ _).alloc (Nat.le_refl _) _
          have hnew : X1.heap[wr.heap.size]? = some (.cells #[.string (mk yn), .int .i64 yt, .int .i64 yc] 47 (0, 0)) := by rw [← hX1]; exact heap_alloc_new _ _
          have hwsX := hws.below HWC.out hbn
          have hkwX := hkw.trans (KW.of_below hbn)
          have pX := HPW.out _ hkwX
          have v0 : X1.cell? ⟨wr.heap.size, 0, none⟩ = some (.string (mk yn)) := row_cell hnew 0 _ rfl
          have hnm := WName_val HWC.out hwsX yn true hval hso (by show Sb.length ≤ _; omega)
          have hfin := nameW_st true hval hso
          simp only at hnm hfin
          have HNM := Go.Lib.hid hnm
          have HBN := Go.Lib.hid hbn
          have HKWX := Go.Lib.hid hkwX
          have HNEW := Go.Lib.hid hnew
          have HFIN := Go.Lib.hid hfin
          clear hnm hbn hkwX hnew hfin
          clear hqr hat hws hkw hbw hwsX hval hso
          gi_wp2_with fail
          refine ⟨trivial, (callsIn_wide.2 HNM.out).mono ?_⟩
          rintro e wz ⟨⟨vz, rfl⟩, hwz, hkz⟩
          have hkz2 := HKWX.out.trans hkz
          have pz := HPW.out _ hkz2
          have hnz := hkz.row HNEW.out ⟨by decide, by decide⟩
          have v1 : wz.cell? ⟨wr.heap.size, 1, none⟩ = some (.int .i64 yt) := row_cell hnz 1 _ rfl
          have htw := WTwo_any HWC.out hwz yt (by have := HFIN.out.2; omega)
          have HKZ := Go.Lib.hid hkz2
          have HNZ := Go.Lib.hid hnz
          have HTW := Go.Lib.hid htw
          clear hkz2 hnz htw
          clear hkz hwz v0 pX p4 HNM
          gi_wp2_with fail
          refine ⟨trivial, (callsIn_wide.2 HTW.out).mono ?_⟩
          rintro e wy ⟨⟨vy, rfl⟩, hwy, hky⟩
          have hky2 := HKZ.out.trans hky
          have py := HPW.out _ hky2
          have hny := hky.row HNZ.out ⟨by decide, by decide⟩
          have v2 : wy.cell? ⟨wr.heap.size, 2, none⟩ = some (.int .i64 yc) := row_cell hny 2 _ rfl
          have htw := WTwo_any HWC.out hwy yc (by have := HFIN.out.2; rw [List.length_append, two2_len]; omega)
          have HKY := Go.Lib.hid hky2
          have HTW2 := Go.Lib.hid htw
          clear hky2 htw
          clear hky hwy v1 pz HTW HNZ hny
          gi_wp2_with fail
          refine ⟨trivial, (callsIn_wide.2 HTW2.out).mono ?_⟩
          rintro e wx ⟨⟨vx, rfl⟩, hwx, hkx⟩
          have hkx2 := HKY.out.trans hkx
          have HWX := Go.Lib.hid hwx
          have HKX := Go.Lib.hid hkx2
          clear hwx hkx2
          clear hkx
          gi_wp2_with fail
          go_roundw
          case rel => exact ⟨k + 1, by go_num, by omega, by rw [HST.out]; exact HWX.out, HKX.out⟩
          case measure => simp [RowKit.intOf]; omega
        · obtain rfl : k = nq := by omega
          have t1 : ¬ (k : Int) < (k : Int) := by omega
          have hst2 := HFO.out k
          rw [List.take_of_length_le (by rw [HNQ.out]; exact Nat.le_refl _)] at hws hst2
          obtain ⟨S, hS⟩ : ∃ S, S = mqs.foldl qW (H2, []) := ⟨_, rfl⟩
          rw [← hS] at hws hst2
          have hsl : S.1.length ≤ 1048 := by
            have h12 : H2.length = 12 := by omega
            have h13 : (H2, ([] : Met)).1.length = 12 := h12
            have := hst2.2
            rw [HNQ.out] at this
            omega
          have hso := hst2.1
          have gm := HGW.out _ hkw
          have l0 : wr.cell? ⟨w.heap.size, 0, none⟩ = some (.int .i64 mid) := row_cell gm 0 _ rfl
          have l1 : wr.cell? ⟨w.heap.size, 1, none⟩ = some (.bool mre) := row_cell gm 1 _ rfl
          have l2 : wr.cell? ⟨w.heap.size, 2, none⟩ = some (.int .i64 mop) := row_cell gm 2 _ rfl
          have l3 : wr.cell? ⟨w.heap.size, 3, none⟩ = some (.bool mau) := row_cell gm 3 _ rfl
          have l4 : wr.cell? ⟨w.heap.size, 4, none⟩ = some (.bool mcu) := row_cell gm 4 _ rfl
          have l5 : wr.cell? ⟨w.heap.size, 5, none⟩ = some (.bool mde) := row_cell gm 5 _ rfl
          have l6 : wr.cell? ⟨w.heap.size, 6, none⟩ = some (.bool mav) := row_cell gm 6 _ rfl
          have l7 : wr.cell? ⟨w.heap.size, 7, none⟩ = some (.int .i64 mco) := row_cell gm 7 _ rfl
          have l8 : wr.cell? ⟨w.heap.size, 8, none⟩ = some (.slice aq k cq) := row_cell gm 8 _ rfl
          have l9 : wr.cell? ⟨w.heap.size, 9, none⟩ = some (.slice aa na ca) := row_cell gm 9 _ rfl
          have l10 : wr.cell? ⟨w.heap.size, 10, none⟩ = some (.slice av ns cs) := row_cell gm 10 _ rfl
          have l11 : wr.cell? ⟨w.heap.size, 11, none⟩ = some (.slice ad nd cd) := row_cell gm 11 _ rfl
          have l12 : wr.cell? ⟨w.heap.size, 12, none⟩ = some (.bool med) := row_cell gm 12 _ rfl
          have l13 : wr.cell? ⟨w.heap.size, 13, none⟩ = some (.int .i64 msi) := row_cell gm 13 _ rfl
          have hrec := Records_fn ⟨mid, mre, mop, mau, mcu, mde, mav, mco, mqs, man, msv, mad, med, msi⟩ (.slice aq k cq) (.slice aa na ca) (.slice av ns cs) (.slice ad nd cd) wr
          have HWS7 := Go.Lib.hid hws
          have HKW := Go.Lib.hid hkw
          have HREC := Go.Lib.hid hrec
          have HSS := Go.Lib.hid hS
          have GM := Go.Lib.hid gm
          clear hws hkw hrec hS gm
          clear hst2 p4
          generalize wc = wa at *
          gi_upto_region 17 with fail
          gi_cut [68] from 12 (fun v68 wx => v68 = .func (.func 46) #[] #[.pointer (some ⟨wr.heap.size, 0, none⟩)] ∧ wx = wr.alloc (.cells (MC ⟨mid, mre, mop, mau, mcu, mde, mav, mco, mqs, man, msv, mad, med, msi⟩ (.slice aq k cq) (.slice aa na ca) (.slice av ns cs) (.slice ad nd cd)) 27))
          case first =>
            gi_wp2_with fail
            refine ⟨trivial, (callsIn_wide.2 HREC.out).mono ?_⟩
            rintro e w2 ⟨rfl, hw2⟩
            gi_wp2_with fail
            gi_meet
            case rel => exact ⟨rfl, rfl⟩
          case rest =>
          clear l0 l1 l2 l3 l4 l5 l6 l7 l8 l9 l10 l11 l12 l13
          obtain ⟨rfl, hw2⟩ := hcut
          have hsz2 : wc.heap.size = wr.heap.size + 1 := by rw [hw2]; simp
          have hbc : Below wr.heap.size wr wc := by rw [hw2]; exact (Below.refl _ wr).alloc (Nat.le_refl _) _
          have hbox : wc.heap[wr.heap.size]? = some (.cells (MC ⟨mid, mre, mop, mau, mcu, mde, mav, mco, mqs, man, msv, mad, med, msi⟩ (.slice aq k cq) (.slice aa na ca) (.slice av ns cs) (.slice ad nd cd)) 27 (0, 0)) := by rw [hw2]; exact heap_alloc_new _ _
          have hws8 := HWS7.out.below HWC.out hbc
          have hkw8 := HKW.out.trans (KW.of_below hbc)
          have hbm : bm < wc.heap.size := by
            obtain ⟨es, cl, h1, _⟩ := hws8.1.map
            exact (Array.getElem?_eq_some_iff.1 h1).1
          have hbase : w1.heap.size ≤ wc.heap.size := hws8.2.1.size
          have hbw2 : Below w.heap.size w wc := HBX.out.trans (hws8.2.1.mono HBX.out.size)
          have hm0 : MsgL w ⟨mid, mre, mop, mau, mcu, mde, mav, mco, mqs, man, msv, mad, med, msi⟩ (.slice aq k cq) (.slice aa na ca) (.slice av ns cs) (.slice ad nd cd) := HM.out
          have hsec : ∀ i, (secL ⟨mid, mre, mop, mau, mcu, mde, mav, mco, mqs, man, msv, mad, med, msi⟩ i).length ≤ 1099511627776 := fun i => by
            rcases i with _ | _ | _ | i
            · show man.length ≤ _; rw [HNA.out]; omega
            · show msv.length ≤ _; rw [HNS.out]; omega
            · show mad.length ≤ _; rw [HND.out]; omega
            · exact Nat.zero_le _
          have hseq := records_seq 7 (by omega) wr.heap.size ⟨mid, mre, mop, mau, mcu, mde, mav, mco, mqs, man, msv, mad, med, msi⟩ (.slice aq k cq) (.slice aa na ca) (.slice av ns cs) (.slice ad nd cd) w wc hm0 hbw2 (by omega) hbox hsec
          obtain ⟨R, hR⟩ : ∃ R, R = allR ⟨mid, mre, mop, mau, mcu, mde, mav, mco, mqs, man, msv, mad, med, msi⟩ := ⟨_, rfl⟩
          rw [← hR] at hseq
          have hRl : R.length ≤ 192 := by
            rw [hR, allR_len]
            simp only [HNA.out, HNS.out, HND.out]
            omega
          have hPR : ∀ x ∈ R, PutOk x.2 := by rw [hR]; exact HPUT.out
          have HWS8 := Go.Lib.hid hws8
          have HKW8 := Go.Lib.hid hkw8
          have HSEQ := Go.Lib.hid hseq
          have HSZ2 := Go.Lib.hid hsz2
          have HBW2 := Go.Lib.hid hbw2
          have HR := Go.Lib.hid hR
          have HPR := Go.Lib.hid hPR
          have HBM := Go.Lib.hid hbm
          have HBASE := Go.Lib.hid hbase
          have HSO := Go.Lib.hid hso
          have HRL := Go.Lib.hid hRl
          have HSL := Go.Lib.hid hsl
          clear hws8 hkw8 hseq hsz2 hbw2 hR hPR hbm hbase hso hRl hsl
          clear hw2 hbc hbox hm0 hsec
          gi_wp2_with fail
          refine wpIn_rangeFunc_ok rfl (by omega) (gf := 46) (lb := #[.pointer (some ⟨wr.heap.size, 0, none⟩)]) rfl trivial (enters_of Try.func46 (by kernel_rfl) rfl)
            HSEQ.out KN.trans (fun W l o o' hl h1 h2 _ => ⟨fun j hj => World.putObj_heap_other (by have := HBW2.out.size; omega), KpT.put W l o o' h1 h2⟩) (Below.refl _ _) (fun _ => rfl)
            (fun pre W => WS g bm w1.heap.size w1 4096 (pre.foldl (fun st x => putN x.2 st) S).1 (pre.foldl (fun st x => putN x.2 st) S).2 false W ∧ KW bm wc W) (fun c pre W => False)
            (OwnFrom.and (ownFrom_WS (fun pre : List (Nat × Rc.RR) => pre.foldl (fun st x => putN x.2 st) S) HWC.out HBM.out HBASE.out HBASE.out) (ownFrom_KW (Nat.le_refl _)))
            (fun c => fun s W W' row h => h.elim)
            ⟨HWS8.out, KW.refl _ _⟩ (fun x a' W => ∃ N, (wc.heap.size ≤ N ∧ a' = { tmps := #[MV ⟨mid, mre, mop, mau, mcu, mde, mav, mco, mqs, man, msv, mad, med, msi⟩ (.slice aq k cq) (.slice aa na ca) (.slice av ns cs) (.slice ad nd cd), .pointer (some ⟨w.heap.size, 0, none⟩), .slice none 0 0, .int .i64 0, .pointer (some ⟨w2.heap.size, 0, none⟩), .int .i64 fl, undef, u7, undef, u9, undef, .pointer (some ⟨N, 0, none⟩), u12, u13, u14, u15, u16, u17, u18, u19, u20, u21, u22, u23, u24, u25, u26, u27, u28, u29, u30, u31, u32, u33, u34, u35, u36, u37, u38, u39, u40, u41, u42, u43, u44, u45, u46, u47, u48, u49, u50, u51, u52, u53, u54, u55, u56, u57, u58, u59, u60, u61, u62, u63, u64, u65, u66, u67, .func (.func 46) #[] #[.pointer (some ⟨wr.heap.size, 0, none⟩)], .int .i64 (x.1 : Int), rrV x.2, u71, u72, u73, u74, u75, u76, u77, u78, u79, u80, u81, u82, u83, u84, u85, u86, u87, u88, u89, u90, u91], defers := [] }) ∧ W.heap[N]? = some (.cells (rrC x.2) 45 (0, 0)))
            (fun x a' => ownFrom_ex2 fun N => OwnFrom.and (ownFrom_pure _ (fun _ => _)) (ownFrom_heap2 _ _ (fun _ => _) _ _)) ?assign ?body ?done ?stop
          case assign =>
            rintro lp pre ⟨sx, rx⟩ W K hi hok hK
            obtain ⟨xn, xt, xc, xl, xd⟩ := rx
            have HK := Go.Lib.hid hK
            have HI := Go.Lib.hid hi
            clear hK hi
            unfold encSec
            gi_wp2
            have hsz := HI.out.2.1
            refine HK.out _ _ (keepsFrom_below ((Below.refl _ W).alloc (Nat.le_refl _) _)) ((KN.refl _ W).alloc (by have := HBW2.out.size; omega) _) ⟨HI.out.1.below HWC.out ((Below.refl _ W).alloc (Nat.le_refl _) _), HI.out.2.trans (.of_below ((Below.refl _ W).alloc (Nat.le_refl _) _))⟩ ⟨W.heap.size, ⟨hsz, rfl⟩, heap_alloc_new _ _⟩
          case body =>
            rintro lp pre ⟨sx, rx⟩ a' W ⟨hws, hkw⟩ hok ⟨N, ⟨hN, rfl⟩, hx⟩
            obtain ⟨hpl, hps⟩ := pre_sub hok
            have hst := foldP_st pre (fun y hy => HPR.out y (hps y (by simp [hy]))) S HSO.out
            have hpo := HPR.out (sx, rx) (hps _ (by simp))
            rw [List.length_append] at hpl
            have hlen : (pre.foldl (fun st x => putN x.2 st) S).1.length ≤ 2000000 := by
              have := hst.2
              have := HSL.out
              have := HRL.out
              simp only [List.length_cons, List.length_nil] at hpl
              omega
            have hput := hpo.2 g bm w1.heap.size w1 W 4096 _ HWC.out hws hst.1 hlen
            have hfold : putN rx (pre.foldl (fun st x => putN x.2 st) S) = (pre ++ [(sx, rx)]).foldl (fun st x => putN x.2 st) S := by rw [List.foldl_append]; rfl
            rw [hfold] at hput
            have e0 : W.cell? ⟨N, 0, none⟩ = some (.string (mk rx.name)) := row_cell hx 0 _ rfl
            have e1 : W.cell? ⟨N, 1, none⟩ = some (.int .i64 rx.ty) := row_cell hx 1 _ rfl
            have e2 : W.cell? ⟨N, 2, none⟩ = some (.int .i64 rx.cl) := row_cell hx 2 _ rfl
            have e3 : W.cell? ⟨N, 3, none⟩ = some (.int .i64 rx.ttl) := row_cell hx 3 _ rfl
            have e4 : W.cell? ⟨N, 4, none⟩ = some (.string (mk rx.data)) := row_cell hx 4 _ rfl
            have p4 := HPW.out _ (HKW8.out.trans hkw)
            have HPUT2 := Go.Lib.hid hput
            have HWSA := Go.Lib.hid hws
            have HKWA := Go.Lib.hid hkw
            clear hput hws hkw
            clear hst hpo hfold hlen hpl hps hx hok
            gi_wp2_with fail
            refine ⟨trivial, (callsIn_wide.2 HPUT2.out).mono ?_⟩
            rintro e W1 ⟨⟨vz, rfl⟩, hwz, hkz⟩
            have HWZ := Go.Lib.hid hwz
            have HKZ := Go.Lib.hid hkz
            clear hwz hkz
            clear e0 e1 e2 e3 e4 p4
            gi_wp2_with fail
            refine ⟨⟨HKZ.out.1, fun j o hj hjo hoc => HKZ.out.2 j o hjo (fun cs T fr e => by rw [e] at hoc; cases hoc) (fun _ => by have := HBM.out; omega)⟩, ⟨fun j hj => ?_, fun j cs T fr hT hjo => HKZ.out.kpt j cs T fr (by rw [show T = 25 from hT]; exact ⟨by decide, by decide⟩) hjo⟩, HWZ.out, HKWA.out.trans HKZ.out⟩
            have hj2 : j < w1.heap.size := Nat.lt_of_lt_of_le hj HBX.out.size
            rw [HWZ.out.2.1.block j hj2, HWSA.out.2.1.block j hj2]
          case done =>
            rintro D ys W hD rfl ⟨hws, hkw⟩ hK
            have hst := foldP_st ys HPR.out S HSO.out
            have hbo : ys.foldl (fun st x => putN x.2 st) S = bodyW ⟨mid, mre, mop, mau, mcu, mde, mav, mco, mqs, man, msv, mad, med, msi⟩ := by rw [HR.out, HSS.out, HHB.out]; rfl
            have hlen : (bodyW ⟨mid, mre, mop, mau, mcu, mde, mav, mco, mqs, man, msv, mad, med, msi⟩).1.length ≤ 2000000 := by
              rw [← hbo]
              have := hst.2
              have := HSL.out
              have := HRL.out
              omega
            have hso2 := hst.1
            rw [hbo] at hws hso2
            obtain ⟨St, hSt⟩ : ∃ St, St = bodyW ⟨mid, mre, mop, mau, mcu, mde, mav, mco, mqs, man, msv, mad, med, msi⟩ := ⟨_, rfl⟩
            rw [← hSt] at hws hso2 hlen
            have hF3 : F = outN 4096 (endW ⟨mid, mre, mop, mau, mcu, mde, mav, mco, mqs, man, msv, mad, med, msi⟩ St.1) false := by rw [HF2.out, hSt]
            obtain ⟨Sb, SM⟩ := St
            simp only at hws hlen hF3
            have hkw2 := HKW8.out.trans hkw
            have p4 := HPW.out _ hkw2
            have y12 : W.cell? ⟨w.heap.size, 12, none⟩ = some (.bool med) := row_cell (HGW.out _ hkw2) 12 _ rfl
            have hDm : D ≠ bm := by have := HBM.out; omega
            have hwD : w.heap.size ≤ D := Nat.le_trans HBW2.out.size hD
            have HF3 := Go.Lib.hid hF3
            have HK := Go.Lib.hid hK
            have HST := Go.Lib.hid hSt
            have HKW2 := Go.Lib.hid hkw2
            have HDM := Go.Lib.hid hDm
            have HWD := Go.Lib.hid hwD
            have HSO2 := Go.Lib.hid hso2
            clear hF3 hK hSt hkw2 hDm hwD hso2
            clear hst hbo hkw HF HF2 HC
            have hmb : med = true ∨ med = false := by cases med <;> simp
            rcases hmb with rfl | rfl
            · have hroot : Calls Try.prog 39 #[.pointer (some ⟨g, 0, none⟩), .string ⟨#[0]⟩, .bool true] W (WEnd bm (WS g bm w1.heap.size w1 4096 (Sb ++ [0]) SM false) W) := by
                have := WName_val HWC.out hws [0] true (by decide) HSO2.out (by omega)
                rw [show Nm.labs [0] = [] from by decide] at this
                exact this
              have HROOT := Go.Lib.hid hroot
              clear hroot
              clear hws
              gi_wp2_with fail
              refine ⟨trivial, (callsIn_wide.2 HROOT.out).mono ?_⟩
              rintro e W1 ⟨⟨v1, rfl⟩, hw1, hk1⟩
              have hkA := HKW2.out.trans hk1
              have hKA := hk1.2 _ _ HK.out (fun cs T fr e => by cases e) (fun _ => HDM.out)
              have pA := HPW.out _ hkA
              have htA := WTwo_any HWC.out hw1 41 (by simp; omega)
              have HKA := Go.Lib.hid hkA
              have HDA := Go.Lib.hid hKA
              have HTA := Go.Lib.hid htA
              clear hkA hKA htA
              clear hw1 hk1 p4 y12 HROOT HKW2 HK
              gi_wp2_with fail
              refine ⟨trivial, (callsIn_wide.2 HTA.out).mono ?_⟩
              rintro e W2 ⟨⟨v2, rfl⟩, hw2, hk2⟩
              have hkB := HKA.out.trans hk2
              have hKB := hk2.2 _ _ HDA.out (fun cs T fr e => by cases e) (fun _ => HDM.out)
              have pB := HPW.out _ hkB
              have y13 : W2.cell? ⟨w.heap.size, 13, none⟩ = some (.int .i64 msi) := row_cell (HGW.out _ hkB) 13 _ rfl
              have htB := WTwo_any HWC.out hw2 msi (by simp [two2]; omega)
              have HKB := Go.Lib.hid hkB
              have HDB := Go.Lib.hid hKB
              have HTB := Go.Lib.hid htB
              clear hkB hKB htB
              clear hw2 hk2 pA HTA HKA HDA
              gi_wp2_with fail
              refine ⟨trivial, (callsIn_wide.2 HTB.out).mono ?_⟩
              rintro e W3 ⟨⟨v3, rfl⟩, hw3, hk3⟩
              have hkC := HKB.out.trans hk3
              have hKC := hk3.2 _ _ HDB.out (fun cs T fr e => by cases e) (fun _ => HDM.out)
              have pC := HPW.out _ hkC
              have htC := WFour_any HWC.out hw3 0 (by simp [two2]; omega)
              have HKC := Go.Lib.hid hkC
              have HDC := Go.Lib.hid hKC
              have HTC := Go.Lib.hid htC
              clear hkC hKC htC
              clear hw3 hk3 pB y13 HTB HKB HDB
              gi_wp2_with fail
              refine ⟨trivial, (callsIn_wide.2 HTC.out).mono ?_⟩
              rintro e W4 ⟨⟨v4, rfl⟩, hw4, hk4⟩
              have hkD := HKC.out.trans hk4
              have hKD := hk4.2 _ _ HDC.out (fun cs T fr e => by cases e) (fun _ => HDM.out)
              have pD := HPW.out _ hkD
              have htD := WTwo_any HWC.out hw4 0 (by simp [two2, four_len]; omega)
              have HKD := Go.Lib.hid hkD
              have HDD := Go.Lib.hid hKD
              have HTD := Go.Lib.hid htD
              clear hkD hKD htD
              clear hw4 hk4 pC HTC HKC HDC
              gi_wp2_with fail
              refine ⟨trivial, (callsIn_wide.2 HTD.out).mono ?_⟩
              rintro e W5 ⟨⟨v5, rfl⟩, hw5, hk5⟩
              have hkE := HKD.out.trans hk5
              have hKE := hk5.2 _ _ HDD.out (fun cs T fr e => by cases e) (fun _ => HDM.out)
              have pE := HPW.out _ hkE
              have htE := WOut_any hw5 (by simp [two2, four_len]; omega)
              have hb5 := HBX.out.trans (hw5.2.1.mono HBX.out.size)
              rw [show outN 4096 (Sb ++ [0] ++ two2 41 ++ two2 msi ++ four 0 ++ two2 0) false = F from HF3.out.symm] at htE
              have HDE := Go.Lib.hid hKE
              have HTE := Go.Lib.hid htE
              have HB5 := Go.Lib.hid hb5
              clear hKE htE hb5
              clear hw5 hk5 pD HTD HKD HDD hkE
              gi_wp2_with fail
              refine ⟨trivial, (callsIn_wide.2 HTE.out).mono ?_⟩
              rintro e W6 ⟨a', c', rfl, hsl, hb6⟩
              have hDF := (hb6.block _ (Array.getElem?_eq_some_iff.1 HDE.out).1).trans HDE.out
              have hbF := HB5.out.trans (hb6.mono HB5.out.size)
              have HDF := Go.Lib.hid hDF
              have HBF := Go.Lib.hid hbF
              have HSL2 := Go.Lib.hid hsl
              clear hDF hbF hsl
              clear hb6 pE
              gi_wp2_with fail
              refine ⟨by simp, .inl ⟨_, _, rfl, run_takeDeferred HDF.out, ?_⟩⟩
              refine ⟨_, results_tmp2 rfl _ _ _, ?_⟩
              exact ⟨a', c', rfl, HSL2.out.putDef HDF.out, HBF.out.trans (belowK_b (w := w) (Nat.le_refl _) _ D _ _ HWD.out HDF.out rfl rfl)⟩
            · have htE := WOut_any hws (by omega)
              have hb5 := HBX.out.trans (hws.2.1.mono HBX.out.size)
              rw [show outN 4096 Sb false = F from HF3.out.symm] at htE
              have HTE := Go.Lib.hid htE
              have HB5 := Go.Lib.hid hb5
              clear htE hb5
              clear hws
              gi_wp2_with fail
              refine ⟨trivial, (callsIn_wide.2 HTE.out).mono ?_⟩
              rintro e W6 ⟨a', c', rfl, hsl, hb6⟩
              have hDF := (hb6.block _ (Array.getElem?_eq_some_iff.1 HK.out).1).trans HK.out
              have hbF := HB5.out.trans (hb6.mono HB5.out.size)
              have HDF := Go.Lib.hid hDF
              have HBF := Go.Lib.hid hbF
              have HSL2 := Go.Lib.hid hsl
              clear hDF hbF hsl
              clear hb6 p4 y12
              gi_wp2_with fail
              refine ⟨by simp, .inl ⟨_, _, rfl, run_takeDeferred HDF.out, ?_⟩⟩
              refine ⟨_, results_tmp2 rfl _ _ _, ?_⟩
              exact ⟨a', c', rfl, HSL2.out.putDef HDF.out, HBF.out.trans (belowK_b (w := w) (Nat.le_refl _) _ D _ _ HWD.out HDF.out rfl rfl)⟩
          case stop =>
            rintro D c pre W hD hpre h hK
            exact h.elim
end Go.Proofs.Ythfhmbooeemaaaa

/- Message: whether questions, or records, are alike. -/
namespace Go.Proofs.Ythfhmbooeemaaaa
open Go.RowKit Go.Shelf Go.Sq
set_option maxRecDepth 100000
set_option linter.unusedVariables false

def qSame (y z : Qn) : Bool := (Nm.foldN y.name == Nm.foldN z.name) && (y.ty == z.ty) && (y.cl == z.cl)
def rSame (y z : Rc.RR) : Bool := Rc.sameRR y z && (y.ttl == z.ttl)
abbrev qV (q : Qn) : Value := .agg #[.string (mk q.name), .int .i64 q.ty, .int .i64 q.cl]
def qC (q : Qn) : Array Value := #[.string (mk q.name), .int .i64 q.ty, .int .i64 q.cl]
set_option maxHeartbeats 4000000 in
theorem sameQuestion_any (a b : Qn) (w : World) (ha : a.name.length ≤ maxLen) (hb : b.name.length ≤ maxLen) :
    Calls Try.prog 49 #[qV a, qV b] w fun e w' => e = .returned (.bool (qSame a b)) ∧ Below w.heap.size w w' := by
  have hn1 := fun w => Fold_any (mk a.name) w (by rw [size_mk]; exact ha)
  have hn2 := fun w => Fold_any (mk b.name) w (by rw [size_mk]; exact hb)
  rw [bl_mk] at hn1 hn2
  have hres : qSame a b = ((Nm.foldN a.name == Nm.foldN b.name) && (a.ty == b.ty) && (a.cl == b.cl)) := rfl
  obtain ⟨h1, h2⟩ := two_boxes w (qC a) (qC b) 47
  have h0 : Below w.heap.size w ((w.alloc (.cells (qC a) 47)).alloc (.cells (qC b) 47)) := ((Below.refl _ w).alloc (Nat.le_refl _) _).alloc (by simp) _
  unfold qC at h1 h2 h0
  obtain ⟨an, aty, acl⟩ := a
  obtain ⟨bn, bty, bcl⟩ := b
  simp only at *
  generalize qSame _ _ = res at *
  have hnn : ((mk (Nm.foldN an)).toList == (mk (Nm.foldN bn)).toList) = (Nm.foldN an == Nm.foldN bn) := eqs _ _
  generalize mk (Nm.foldN an) = fan at *
  generalize mk (Nm.foldN bn) = fbn at *
  generalize (Nm.foldN an == Nm.foldN bn) = q1 at *
  have HRES := Go.Lib.hid hres
  have HN1 := Go.Lib.hid hn1
  have HN2 := Go.Lib.hid hn2
  have H0 := Go.Lib.hid h0
  clear hres hn1 hn2 h0
  clear ha hb
  have hg1 := cell_of_heap h1
  have hg2 := cell_of_heap h2
  have hlt1 := (Array.getElem?_eq_some_iff.1 h1).1
  have hlt2 := (Array.getElem?_eq_some_iff.1 h2).1
  have HX1 := Go.Lib.hid h1
  have HX2 := Go.Lib.hid h2
  clear h1 h2
  go_enter Try.func49, Try.ntmps49
  go_wp2_with fail
  generalize (w.alloc (.cells #[.string (mk an), .int .i64 aty, .int .i64 acl] 47)).alloc (.cells #[.string (mk bn), .int .i64 bty, .int .i64 bcl] 47) = W at *
  have a0 : ∀ w3 : Subtype (Below W.heap.size W), w3.1.cell? ⟨w.heap.size, 0, none⟩ = some (.string (mk an)) := BelowC.cell (hg1 0) hlt1
  have a1 : ∀ w3 : Subtype (Below W.heap.size W), w3.1.cell? ⟨w.heap.size, 1, none⟩ = some (.int .i64 aty) := BelowC.cell (hg1 1) hlt1
  have a2 : ∀ w3 : Subtype (Below W.heap.size W), w3.1.cell? ⟨w.heap.size, 2, none⟩ = some (.int .i64 acl) := BelowC.cell (hg1 2) hlt1
  have b0 : ∀ w3 : Subtype (Below W.heap.size W), w3.1.cell? ⟨w.heap.size + 1, 0, none⟩ = some (.string (mk bn)) := BelowC.cell (hg2 0) hlt2
  have b1 : ∀ w3 : Subtype (Below W.heap.size W), w3.1.cell? ⟨w.heap.size + 1, 1, none⟩ = some (.int .i64 bty) := BelowC.cell (hg2 1) hlt2
  have b2 : ∀ w3 : Subtype (Below W.heap.size W), w3.1.cell? ⟨w.heap.size + 1, 2, none⟩ = some (.int .i64 bcl) := BelowC.cell (hg2 2) hlt2
  have HBC := Go.Lib.hid (show Below W.heap.size W W.drew from (Below.refl W.heap.size W).drew)
  clear hg1 hg2
  cases q1 with
  | false =>
    have hr : res = false := by rw [HRES.out]; rfl
    have HR := Go.Lib.hid hr
    clear hr
    refine Go.Mix.wp_region_mix (Es := [2, 5]) (Below W.heap.size W) mixed (by kernel_rfl) (Below.refl _ _).drew (fun _ => ?_)
    iterate 2 (refine Go.Mix.mix_step rfl (fun K hK => ?_); have HKK := Go.Lib.hid hK; clear hK; go_simp; refine HKK.out _ _ ?_; clear HKK K)
    refine Go.Mix.mix_eff rfl (fun K hK => ?_)
    have HKK := Go.Lib.hid hK
    clear hK
    go_simp
    refine (HN1.out _).mono ?_; rintro e wb1 ⟨rfl, hx⟩
    have hb := HBC.out.trans (hx.mono HBC.out.size)
    clear HBC
    have HBC := Go.Lib.hid hb
    clear hx hb
    go_simp
    refine HKK.out _ _ HBC.out ?_
    clear HKK K
    iterate 2 (refine Go.Mix.mix_step rfl (fun K hK => ?_); have HKK := Go.Lib.hid hK; clear hK; go_simp; refine HKK.out _ _ ?_; clear HKK K)
    refine Go.Mix.mix_eff rfl (fun K hK => ?_)
    have HKK := Go.Lib.hid hK
    clear hK
    go_simp
    refine (HN2.out _).mono ?_; rintro e wb2 ⟨rfl, hx⟩
    have hb := HBC.out.trans (hx.mono HBC.out.size)
    clear HBC
    have HBC := Go.Lib.hid hb
    clear hx hb
    go_simp
    refine HKK.out _ _ HBC.out ?_
    clear HKK K
    iterate 16 (refine Go.Mix.mix_step rfl (fun K hK => ?_); have HKK := Go.Lib.hid hK; clear hK; go_simp; refine HKK.out _ _ ?_; clear HKK K)
    refine Go.Mix.mix_nil ?_
    go_wp2_with fail
    go_ret
    exact ⟨ret_bool HR.out.symm, H0.out.trans (HBC.out.mono H0.out.size)⟩
  | true =>
    by_cases ht : aty = bty
    · subst ht
      have e1 : (aty == aty) = true := beq_self_eq_true _
      have hr : res = (acl == bcl) := by rw [HRES.out, e1]; simp
      have HR := Go.Lib.hid hr
      clear hr
      refine Go.Mix.wp_region_mix (Es := [2, 5]) (Below W.heap.size W) mixed (by kernel_rfl) (Below.refl _ _).drew (fun _ => ?_)
      iterate 2 (refine Go.Mix.mix_step rfl (fun K hK => ?_); have HKK := Go.Lib.hid hK; clear hK; go_simp; refine HKK.out _ _ ?_; clear HKK K)
      refine Go.Mix.mix_eff rfl (fun K hK => ?_)
      have HKK := Go.Lib.hid hK
      clear hK
      go_simp
      refine (HN1.out _).mono ?_; rintro e wb3 ⟨rfl, hx⟩
      have hb := HBC.out.trans (hx.mono HBC.out.size)
      clear HBC
      have HBC := Go.Lib.hid hb
      clear hx hb
      go_simp
      refine HKK.out _ _ HBC.out ?_
      clear HKK K
      iterate 2 (refine Go.Mix.mix_step rfl (fun K hK => ?_); have HKK := Go.Lib.hid hK; clear hK; go_simp; refine HKK.out _ _ ?_; clear HKK K)
      refine Go.Mix.mix_eff rfl (fun K hK => ?_)
      have HKK := Go.Lib.hid hK
      clear hK
      go_simp
      refine (HN2.out _).mono ?_; rintro e wb4 ⟨rfl, hx⟩
      have hb := HBC.out.trans (hx.mono HBC.out.size)
      clear HBC
      have HBC := Go.Lib.hid hb
      clear hx hb
      go_simp
      refine HKK.out _ _ HBC.out ?_
      clear HKK K
      iterate 16 (refine Go.Mix.mix_step rfl (fun K hK => ?_); have HKK := Go.Lib.hid hK; clear hK; go_simp; refine HKK.out _ _ ?_; clear HKK K)
      refine Go.Mix.mix_nil ?_
      go_wp2_with fail
      go_ret
      exact ⟨ret_bool HR.out.symm, H0.out.trans (HBC.out.mono H0.out.size)⟩
    · have e1 : (aty == bty) = false := beq_eq_false_iff_ne.2 ht
      have hr : res = false := by rw [HRES.out, e1]; simp
      have HR := Go.Lib.hid hr
      clear hr
      refine Go.Mix.wp_region_mix (Es := [2, 5]) (Below W.heap.size W) mixed (by kernel_rfl) (Below.refl _ _).drew (fun _ => ?_)
      iterate 2 (refine Go.Mix.mix_step rfl (fun K hK => ?_); have HKK := Go.Lib.hid hK; clear hK; go_simp; refine HKK.out _ _ ?_; clear HKK K)
      refine Go.Mix.mix_eff rfl (fun K hK => ?_)
      have HKK := Go.Lib.hid hK
      clear hK
      go_simp
      refine (HN1.out _).mono ?_; rintro e wb5 ⟨rfl, hx⟩
      have hb := HBC.out.trans (hx.mono HBC.out.size)
      clear HBC
      have HBC := Go.Lib.hid hb
      clear hx hb
      go_simp
      refine HKK.out _ _ HBC.out ?_
      clear HKK K
      iterate 2 (refine Go.Mix.mix_step rfl (fun K hK => ?_); have HKK := Go.Lib.hid hK; clear hK; go_simp; refine HKK.out _ _ ?_; clear HKK K)
      refine Go.Mix.mix_eff rfl (fun K hK => ?_)
      have HKK := Go.Lib.hid hK
      clear hK
      go_simp
      refine (HN2.out _).mono ?_; rintro e wb6 ⟨rfl, hx⟩
      have hb := HBC.out.trans (hx.mono HBC.out.size)
      clear HBC
      have HBC := Go.Lib.hid hb
      clear hx hb
      go_simp
      refine HKK.out _ _ HBC.out ?_
      clear HKK K
      iterate 16 (refine Go.Mix.mix_step rfl (fun K hK => ?_); have HKK := Go.Lib.hid hK; clear hK; go_simp; refine HKK.out _ _ ?_; clear HKK K)
      refine Go.Mix.mix_nil ?_
      go_wp2_with fail
      go_ret
      exact ⟨ret_bool HR.out.symm, H0.out.trans (HBC.out.mono H0.out.size)⟩
set_option maxHeartbeats 4000000 in
theorem sameRR_any (a b : Rc.RR) (w : World) (ha : RROk a) (hb : RROk b) :
    Calls Try.prog 51 #[rrV a, rrV b] w fun e w' => e = .returned (.bool (rSame a b)) ∧ Below w.heap.size w w' := by
  have hn1 := fun w => recSame_any a b w ha hb
  obtain ⟨h1, h2⟩ := two_boxes w (rrC a) (rrC b) 45
  have h0 : Below w.heap.size w ((w.alloc (.cells (rrC a) 45)).alloc (.cells (rrC b) 45)) := ((Below.refl _ w).alloc (Nat.le_refl _) _).alloc (by simp) _
  have hres : rSame a b = (Rc.sameRR a b && (a.ttl == b.ttl)) := rfl
  unfold rrC at h1 h2 h0
  generalize Rc.sameRR a b = s at *
  generalize rSame a b = res at *
  obtain ⟨an, aty, acl, attl, ad⟩ := a
  obtain ⟨bn, bty, bcl, bttl, bd⟩ := b
  simp only at *
  have HRES := Go.Lib.hid hres
  have HN1 := Go.Lib.hid hn1
  have H0 := Go.Lib.hid h0
  clear hres hn1 h0
  clear ha hb
  obtain ⟨W, hW⟩ : ∃ W, (w.alloc (.cells #[.string (mk an), .int .i64 aty, .int .i64 acl, .int .i64 attl, .string (mk ad)] 45)).alloc (.cells #[.string (mk bn), .int .i64 bty, .int .i64 bcl, .int .i64 bttl, .string (mk bd)] 45) = W := ⟨_, rfl⟩
  rw [hW] at h1 h2
  have a0 : W.cell? ⟨w.heap.size, 0, none⟩ = some (.string (mk an)) := row_cell h1 0 _ rfl
  have a1 : W.cell? ⟨w.heap.size, 1, none⟩ = some (.int .i64 aty) := row_cell h1 1 _ rfl
  have a2 : W.cell? ⟨w.heap.size, 2, none⟩ = some (.int .i64 acl) := row_cell h1 2 _ rfl
  have a3 : W.cell? ⟨w.heap.size, 3, none⟩ = some (.int .i64 attl) := row_cell h1 3 _ rfl
  have a4 : W.cell? ⟨w.heap.size, 4, none⟩ = some (.string (mk ad)) := row_cell h1 4 _ rfl
  have b0 : W.cell? ⟨w.heap.size + 1, 0, none⟩ = some (.string (mk bn)) := row_cell h2 0 _ rfl
  have b1 : W.cell? ⟨w.heap.size + 1, 1, none⟩ = some (.int .i64 bty) := row_cell h2 1 _ rfl
  have b2 : W.cell? ⟨w.heap.size + 1, 2, none⟩ = some (.int .i64 bcl) := row_cell h2 2 _ rfl
  have b3 : W.cell? ⟨w.heap.size + 1, 3, none⟩ = some (.int .i64 bttl) := row_cell h2 3 _ rfl
  have b4 : W.cell? ⟨w.heap.size + 1, 4, none⟩ = some (.string (mk bd)) := row_cell h2 4 _ rfl
  have HX1 := Go.Lib.hid h1
  have HX2 := Go.Lib.hid h2
  clear h1 h2
  go_enter Try.func51, Try.ntmps51
  go_wp2_with fail
  refine (HN1.out _).mono ?_; rintro e w1 ⟨rfl, hx⟩
  have g1 := (hx.block _ (Array.getElem?_eq_some_iff.1 HX1.out).1).trans HX1.out
  have g2 := (hx.block _ (Array.getElem?_eq_some_iff.1 HX2.out).1).trans HX2.out
  have c3 : w1.cell? ⟨w.heap.size, 3, none⟩ = some (.int .i64 attl) := row_cell g1 3 _ rfl
  have d3 : w1.cell? ⟨w.heap.size + 1, 3, none⟩ = some (.int .i64 bttl) := row_cell g2 3 _ rfl
  have hb0 := H0.out
  rw [hW] at hb0
  have hbe := hb0.trans (hx.mono hb0.size)
  have HBE := Go.Lib.hid hbe
  clear hbe
  clear hx g1 g2 hb0 hW a0 a1 a2 a3 a4 b0 b1 b2 b3 b4
  cases s with
  | false =>
    go_wp2_with fail
    go_ret
    exact ⟨by rw [HRES.out]; rfl, HBE.out⟩
  | true =>
    go_wp2_with fail
    go_ret
    exact ⟨by rw [HRES.out]; rfl, HBE.out⟩
end Go.Proofs.Ythfhmbooeemaaaa

/- Message: slices.EqualFunc at questions and at records. -/
namespace Go.Proofs.Ythfhmbooeemaaaa
open Go.RowKit Go.Shelf Go.Sq
set_option maxRecDepth 100000
set_option linter.unusedVariables false

/-- two lists alike -/
def eqL {α : Type} (p : α → α → Bool) : List α → List α → Bool
  | [], [] => true
  | x :: l, y :: m => p x y && eqL p l m
  | _, _ => false
theorem eqL_len {α : Type} (p : α → α → Bool) : ∀ (l m : List α), l.length ≠ m.length → eqL p l m = false
  | [], [], h => (h rfl).elim
  | [], y :: m, _ => rfl
  | x :: l, [], _ => rfl
  | x :: l, y :: m, h => by
    rw [eqL, eqL_len p l m (fun e => h (by simp [e])), Bool.and_false]
theorem eqL_all {α : Type} (p : α → α → Bool) (d : α) : ∀ (l m : List α), l.length = m.length → (∀ k, k < l.length → p (l.getD k d) (m.getD k d) = true) → eqL p l m = true
  | [], [], _, _ => rfl
  | x :: l, y :: m, h, ha => by
    rw [eqL, eqL_all p d l m (by simpa using h) (fun k hk => by simpa using ha (k + 1) (by simpa using hk))]
    have := ha 0 (by simp)
    simp only [List.getD_cons_zero] at this
    rw [this]
    rfl
theorem eqL_no {α : Type} (p : α → α → Bool) (d : α) : ∀ (l m : List α) (k : Nat), l.length = m.length → k < l.length → p (l.getD k d) (m.getD k d) = false → eqL p l m = false
  | [], _, k, _, hk, _ => by simp at hk
  | x :: l, [], k, h, _, _ => by simp at h
  | x :: l, y :: m, 0, h, hk, hp => by
    simp only [List.getD_cons_zero] at hp
    rw [eqL, hp]
    rfl
  | x :: l, y :: m, k + 1, h, hk, hp => by
    rw [eqL, eqL_no p d l m k (by simpa using h) (by simpa using hk) (by simpa using hp), Bool.and_false]
set_option maxHeartbeats 4000000 in
theorem EqQ_any (a b : Option Addr) (ca cb : Nat) (l m : List Qn) (w : World) (hl : Qns w (.slice a l.length ca) l) (hm : Qns w (.slice b m.length cb) m) (hn : l.length ≤ 1099511627776) (hn2 : m.length ≤ 1099511627776)
    (hlo : ∀ x ∈ l, x.name.length ≤ maxLen) (hmo : ∀ x ∈ m, x.name.length ≤ maxLen) :
    Calls Try.prog 48 #[.slice a l.length ca, .slice b m.length cb, .func (.func 49) #[] #[]] w fun e w' => e = .returned (.bool (eqL qSame l m)) ∧ Below w.heap.size w w' := by
  have HB := Go.Lib.hid (Below.refl w.heap.size w)
  have hres : eqL qSame l m = eqL qSame l m := rfl
  by_cases hlen : l.length = m.length
  · have ha := eqL_all qSame q0 l m hlen
    have hno := fun k => eqL_no qSame q0 l m k hlen
    rw [← hlen] at hm hn2 ⊢
    generalize hRS : eqL qSame l m = res at *
    generalize hN : l.length = N at *
    have hNM : m.length = N := hlen.symm
    have HN := Go.Lib.hid hN
    have HNM := Go.Lib.hid hNM
    have HL := Go.Lib.hid hl
    have HM := Go.Lib.hid hm
    have HALLF := Go.Lib.hid ha
    have HNO := Go.Lib.hid hno
    have HLO := Go.Lib.hid hlo
    have HMO := Go.Lib.hid hmo
    have HRS := Go.Lib.hid hRS
    clear hN hNM hl hm ha hno hlo hmo hRS
    clear hres hlen hn2
    go_enter Try.func48, Try.ntmps48
    have t00 : ((N : Int) != (N : Int)) = false := by simp
    go_wp2_with fail
    go_loopw [17] (fun i wr => ∃ k : Nat, i = .int .i64 k ∧ k ≤ N ∧ (∀ c, c < k → qSame (l.getD c q0) (m.getD c q0) = true) ∧ Below w.heap.size w wr) (fun i _ => N - (RowKit.intOf i).toNat)
    case atStart => exact ⟨0, rfl, by omega, fun c h => by omega, HB.out⟩
    case round =>
      obtain ⟨k, rfl, hk, hall, hbr⟩ := hrel
      clear HB
      have HALL := Go.Lib.hid hall
      have HB := Go.Lib.hid hbr
      clear hall hbr
      by_cases hlt : k < N
      · have t1 : (k : Int) < (N : Int) := by omega
        have t0 : (0 : Int) ≤ (k : Int) := by omega
        have q2 : IntKind.i64.wrap ((k : Int) + 1) = (k : Int) + 1 := wrapi (by omega) (by omega)
        have h1 := HL.out.below HB.out (Nat.le_refl _)
        have h2 := HM.out.below HB.out (Nat.le_refl _)
        obtain ⟨g1, o1, rfl, hg1, hc1⟩ := Qns.at (by rw [← HN.out] at h1; exact h1) (by rw [HN.out]; omega)
        obtain ⟨g2, o2, rfl, hg2, hc2⟩ := Qns.at (by rw [← HNM.out] at h2; exact h2) (by rw [HNM.out]; omega)
        have hx := hc1 k (by rw [HN.out]; exact hlt)
        have hy := hc2 k (by rw [HNM.out]; exact hlt)
        have hox := HLO.out _ (qn_step HN.out hlt).2
        have hoy := HMO.out _ (qn_step HNM.out hlt).2
        have hno := HNO.out k hlt
        have hall2 : qSame (l.getD k q0) (m.getD k q0) = true → ∀ c, c < k + 1 → qSame (l.getD c q0) (m.getD c q0) = true := fun h c hc => by
          rcases Nat.lt_or_ge c k with h3 | h3
          · exact HALL.out c h3
          · rw [show c = k by omega]; exact h
        have HNOK := Go.Lib.hid hno
        have HALL2 := Go.Lib.hid hall2
        clear hno hall2
        clear h1 h2 hc1 hc2
        generalize l.getD k q0 = y at *
        generalize m.getD k q0 = z at *
        have hcall := fun W => sameQuestion_any y z W hox hoy
        generalize qSame y z = s at *
        obtain ⟨yn, yt, yc⟩ := y
        obtain ⟨zn, zt, zc⟩ := z
        obtain ⟨x0, x1, x2⟩ := hx
        obtain ⟨u0, u1, u2⟩ := hy
        simp only at *
        obtain ⟨X1, hX1⟩ : ∃ X1, wr.alloc (.cells #[.string (mk yn), .int .i64 yt, .int .i64 yc] 47) = X1 := ⟨_, rfl⟩
        obtain ⟨X2, hX2⟩ : ∃ X2, X1.alloc (.cells #[.string (mk zn), .int .i64 zt, .int .i64 zc] 47) = X2 := ⟨_, rfl⟩
        have hbA : Below wr.heap.size wr X1 := by rw [← hX1]; exact (Below.refl _ _).alloc (Nat.le_refl _) _
        have hbB : Below X1.heap.size X1 X2 := by rw [← hX2]; exact (Below.refl _ _).alloc (Nat.le_refl _) _
        have hs1 : X1.heap.size = wr.heap.size + 1 := by rw [← hX1]; simp
        have hn1 : X1.heap[wr.heap.size]? = some (.cells #[.string (mk yn), .int .i64 yt, .int .i64 yc] 47 (0, 0)) := by rw [← hX1]; exact heap_alloc_new _ _
        have hnw2 : X2.heap[wr.heap.size + 1]? = some (.cells #[.string (mk zn), .int .i64 zt, .int .i64 zc] 47 (0, 0)) := by rw [← hX2, ← hs1]; exact heap_alloc_new _ _
        have hn1' := (hbB.block _ (Array.getElem?_eq_some_iff.1 hn1).1).trans hn1
        have hbX := HB.out.trans ((hbA.trans (hbB.mono hbA.size)).mono HB.out.size)
        have U := fun (p : Addr) (h : p.block < wr.heap.size) => hbA.cell (p := p) h
        have v0 : X1.cell? ⟨g2, o2 + k * 3, none⟩ = some (.string (mk zn)) := (U ⟨g2, o2 + k * 3, none⟩ hg2).trans u0
        have v1 : X1.cell? ⟨g2, o2 + k * 3 + 1, none⟩ = some (.int .i64 zt) := (U ⟨g2, o2 + k * 3 + 1, none⟩ hg2).trans u1
        have v2 : X1.cell? ⟨g2, o2 + k * 3 + 2, none⟩ = some (.int .i64 zc) := (U ⟨g2, o2 + k * 3 + 2, none⟩ hg2).trans u2
        have e0 : X2.cell? ⟨wr.heap.size, 0, none⟩ = some (.string (mk yn)) := row_cell hn1' 0 _ rfl
        have f0 : X2.cell? ⟨wr.heap.size + 1, 0, none⟩ = some (.string (mk zn)) := row_cell hnw2 0 _ rfl
        have e1 : X2.cell? ⟨wr.heap.size, 1, none⟩ = some (.int .i64 yt) := row_cell hn1' 1 _ rfl
        have f1 : X2.cell? ⟨wr.heap.size + 1, 1, none⟩ = some (.int .i64 zt) := row_cell hnw2 1 _ rfl
        have e2 : X2.cell? ⟨wr.heap.size, 2, none⟩ = some (.int .i64 yc) := row_cell hn1' 2 _ rfl
        have f2 : X2.cell? ⟨wr.heap.size + 1, 2, none⟩ = some (.int .i64 zc) := row_cell hnw2 2 _ rfl
        have HCALL := Go.Lib.hid hcall
        have HBX := Go.Lib.hid hbX
        clear hcall hbX
        clear hn1 hnw2 hn1' hbA hbB U hox hoy
        cases s with
        | false =>
          have hr : res = false := HNOK.out rfl
          have HR := Go.Lib.hid hr
          clear hr
          go_wp2_with fail
          refine (HCALL.out _).mono ?_; rintro e w9 ⟨rfl, hx9⟩
          have hb9 := HBX.out.trans (hx9.mono HBX.out.size)
          have HB9 := Go.Lib.hid hb9
          clear hb9
          clear hx9
          go_wp2_with fail
          go_ret
          exact ⟨ret_bool HR.out.symm, HB9.out⟩
        | true =>
          have ha3 := HALL2.out rfl
          have HA3 := Go.Lib.hid ha3
          clear ha3
          go_wp2_with fail
          refine (HCALL.out _).mono ?_; rintro e w9 ⟨rfl, hx9⟩
          have hb9 := HBX.out.trans (hx9.mono HBX.out.size)
          have HB9 := Go.Lib.hid hb9
          clear hb9
          clear hx9
          go_wp2_with fail
          go_roundw
          case rel => exact ⟨k + 1, by go_num, by omega, HA3.out, HB9.out⟩
          case measure => simp [RowKit.intOf]; omega
      · obtain rfl : k = N := by omega
        have t1 : ¬ (k : Int) < (k : Int) := by omega
        have hr : res = true := HALLF.out HALL.out
        have HR := Go.Lib.hid hr
        clear hr
        go_wp2_with fail
        go_ret
        exact ⟨ret_bool HR.out.symm, HB.out⟩
  · have hr := eqL_len qSame l m hlen
    generalize eqL qSame l m = res at *
    have t00 : ((l.length : Int) != (m.length : Int)) = true := bne_iff_ne.2 (fun e => hlen (by exact_mod_cast e))
    have HR := Go.Lib.hid hr
    clear hr
    clear hl hm hlo hmo hres hlen
    generalize l.length = n1 at *
    generalize m.length = n2 at *
    go_enter Try.func48, Try.ntmps48
    go_wp2_with fail
    go_ret
    exact ⟨ret_bool HR.out.symm, HB.out⟩
set_option maxHeartbeats 4000000 in
theorem EqR_any (a b : Option Addr) (ca cb : Nat) (l m : List Rc.RR) (w : World) (hl : RRs w (.slice a l.length ca) l) (hm : RRs w (.slice b m.length cb) m) (hn : l.length ≤ 1099511627776) (hn2 : m.length ≤ 1099511627776)
    (hlo : ∀ x ∈ l, RROk x) (hmo : ∀ x ∈ m, RROk x) :
    Calls Try.prog 50 #[.slice a l.length ca, .slice b m.length cb, .func (.func 51) #[] #[]] w fun e w' => e = .returned (.bool (eqL rSame l m)) ∧ Below w.heap.size w w' := by
  have HB := Go.Lib.hid (Below.refl w.heap.size w)
  have hres : eqL rSame l m = eqL rSame l m := rfl
  by_cases hlen : l.length = m.length
  · have ha := eqL_all rSame r0 l m hlen
    have hno := fun k => eqL_no rSame r0 l m k hlen
    rw [← hlen] at hm hn2 ⊢
    generalize hRS : eqL rSame l m = res at *
    generalize hN : l.length = N at *
    have hNM : m.length = N := hlen.symm
    have HN := Go.Lib.hid hN
    have HNM := Go.Lib.hid hNM
    have HL := Go.Lib.hid hl
    have HM := Go.Lib.hid hm
    have HALLF := Go.Lib.hid ha
    have HNO := Go.Lib.hid hno
    have HLO := Go.Lib.hid hlo
    have HMO := Go.Lib.hid hmo
    have HRS := Go.Lib.hid hRS
    clear hN hNM hl hm ha hno hlo hmo hRS
    clear hres hlen hn2
    go_enter Try.func50, Try.ntmps50
    have t00 : ((N : Int) != (N : Int)) = false := by simp
    go_wp2_with fail
    go_loopw [17] (fun i wr => ∃ k : Nat, i = .int .i64 k ∧ k ≤ N ∧ (∀ c, c < k → rSame (l.getD c r0) (m.getD c r0) = true) ∧ Below w.heap.size w wr) (fun i _ => N - (RowKit.intOf i).toNat)
    case atStart => exact ⟨0, rfl, by omega, fun c h => by omega, HB.out⟩
    case round =>
      obtain ⟨k, rfl, hk, hall, hbr⟩ := hrel
      clear HB
      have HALL := Go.Lib.hid hall
      have HB := Go.Lib.hid hbr
      clear hall hbr
      by_cases hlt : k < N
      · have t1 : (k : Int) < (N : Int) := by omega
        have t0 : (0 : Int) ≤ (k : Int) := by omega
        have q2 : IntKind.i64.wrap ((k : Int) + 1) = (k : Int) + 1 := wrapi (by omega) (by omega)
        have h1 := HL.out.below HB.out (Nat.le_refl _)
        have h2 := HM.out.below HB.out (Nat.le_refl _)
        obtain ⟨g1, o1, rfl, hg1, hc1⟩ := RRs.at (by rw [← HN.out] at h1; exact h1) (by rw [HN.out]; omega)
        obtain ⟨g2, o2, rfl, hg2, hc2⟩ := RRs.at (by rw [← HNM.out] at h2; exact h2) (by rw [HNM.out]; omega)
        have hx := hc1 k (by rw [HN.out]; exact hlt)
        have hy := hc2 k (by rw [HNM.out]; exact hlt)
        have hox := HLO.out _ (rr_step HN.out hlt).2
        have hoy := HMO.out _ (rr_step HNM.out hlt).2
        have hno := HNO.out k hlt
        have hall2 : rSame (l.getD k r0) (m.getD k r0) = true → ∀ c, c < k + 1 → rSame (l.getD c r0) (m.getD c r0) = true := fun h c hc => by
          rcases Nat.lt_or_ge c k with h3 | h3
          · exact HALL.out c h3
          · rw [show c = k by omega]; exact h
        have HNOK := Go.Lib.hid hno
        have HALL2 := Go.Lib.hid hall2
        clear hno hall2
        clear h1 h2 hc1 hc2
        generalize l.getD k r0 = y at *
        generalize m.getD k r0 = z at *
        have hcall := fun W => sameRR_any y z W hox hoy
        generalize rSame y z = s at *
        obtain ⟨yn, yt, yc, yl, yd⟩ := y
        obtain ⟨zn, zt, zc, zl, zd⟩ := z
        obtain ⟨x0, x1, x2, x3, x4⟩ := hx
        obtain ⟨u0, u1, u2, u3, u4⟩ := hy
        simp only at *
        obtain ⟨X1, hX1⟩ : ∃ X1, wr.alloc (.cells #[.string (mk yn), .int .i64 yt, .int .i64 yc, .int .i64 yl, .string (mk yd)] 45) = X1 := ⟨_, rfl⟩
        obtain ⟨X2, hX2⟩ : ∃ X2, X1.alloc (.cells #[.string (mk zn), .int .i64 zt, .int .i64 zc, .int .i64 zl, .string (mk zd)] 45) = X2 := ⟨_, rfl⟩
        have hbA : Below wr.heap.size wr X1 := by rw [← hX1]; exact (Below.refl _ _).alloc (Nat.le_refl _) _
        have hbB : Below X1.heap.size X1 X2 := by rw [← hX2]; exact (Below.refl _ _).alloc (Nat.le_refl _) _
        have hs1 : X1.heap.size = wr.heap.size + 1 := by rw [← hX1]; simp
        have hn1 : X1.heap[wr.heap.size]? = some (.cells #[.string (mk yn), .int .i64 yt, .int .i64 yc, .int .i64 yl, .string (mk yd)] 45 (0, 0)) := by rw [← hX1]; exact heap_alloc_new _ _
        have hnw2 : X2.heap[wr.heap.size + 1]? = some (.cells #[.string (mk zn), .int .i64 zt, .int .i64 zc, .int .i64 zl, .string (mk zd)] 45 (0, 0)) := by rw [← hX2, ← hs1]; exact heap_alloc_new _ _
        have hn1' := (hbB.block _ (Array.getElem?_eq_some_iff.1 hn1).1).trans hn1
        have hbX := HB.out.trans ((hbA.trans (hbB.mono hbA.size)).mono HB.out.size)
        have U := fun (p : Addr) (h : p.block < wr.heap.size) => hbA.cell (p := p) h
        have v0 : X1.cell? ⟨g2, o2 + k * 5, none⟩ = some (.string (mk zn)) := (U ⟨g2, o2 + k * 5, none⟩ hg2).trans u0
        have v1 : X1.cell? ⟨g2, o2 + k * 5 + 1, none⟩ = some (.int .i64 zt) := (U ⟨g2, o2 + k * 5 + 1, none⟩ hg2).trans u1
        have v2 : X1.cell? ⟨g2, o2 + k * 5 + 2, none⟩ = some (.int .i64 zc) := (U ⟨g2, o2 + k * 5 + 2, none⟩ hg2).trans u2
        have v3 : X1.cell? ⟨g2, o2 + k * 5 + 3, none⟩ = some (.int .i64 zl) := (U ⟨g2, o2 + k * 5 + 3, none⟩ hg2).trans u3
        have v4 : X1.cell? ⟨g2, o2 + k * 5 + 4, none⟩ = some (.string (mk zd)) := (U ⟨g2, o2 + k * 5 + 4, none⟩ hg2).trans u4
        have e0 : X2.cell? ⟨wr.heap.size, 0, none⟩ = some (.string (mk yn)) := row_cell hn1' 0 _ rfl
        have f0 : X2.cell? ⟨wr.heap.size + 1, 0, none⟩ = some (.string (mk zn)) := row_cell hnw2 0 _ rfl
        have e1 : X2.cell? ⟨wr.heap.size, 1, none⟩ = some (.int .i64 yt) := row_cell hn1' 1 _ rfl
        have f1 : X2.cell? ⟨wr.heap.size + 1, 1, none⟩ = some (.int .i64 zt) := row_cell hnw2 1 _ rfl
        have e2 : X2.cell? ⟨wr.heap.size, 2, none⟩ = some (.int .i64 yc) := row_cell hn1' 2 _ rfl
        have f2 : X2.cell? ⟨wr.heap.size + 1, 2, none⟩ = some (.int .i64 zc) := row_cell hnw2 2 _ rfl
        have e3 : X2.cell? ⟨wr.heap.size, 3, none⟩ = some (.int .i64 yl) := row_cell hn1' 3 _ rfl
        have f3 : X2.cell? ⟨wr.heap.size + 1, 3, none⟩ = some (.int .i64 zl) := row_cell hnw2 3 _ rfl
        have e4 : X2.cell? ⟨wr.heap.size, 4, none⟩ = some (.string (mk yd)) := row_cell hn1' 4 _ rfl
        have f4 : X2.cell? ⟨wr.heap.size + 1, 4, none⟩ = some (.string (mk zd)) := row_cell hnw2 4 _ rfl
        have HCALL := Go.Lib.hid hcall
        have HBX := Go.Lib.hid hbX
        clear hcall hbX
        clear hn1 hnw2 hn1' hbA hbB U hox hoy
        cases s with
        | false =>
          have hr : res = false := HNOK.out rfl
          have HR := Go.Lib.hid hr
          clear hr
          go_wp2_with fail
          refine (HCALL.out _).mono ?_; rintro e w9 ⟨rfl, hx9⟩
          have hb9 := HBX.out.trans (hx9.mono HBX.out.size)
          have HB9 := Go.Lib.hid hb9
          clear hb9
          clear hx9
          go_wp2_with fail
          go_ret
          exact ⟨ret_bool HR.out.symm, HB9.out⟩
        | true =>
          have ha3 := HALL2.out rfl
          have HA3 := Go.Lib.hid ha3
          clear ha3
          go_wp2_with fail
          refine (HCALL.out _).mono ?_; rintro e w9 ⟨rfl, hx9⟩
          have hb9 := HBX.out.trans (hx9.mono HBX.out.size)
          have HB9 := Go.Lib.hid hb9
          clear hb9
          clear hx9
          go_wp2_with fail
          go_roundw
          case rel => exact ⟨k + 1, by go_num, by omega, HA3.out, HB9.out⟩
          case measure => simp [RowKit.intOf]; omega
      · obtain rfl : k = N := by omega
        have t1 : ¬ (k : Int) < (k : Int) := by omega
        have hr : res = true := HALLF.out HALL.out
        have HR := Go.Lib.hid hr
        clear hr
        go_wp2_with fail
        go_ret
        exact ⟨ret_bool HR.out.symm, HB.out⟩
  · have hr := eqL_len rSame l m hlen
    generalize eqL rSame l m = res at *
    have t00 : ((l.length : Int) != (m.length : Int)) = true := bne_iff_ne.2 (fun e => hlen (by exact_mod_cast e))
    have HR := Go.Lib.hid hr
    clear hr
    clear hl hm hlo hmo hres hlen
    generalize l.length = n1 at *
    generalize m.length = n2 at *
    go_enter Try.func50, Try.ntmps50
    go_wp2_with fail
    go_ret
    exact ⟨ret_bool HR.out.symm, HB.out⟩
end Go.Proofs.Ythfhmbooeemaaaa

/- Message: Same. -/
namespace Go.Proofs.Ythfhmbooeemaaaa
open Go.RowKit Go.Shelf Go.Sq
set_option maxRecDepth 100000
set_option linter.unusedVariables false

set_option maxHeartbeats 4000000 in
theorem plain_same (m : Msg) (q a s d q2 a2 s2 d2 : Value) (w : World) : Calls Try.prog 47 #[MV m q a s d, MV m q2 a2 s2 d2] w fun e w' => e = .returned (.bool true) ∧ Below w.heap.size w w' := by
  obtain ⟨h1, h2⟩ := two_boxes w (MC m q a s d) (MC m q2 a2 s2 d2) 27
  have h0 : Below w.heap.size w ((w.alloc (.cells (MC m q a s d) 27)).alloc (.cells (MC m q2 a2 s2 d2) 27)) := ((Below.refl _ w).alloc (Nat.le_refl _) _).alloc (by simp) _
  obtain ⟨mid, mre, mop, mau, mcu, mde, mav, mco, mqs, man, msv, mad, med, msi⟩ := m
  simp only [MC] at *
  obtain ⟨X, hX⟩ : ∃ X, (w.alloc (.cells (MC ⟨mid, mre, mop, mau, mcu, mde, mav, mco, mqs, man, msv, mad, med, msi⟩ q a s d) 27)).alloc (.cells (MC ⟨mid, mre, mop, mau, mcu, mde, mav, mco, mqs, man, msv, mad, med, msi⟩ q2 a2 s2 d2) 27) = X := ⟨_, rfl⟩
  simp only [MC] at hX
  rw [hX] at h1 h2 h0
  have x0 : X.cell? ⟨w.heap.size, 0, none⟩ = some (.int .i64 mid) := row_cell h1 0 _ rfl
  have x1 : X.cell? ⟨w.heap.size, 1, none⟩ = some (.bool mre) := row_cell h1 1 _ rfl
  have x2 : X.cell? ⟨w.heap.size, 2, none⟩ = some (.int .i64 mop) := row_cell h1 2 _ rfl
  have x3 : X.cell? ⟨w.heap.size, 3, none⟩ = some (.bool mau) := row_cell h1 3 _ rfl
  have x4 : X.cell? ⟨w.heap.size, 4, none⟩ = some (.bool mcu) := row_cell h1 4 _ rfl
  have x5 : X.cell? ⟨w.heap.size, 5, none⟩ = some (.bool mde) := row_cell h1 5 _ rfl
  have x6 : X.cell? ⟨w.heap.size, 6, none⟩ = some (.bool mav) := row_cell h1 6 _ rfl
  have x7 : X.cell? ⟨w.heap.size, 7, none⟩ = some (.int .i64 mco) := row_cell h1 7 _ rfl
  have x8 : X.cell? ⟨w.heap.size, 8, none⟩ = some (q) := row_cell h1 8 _ rfl
  have x9 : X.cell? ⟨w.heap.size, 9, none⟩ = some (a) := row_cell h1 9 _ rfl
  have x10 : X.cell? ⟨w.heap.size, 10, none⟩ = some (s) := row_cell h1 10 _ rfl
  have x11 : X.cell? ⟨w.heap.size, 11, none⟩ = some (d) := row_cell h1 11 _ rfl
  have x12 : X.cell? ⟨w.heap.size, 12, none⟩ = some (.bool med) := row_cell h1 12 _ rfl
  have x13 : X.cell? ⟨w.heap.size, 13, none⟩ = some (.int .i64 msi) := row_cell h1 13 _ rfl
  have y0 : X.cell? ⟨w.heap.size + 1, 0, none⟩ = some (.int .i64 mid) := row_cell h2 0 _ rfl
  have y1 : X.cell? ⟨w.heap.size + 1, 1, none⟩ = some (.bool mre) := row_cell h2 1 _ rfl
  have y2 : X.cell? ⟨w.heap.size + 1, 2, none⟩ = some (.int .i64 mop) := row_cell h2 2 _ rfl
  have y3 : X.cell? ⟨w.heap.size + 1, 3, none⟩ = some (.bool mau) := row_cell h2 3 _ rfl
  have y4 : X.cell? ⟨w.heap.size + 1, 4, none⟩ = some (.bool mcu) := row_cell h2 4 _ rfl
  have y5 : X.cell? ⟨w.heap.size + 1, 5, none⟩ = some (.bool mde) := row_cell h2 5 _ rfl
  have y6 : X.cell? ⟨w.heap.size + 1, 6, none⟩ = some (.bool mav) := row_cell h2 6 _ rfl
  have y7 : X.cell? ⟨w.heap.size + 1, 7, none⟩ = some (.int .i64 mco) := row_cell h2 7 _ rfl
  have y8 : X.cell? ⟨w.heap.size + 1, 8, none⟩ = some (q2) := row_cell h2 8 _ rfl
  have y9 : X.cell? ⟨w.heap.size + 1, 9, none⟩ = some (a2) := row_cell h2 9 _ rfl
  have y10 : X.cell? ⟨w.heap.size + 1, 10, none⟩ = some (s2) := row_cell h2 10 _ rfl
  have y11 : X.cell? ⟨w.heap.size + 1, 11, none⟩ = some (d2) := row_cell h2 11 _ rfl
  have y12 : X.cell? ⟨w.heap.size + 1, 12, none⟩ = some (.bool med) := row_cell h2 12 _ rfl
  have y13 : X.cell? ⟨w.heap.size + 1, 13, none⟩ = some (.int .i64 msi) := row_cell h2 13 _ rfl
  have HB := Go.Lib.hid h0
  clear h1 h2 h0
  go_enter Try.func47, Try.ntmps47
  go_wp2_with fail
  go_ret
  exact ⟨rfl, HB.out⟩
set_option maxHeartbeats 4000000 in
theorem plain_code (m : Msg) (c2 : Int) (q a s d q2 a2 s2 d2 : Value) (w : World) (hc : m.code ≠ c2) : Calls Try.prog 47 #[MV m q a s d, MV { m with code := c2 } q2 a2 s2 d2] w fun e w' => e = .returned (.bool false) ∧ Below w.heap.size w w' := by
  obtain ⟨h1, h2⟩ := two_boxes w (MC m q a s d) (MC { m with code := c2 } q2 a2 s2 d2) 27
  have h0 : Below w.heap.size w ((w.alloc (.cells (MC m q a s d) 27)).alloc (.cells (MC { m with code := c2 } q2 a2 s2 d2) 27)) := ((Below.refl _ w).alloc (Nat.le_refl _) _).alloc (by simp) _
  obtain ⟨mid, mre, mop, mau, mcu, mde, mav, mco, mqs, man, msv, mad, med, msi⟩ := m
  simp only [MC] at *
  obtain ⟨X, hX⟩ : ∃ X, (w.alloc (.cells (MC ⟨mid, mre, mop, mau, mcu, mde, mav, mco, mqs, man, msv, mad, med, msi⟩ q a s d) 27)).alloc (.cells (MC ⟨mid, mre, mop, mau, mcu, mde, mav, c2, mqs, man, msv, mad, med, msi⟩ q2 a2 s2 d2) 27) = X := ⟨_, rfl⟩
  simp only [MC] at hX
  rw [hX] at h1 h2 h0
  have x0 : X.cell? ⟨w.heap.size, 0, none⟩ = some (.int .i64 mid) := row_cell h1 0 _ rfl
  have x1 : X.cell? ⟨w.heap.size, 1, none⟩ = some (.bool mre) := row_cell h1 1 _ rfl
  have x2 : X.cell? ⟨w.heap.size, 2, none⟩ = some (.int .i64 mop) := row_cell h1 2 _ rfl
  have x3 : X.cell? ⟨w.heap.size, 3, none⟩ = some (.bool mau) := row_cell h1 3 _ rfl
  have x4 : X.cell? ⟨w.heap.size, 4, none⟩ = some (.bool mcu) := row_cell h1 4 _ rfl
  have x5 : X.cell? ⟨w.heap.size, 5, none⟩ = some (.bool mde) := row_cell h1 5 _ rfl
  have x6 : X.cell? ⟨w.heap.size, 6, none⟩ = some (.bool mav) := row_cell h1 6 _ rfl
  have x7 : X.cell? ⟨w.heap.size, 7, none⟩ = some (.int .i64 mco) := row_cell h1 7 _ rfl
  have x8 : X.cell? ⟨w.heap.size, 8, none⟩ = some (q) := row_cell h1 8 _ rfl
  have x9 : X.cell? ⟨w.heap.size, 9, none⟩ = some (a) := row_cell h1 9 _ rfl
  have x10 : X.cell? ⟨w.heap.size, 10, none⟩ = some (s) := row_cell h1 10 _ rfl
  have x11 : X.cell? ⟨w.heap.size, 11, none⟩ = some (d) := row_cell h1 11 _ rfl
  have x12 : X.cell? ⟨w.heap.size, 12, none⟩ = some (.bool med) := row_cell h1 12 _ rfl
  have x13 : X.cell? ⟨w.heap.size, 13, none⟩ = some (.int .i64 msi) := row_cell h1 13 _ rfl
  have y0 : X.cell? ⟨w.heap.size + 1, 0, none⟩ = some (.int .i64 mid) := row_cell h2 0 _ rfl
  have y1 : X.cell? ⟨w.heap.size + 1, 1, none⟩ = some (.bool mre) := row_cell h2 1 _ rfl
  have y2 : X.cell? ⟨w.heap.size + 1, 2, none⟩ = some (.int .i64 mop) := row_cell h2 2 _ rfl
  have y3 : X.cell? ⟨w.heap.size + 1, 3, none⟩ = some (.bool mau) := row_cell h2 3 _ rfl
  have y4 : X.cell? ⟨w.heap.size + 1, 4, none⟩ = some (.bool mcu) := row_cell h2 4 _ rfl
  have y5 : X.cell? ⟨w.heap.size + 1, 5, none⟩ = some (.bool mde) := row_cell h2 5 _ rfl
  have y6 : X.cell? ⟨w.heap.size + 1, 6, none⟩ = some (.bool mav) := row_cell h2 6 _ rfl
  have y7 : X.cell? ⟨w.heap.size + 1, 7, none⟩ = some (.int .i64 c2) := row_cell h2 7 _ rfl
  have y8 : X.cell? ⟨w.heap.size + 1, 8, none⟩ = some (q2) := row_cell h2 8 _ rfl
  have y9 : X.cell? ⟨w.heap.size + 1, 9, none⟩ = some (a2) := row_cell h2 9 _ rfl
  have y10 : X.cell? ⟨w.heap.size + 1, 10, none⟩ = some (s2) := row_cell h2 10 _ rfl
  have y11 : X.cell? ⟨w.heap.size + 1, 11, none⟩ = some (d2) := row_cell h2 11 _ rfl
  have y12 : X.cell? ⟨w.heap.size + 1, 12, none⟩ = some (.bool med) := row_cell h2 12 _ rfl
  have y13 : X.cell? ⟨w.heap.size + 1, 13, none⟩ = some (.int .i64 msi) := row_cell h2 13 _ rfl
  have HB := Go.Lib.hid h0
  clear h1 h2 h0
  have hcf : (mco == c2) = false := beq_eq_false_iff_ne.2 hc
  clear hc
  go_enter Try.func47, Try.ntmps47
  go_wp2_with fail
  go_ret
  exact ⟨rfl, HB.out⟩
end Go.Proofs.Ythfhmbooeemaaaa

/- Message: Same, where all is alike; where the code is not. -/
namespace Go.Proofs.Ythfhmbooeemaaaa
open Go.RowKit Go.Shelf Go.Sq
set_option maxRecDepth 100000
set_option linter.unusedVariables false

set_option maxHeartbeats 8000000 in
theorem MSame_true (m m' : Msg) (q a s d q' a' s' d' : Value) (w : World) (hm : MsgL w m q a s d) (hm' : MsgL w m' q' a' s' d') (hs : MsgS m) (hs' : MsgS m') (hv : MV m' q' a' s' d' = MV m q' a' s' d')
    (e1 : eqL qSame m.qs m'.qs = true) (e2 : eqL rSame m.an m'.an = true) (e3 : eqL rSame m.sv m'.sv = true) (e4 : eqL rSame m.ad m'.ad = true) :
    Calls Try.prog 21 #[MV m q a s d, MV m' q' a' s' d'] w fun e w' => e = .returned (.bool true) ∧ Below w.heap.size w w' := by
  rw [hv]
  clear hv
  obtain ⟨aq, cq, rfl, _, _⟩ := hm.qs.slice
  obtain ⟨aa, ca, rfl, _, _⟩ := hm.an.slice
  obtain ⟨av, cs, rfl, _, _⟩ := hm.sv.slice
  obtain ⟨ad, cd, rfl, _, _⟩ := hm.ad.slice
  obtain ⟨bq, eq, rfl, _, _⟩ := hm'.qs.slice
  obtain ⟨ba, ea, rfl, _, _⟩ := hm'.an.slice
  obtain ⟨bv, es, rfl, _, _⟩ := hm'.sv.slice
  obtain ⟨bd, ed, rfl, _, _⟩ := hm'.ad.slice
  have c1 := fun (W : World) (h : Below w.heap.size w W) => EqQ_any aq bq cq eq m.qs m'.qs W (hm.qs.below h (Nat.le_refl _)) (hm'.qs.below h (Nat.le_refl _)) hs.q hs'.q hs.qn hs'.qn
  have c2 := fun (W : World) (h : Below w.heap.size w W) => EqR_any aa ba ca ea m.an m'.an W (hm.an.below h (Nat.le_refl _)) (hm'.an.below h (Nat.le_refl _)) hs.a hs'.a (fun x hx => hs.rr (0, x) (by simp [allR, baseS, secL, hx])) (fun x hx => hs'.rr (0, x) (by simp [allR, baseS, secL, hx]))
  have c3 := fun (W : World) (h : Below w.heap.size w W) => EqR_any av bv cs es m.sv m'.sv W (hm.sv.below h (Nat.le_refl _)) (hm'.sv.below h (Nat.le_refl _)) hs.s hs'.s (fun x hx => hs.rr (1, x) (by simp [allR, baseS, secL, hx])) (fun x hx => hs'.rr (1, x) (by simp [allR, baseS, secL, hx]))
  have c4 := fun (W : World) (h : Below w.heap.size w W) => EqR_any ad bd cd ed m.ad m'.ad W (hm.ad.below h (Nat.le_refl _)) (hm'.ad.below h (Nat.le_refl _)) hs.d hs'.d (fun x hx => hs.rr (2, x) (by simp [allR, baseS, secL, hx])) (fun x hx => hs'.rr (2, x) (by simp [allR, baseS, secL, hx]))
  rw [e1] at c1
  rw [e2] at c2
  rw [e3] at c3
  rw [e4] at c4
  clear e1 e2 e3 e4 hm hm' hs hs'
  have hp := fun W => plain_same m (.slice aq m.qs.length cq) (.slice aa m.an.length ca) (.slice av m.sv.length cs) (.slice ad m.ad.length cd) (.slice bq m'.qs.length eq) (.slice ba m'.an.length ea) (.slice bv m'.sv.length es) (.slice bd m'.ad.length ed) W
  obtain ⟨mid, mre, mop, mau, mcu, mde, mav, mco, mqs, man, msv, mad, med, msi⟩ := m
  simp only at *
  generalize mqs.length = nq at *
  generalize man.length = na at *
  generalize msv.length = ns at *
  generalize mad.length = nd at *
  generalize m'.qs.length = nq2 at *
  generalize m'.an.length = na2 at *
  generalize m'.sv.length = ns2 at *
  generalize m'.ad.length = nd2 at *
  obtain ⟨h1, h2⟩ := two_boxes w (MC ⟨mid, mre, mop, mau, mcu, mde, mav, mco, mqs, man, msv, mad, med, msi⟩ (.slice aq nq cq) (.slice aa na ca) (.slice av ns cs) (.slice ad nd cd)) (MC ⟨mid, mre, mop, mau, mcu, mde, mav, mco, mqs, man, msv, mad, med, msi⟩ (.slice bq nq2 eq) (.slice ba na2 ea) (.slice bv ns2 es) (.slice bd nd2 ed)) 27
  have h0 : Below w.heap.size w ((w.alloc (.cells (MC ⟨mid, mre, mop, mau, mcu, mde, mav, mco, mqs, man, msv, mad, med, msi⟩ (.slice aq nq cq) (.slice aa na ca) (.slice av ns cs) (.slice ad nd cd)) 27)).alloc (.cells (MC ⟨mid, mre, mop, mau, mcu, mde, mav, mco, mqs, man, msv, mad, med, msi⟩ (.slice bq nq2 eq) (.slice ba na2 ea) (.slice bv ns2 es) (.slice bd nd2 ed)) 27)) := ((Below.refl _ w).alloc (Nat.le_refl _) _).alloc (by simp) _
  obtain ⟨X, hX⟩ : ∃ X, (w.alloc (.cells (MC ⟨mid, mre, mop, mau, mcu, mde, mav, mco, mqs, man, msv, mad, med, msi⟩ (.slice aq nq cq) (.slice aa na ca) (.slice av ns cs) (.slice ad nd cd)) 27)).alloc (.cells (MC ⟨mid, mre, mop, mau, mcu, mde, mav, mco, mqs, man, msv, mad, med, msi⟩ (.slice bq nq2 eq) (.slice ba na2 ea) (.slice bv ns2 es) (.slice bd nd2 ed)) 27) = X := ⟨_, rfl⟩
  rw [hX] at h1 h2 h0
  simp only [MC] at hX
  have x0 : X.cell? ⟨w.heap.size, 0, none⟩ = some (.int .i64 mid) := row_cell h1 0 _ rfl
  have x1 : X.cell? ⟨w.heap.size, 1, none⟩ = some (.bool mre) := row_cell h1 1 _ rfl
  have x2 : X.cell? ⟨w.heap.size, 2, none⟩ = some (.int .i64 mop) := row_cell h1 2 _ rfl
  have x3 : X.cell? ⟨w.heap.size, 3, none⟩ = some (.bool mau) := row_cell h1 3 _ rfl
  have x4 : X.cell? ⟨w.heap.size, 4, none⟩ = some (.bool mcu) := row_cell h1 4 _ rfl
  have x5 : X.cell? ⟨w.heap.size, 5, none⟩ = some (.bool mde) := row_cell h1 5 _ rfl
  have x6 : X.cell? ⟨w.heap.size, 6, none⟩ = some (.bool mav) := row_cell h1 6 _ rfl
  have x7 : X.cell? ⟨w.heap.size, 7, none⟩ = some (.int .i64 mco) := row_cell h1 7 _ rfl
  have x8 : X.cell? ⟨w.heap.size, 8, none⟩ = some (.slice aq nq cq) := row_cell h1 8 _ rfl
  have x9 : X.cell? ⟨w.heap.size, 9, none⟩ = some (.slice aa na ca) := row_cell h1 9 _ rfl
  have x10 : X.cell? ⟨w.heap.size, 10, none⟩ = some (.slice av ns cs) := row_cell h1 10 _ rfl
  have x11 : X.cell? ⟨w.heap.size, 11, none⟩ = some (.slice ad nd cd) := row_cell h1 11 _ rfl
  have x12 : X.cell? ⟨w.heap.size, 12, none⟩ = some (.bool med) := row_cell h1 12 _ rfl
  have x13 : X.cell? ⟨w.heap.size, 13, none⟩ = some (.int .i64 msi) := row_cell h1 13 _ rfl
  have y0 : X.cell? ⟨w.heap.size + 1, 0, none⟩ = some (.int .i64 mid) := row_cell h2 0 _ rfl
  have y1 : X.cell? ⟨w.heap.size + 1, 1, none⟩ = some (.bool mre) := row_cell h2 1 _ rfl
  have y2 : X.cell? ⟨w.heap.size + 1, 2, none⟩ = some (.int .i64 mop) := row_cell h2 2 _ rfl
  have y3 : X.cell? ⟨w.heap.size + 1, 3, none⟩ = some (.bool mau) := row_cell h2 3 _ rfl
  have y4 : X.cell? ⟨w.heap.size + 1, 4, none⟩ = some (.bool mcu) := row_cell h2 4 _ rfl
  have y5 : X.cell? ⟨w.heap.size + 1, 5, none⟩ = some (.bool mde) := row_cell h2 5 _ rfl
  have y6 : X.cell? ⟨w.heap.size + 1, 6, none⟩ = some (.bool mav) := row_cell h2 6 _ rfl
  have y7 : X.cell? ⟨w.heap.size + 1, 7, none⟩ = some (.int .i64 mco) := row_cell h2 7 _ rfl
  have y8 : X.cell? ⟨w.heap.size + 1, 8, none⟩ = some (.slice bq nq2 eq) := row_cell h2 8 _ rfl
  have y9 : X.cell? ⟨w.heap.size + 1, 9, none⟩ = some (.slice ba na2 ea) := row_cell h2 9 _ rfl
  have y10 : X.cell? ⟨w.heap.size + 1, 10, none⟩ = some (.slice bv ns2 es) := row_cell h2 10 _ rfl
  have y11 : X.cell? ⟨w.heap.size + 1, 11, none⟩ = some (.slice bd nd2 ed) := row_cell h2 11 _ rfl
  have y12 : X.cell? ⟨w.heap.size + 1, 12, none⟩ = some (.bool med) := row_cell h2 12 _ rfl
  have y13 : X.cell? ⟨w.heap.size + 1, 13, none⟩ = some (.int .i64 msi) := row_cell h2 13 _ rfl
  have C1 := Go.Lib.hid c1
  have C2 := Go.Lib.hid c2
  have C3 := Go.Lib.hid c3
  have C4 := Go.Lib.hid c4
  have HP := Go.Lib.hid hp
  have HB := Go.Lib.hid h0
  have H1 := Go.Lib.hid h1
  have H2 := Go.Lib.hid h2
  clear c1 c2 c3 c4 hp h0 h1 h2
  go_enter Try.func21, Try.ntmps21
  go_wp2_with fail
  refine (HP.out _).mono ?_; rintro e w1 ⟨rfl, hx⟩
  have g1 := (hx.block _ (Array.getElem?_eq_some_iff.1 H1.out).1).trans H1.out
  have g2 := (hx.block _ (Array.getElem?_eq_some_iff.1 H2.out).1).trans H2.out
  have hb := HB.out.trans (hx.mono HB.out.size)
  have k8 : w1.cell? ⟨w.heap.size, 8, none⟩ = some (.slice aq nq cq) := row_cell g1 8 _ rfl
  have j8 : w1.cell? ⟨w.heap.size + 1, 8, none⟩ = some (.slice bq nq2 eq) := row_cell g2 8 _ rfl
  clear HB H1 H2
  have HB := Go.Lib.hid hb
  have H1 := Go.Lib.hid g1
  have H2 := Go.Lib.hid g2
  clear hb g1 g2
  clear hx
  clear hX x0 y0 x1 y1 x2 y2 x3 y3 x4 y4 x5 y5 x6 y6 x7 y7 x8 y8 x9 y9 x10 y10 x11 y11 x12 y12 x13 y13
  go_wp2_with fail
  refine (C1.out _ HB.out).mono ?_; rintro e w2 ⟨rfl, hx⟩
  have g1 := (hx.block _ (Array.getElem?_eq_some_iff.1 H1.out).1).trans H1.out
  have g2 := (hx.block _ (Array.getElem?_eq_some_iff.1 H2.out).1).trans H2.out
  have hb := HB.out.trans (hx.mono HB.out.size)
  have k9 : w2.cell? ⟨w.heap.size, 9, none⟩ = some (.slice aa na ca) := row_cell g1 9 _ rfl
  have j9 : w2.cell? ⟨w.heap.size + 1, 9, none⟩ = some (.slice ba na2 ea) := row_cell g2 9 _ rfl
  clear HB H1 H2
  have HB := Go.Lib.hid hb
  have H1 := Go.Lib.hid g1
  have H2 := Go.Lib.hid g2
  clear hb g1 g2
  clear hx k8 j8
  go_wp2_with fail
  refine (C2.out _ HB.out).mono ?_; rintro e w3 ⟨rfl, hx⟩
  have g1 := (hx.block _ (Array.getElem?_eq_some_iff.1 H1.out).1).trans H1.out
  have g2 := (hx.block _ (Array.getElem?_eq_some_iff.1 H2.out).1).trans H2.out
  have hb := HB.out.trans (hx.mono HB.out.size)
  have k10 : w3.cell? ⟨w.heap.size, 10, none⟩ = some (.slice av ns cs) := row_cell g1 10 _ rfl
  have j10 : w3.cell? ⟨w.heap.size + 1, 10, none⟩ = some (.slice bv ns2 es) := row_cell g2 10 _ rfl
  clear HB H1 H2
  have HB := Go.Lib.hid hb
  have H1 := Go.Lib.hid g1
  have H2 := Go.Lib.hid g2
  clear hb g1 g2
  clear hx k9 j9
  go_wp2_with fail
  refine (C3.out _ HB.out).mono ?_; rintro e w4 ⟨rfl, hx⟩
  have g1 := (hx.block _ (Array.getElem?_eq_some_iff.1 H1.out).1).trans H1.out
  have g2 := (hx.block _ (Array.getElem?_eq_some_iff.1 H2.out).1).trans H2.out
  have hb := HB.out.trans (hx.mono HB.out.size)
  have k11 : w4.cell? ⟨w.heap.size, 11, none⟩ = some (.slice ad nd cd) := row_cell g1 11 _ rfl
  have j11 : w4.cell? ⟨w.heap.size + 1, 11, none⟩ = some (.slice bd nd2 ed) := row_cell g2 11 _ rfl
  clear HB H1 H2
  have HB := Go.Lib.hid hb
  have H1 := Go.Lib.hid g1
  have H2 := Go.Lib.hid g2
  clear hb g1 g2
  clear hx k10 j10
  go_wp2_with fail
  refine (C4.out _ HB.out).mono ?_; rintro e w5 ⟨rfl, hx⟩
  have hb := HB.out.trans (hx.mono HB.out.size)
  clear HB
  have HB := Go.Lib.hid hb
  clear hb
  clear hx
  go_wp2_with fail
  go_ret
  exact ⟨rfl, HB.out⟩
set_option maxHeartbeats 8000000 in
theorem MSame_code (m : Msg) (cc : Int) (q a s d q' a' s' d' : Value) (w : World) (hc : m.code ≠ cc) :
    Calls Try.prog 21 #[MV m q a s d, MV { m with code := cc } q' a' s' d'] w fun e w' => e = .returned (.bool false) ∧ Below w.heap.size w w' := by
  have hp := fun W => plain_code m cc q a s d q' a' s' d' W hc
  clear hc
  obtain ⟨mid, mre, mop, mau, mcu, mde, mav, mco, mqs, man, msv, mad, med, msi⟩ := m
  simp only at *
  obtain ⟨h1, h2⟩ := two_boxes w (MC ⟨mid, mre, mop, mau, mcu, mde, mav, mco, mqs, man, msv, mad, med, msi⟩ q a s d) (MC ⟨mid, mre, mop, mau, mcu, mde, mav, cc, mqs, man, msv, mad, med, msi⟩ q' a' s' d') 27
  have h0 : Below w.heap.size w ((w.alloc (.cells (MC ⟨mid, mre, mop, mau, mcu, mde, mav, mco, mqs, man, msv, mad, med, msi⟩ q a s d) 27)).alloc (.cells (MC ⟨mid, mre, mop, mau, mcu, mde, mav, cc, mqs, man, msv, mad, med, msi⟩ q' a' s' d') 27)) := ((Below.refl _ w).alloc (Nat.le_refl _) _).alloc (by simp) _
  obtain ⟨X, hX⟩ : ∃ X, (w.alloc (.cells (MC ⟨mid, mre, mop, mau, mcu, mde, mav, mco, mqs, man, msv, mad, med, msi⟩ q a s d) 27)).alloc (.cells (MC ⟨mid, mre, mop, mau, mcu, mde, mav, cc, mqs, man, msv, mad, med, msi⟩ q' a' s' d') 27) = X := ⟨_, rfl⟩
  rw [hX] at h1 h2 h0
  simp only [MC] at hX
  have x0 : X.cell? ⟨w.heap.size, 0, none⟩ = some (.int .i64 mid) := row_cell h1 0 _ rfl
  have x1 : X.cell? ⟨w.heap.size, 1, none⟩ = some (.bool mre) := row_cell h1 1 _ rfl
  have x2 : X.cell? ⟨w.heap.size, 2, none⟩ = some (.int .i64 mop) := row_cell h1 2 _ rfl
  have x3 : X.cell? ⟨w.heap.size, 3, none⟩ = some (.bool mau) := row_cell h1 3 _ rfl
  have x4 : X.cell? ⟨w.heap.size, 4, none⟩ = some (.bool mcu) := row_cell h1 4 _ rfl
  have x5 : X.cell? ⟨w.heap.size, 5, none⟩ = some (.bool mde) := row_cell h1 5 _ rfl
  have x6 : X.cell? ⟨w.heap.size, 6, none⟩ = some (.bool mav) := row_cell h1 6 _ rfl
  have x7 : X.cell? ⟨w.heap.size, 7, none⟩ = some (.int .i64 mco) := row_cell h1 7 _ rfl
  have x8 : X.cell? ⟨w.heap.size, 8, none⟩ = some (q) := row_cell h1 8 _ rfl
  have x9 : X.cell? ⟨w.heap.size, 9, none⟩ = some (a) := row_cell h1 9 _ rfl
  have x10 : X.cell? ⟨w.heap.size, 10, none⟩ = some (s) := row_cell h1 10 _ rfl
  have x11 : X.cell? ⟨w.heap.size, 11, none⟩ = some (d) := row_cell h1 11 _ rfl
  have x12 : X.cell? ⟨w.heap.size, 12, none⟩ = some (.bool med) := row_cell h1 12 _ rfl
  have x13 : X.cell? ⟨w.heap.size, 13, none⟩ = some (.int .i64 msi) := row_cell h1 13 _ rfl
  have y0 : X.cell? ⟨w.heap.size + 1, 0, none⟩ = some (.int .i64 mid) := row_cell h2 0 _ rfl
  have y1 : X.cell? ⟨w.heap.size + 1, 1, none⟩ = some (.bool mre) := row_cell h2 1 _ rfl
  have y2 : X.cell? ⟨w.heap.size + 1, 2, none⟩ = some (.int .i64 mop) := row_cell h2 2 _ rfl
  have y3 : X.cell? ⟨w.heap.size + 1, 3, none⟩ = some (.bool mau) := row_cell h2 3 _ rfl
  have y4 : X.cell? ⟨w.heap.size + 1, 4, none⟩ = some (.bool mcu) := row_cell h2 4 _ rfl
  have y5 : X.cell? ⟨w.heap.size + 1, 5, none⟩ = some (.bool mde) := row_cell h2 5 _ rfl
  have y6 : X.cell? ⟨w.heap.size + 1, 6, none⟩ = some (.bool mav) := row_cell h2 6 _ rfl
  have y7 : X.cell? ⟨w.heap.size + 1, 7, none⟩ = some (.int .i64 cc) := row_cell h2 7 _ rfl
  have y8 : X.cell? ⟨w.heap.size + 1, 8, none⟩ = some (q') := row_cell h2 8 _ rfl
  have y9 : X.cell? ⟨w.heap.size + 1, 9, none⟩ = some (a') := row_cell h2 9 _ rfl
  have y10 : X.cell? ⟨w.heap.size + 1, 10, none⟩ = some (s') := row_cell h2 10 _ rfl
  have y11 : X.cell? ⟨w.heap.size + 1, 11, none⟩ = some (d') := row_cell h2 11 _ rfl
  have y12 : X.cell? ⟨w.heap.size + 1, 12, none⟩ = some (.bool med) := row_cell h2 12 _ rfl
  have y13 : X.cell? ⟨w.heap.size + 1, 13, none⟩ = some (.int .i64 msi) := row_cell h2 13 _ rfl
  have HP := Go.Lib.hid hp
  have HB := Go.Lib.hid h0
  have H1 := Go.Lib.hid h1
  have H2 := Go.Lib.hid h2
  clear hp h0 h1 h2
  go_enter Try.func21, Try.ntmps21
  go_wp2_with fail
  refine (HP.out _).mono ?_; rintro e w1 ⟨rfl, hx⟩
  have hb := HB.out.trans (hx.mono HB.out.size)
  clear HB
  have HB := Go.Lib.hid hb
  clear hb
  clear hx hX x0 y0 x1 y1 x2 y2 x3 y3 x4 y4 x5 y5 x6 y6 x7 y7 x8 y8 x9 y9 x10 y10 x11 y11 x12 y12 x13 y13
  go_wp2_with fail
  go_ret
  exact ⟨rfl, HB.out⟩
end Go.Proofs.Ythfhmbooeemaaaa

/- Message: what awake meets, plainly; one; Encode for messages without records. -/
namespace Go.Proofs.Ythfhmbooeemaaaa
open Go.RowKit Go.Shelf Go.Sq
set_option maxRecDepth 100000
set_option linter.unusedVariables false

def oneM : Msg := ⟨5, false, 0, false, false, true, false, 0, [⟨[1, 97, 0], 1, 1⟩], [], [], [], false, 0⟩
def oneB : List UInt8 := [0, 5, 1, 0, 0, 1, 0, 0, 0, 0, 0, 0, 1, 97, 0, 0, 1, 0, 1]
theorem encOne : encN oneM = (oneB, 0) := by kernel_rfl
theorem decOne : decN oneB = (oneM, true, 0) := by kernel_rfl
theorem decOne0 : ∃ h : Msg, decN (oneB ++ [0]) = (h, true, 2) ∧ h.id = 5 ∧ h.qs = [] := ⟨headM 5 256, by kernel_rfl, rfl, rfl⟩
def zM : Msg := headM 0 0
theorem decZ : decN (List.replicate 12 0) = (zM, true, 0) := by kernel_rfl
theorem chkZ : checkM zM = true := by kernel_rfl
theorem chkOne : checkM oneM = true := by kernel_rfl
theorem sameOne : eqL qSame oneM.qs oneM.qs = true := by kernel_rfl
theorem oneS : MsgS oneM := ⟨by decide, by decide, by decide, by decide, by intro x hx; simp [oneM] at hx; subst hx; decide, by intro x hx; simp [oneM, allR, baseS, secL] at hx⟩
theorem zS : MsgS zM := ⟨by decide, by decide, by decide, by decide, (by intro x hx; cases hx), (by intro x hx; simp [zM, headM, allR, baseS, secL] at hx)⟩
theorem Encode_any (m : Msg) (q a s d : Value) (w : World) (hm : MsgL w m q a s d) (hs : MsgS m) (HP : checkM m = true → ∀ x ∈ allR m, PutOk x.2) : Calls Try.prog 16 #[MV m q a s d] w (EncEnd w (encN m)) := by
  cases hc : checkM m with
  | false => exact Encode_bad m q a s d w hm hs hc
  | true => exact Encode_ok m q a s d w hm hs hc (HP hc)
set_option maxHeartbeats 2000000 in
theorem one_any (w : World) : Calls Try.prog 22 #[] w (RetM w oneM) := by
  go_enter Try.func22, Try.ntmps22
  go_wp2_with fail
  refine ret_msg (m := oneM) rfl rfl rfl (heap_old (heap_alloc_new _ _) _) ⟨_, _, _, _, rfl, ⟨?_, SlT.nil _ _ _, SlT.nil _ _ _, SlT.nil _ _ _⟩, ?_⟩
  · have := slt_new (w.alloc (.cells (MC oneM (.slice (some ⟨w.heap.size + 1, 0, none⟩) 1 1) (.slice none 0 0) (.slice none 0 0) (.slice none 0 0)) 27)) 3 1 47 (encQn oneM.qs) rfl (by decide)
    rw [World.size_alloc] at this
    exact this
  · exact ((Below.refl _ w).alloc (Nat.le_refl _) _).alloc (by simp) _
end Go.Proofs.Ythfhmbooeemaaaa

/- Message: awake, to its last line. -/
namespace Go.Proofs.Ythfhmbooeemaaaa
open Go.RowKit Go.Shelf Go.Sq
set_option maxRecDepth 100000
set_option linter.unusedVariables false

theorem msg_places {w : World} {m : Msg} {q a s d : Value} (h : MsgT w m q a s d) : ∃ aq cq aa ca as' cs ad cd, q = .slice aq m.qs.length cq ∧ a = .slice aa m.an.length ca ∧ s = .slice as' m.sv.length cs ∧ d = .slice ad m.ad.length cd := by
  obtain ⟨aq, cq, h1, _, _⟩ := h.qs.1.slice
  obtain ⟨aa, ca, h2, _, _⟩ := h.an.1.slice
  obtain ⟨as', cs, h3, _, _⟩ := h.sv.1.slice
  obtain ⟨ad, cd, h4, _, _⟩ := h.ad.1.slice
  exact ⟨aq, cq, aa, ca, as', cs, ad, cd, h1, h2, h3, h4⟩
set_option maxHeartbeats 8000000 in
theorem awake4_any (w : World) : Calls Try.prog 11 #[] w fun e w' => e = .returned (.bool true) ∧ Below w.heap.size w w' := by
  have hone := fun W => one_any W
  have HONE := Go.Lib.hid hone
  clear hone
  go_enter Try.func11, Try.ntmps11
  go_wp2_with fail
  refine (HONE.out _).mono ?_; rintro e w1 ⟨q1, a1, s1, d1, rfl, ht1, hb1⟩
  obtain ⟨aq, cq, aa, ca, av, cs, ad, cd, rfl, rfl, rfl, rfl⟩ := msg_places ht1
  have henc := Encode_any oneM _ _ _ _ w1 ht1.lies oneS (fun _ x hx => by simp [oneM, allR, baseS, secL] at hx)
  rw [encOne] at henc
  have HENC := Go.Lib.hid henc
  have HB := Go.Lib.hid hb1
  clear henc hb1
  clear ht1
  go_wp2_with fail
  refine HENC.out.mono ?_; rintro e w2 ⟨ab, cb, rfl, hby, hb2⟩
  have hb := HB.out.trans (hb2.mono HB.out.size)
  have hby2 : Byts w2 (.slice ab 19 cb) oneB := hby.1
  have hdec := Decode_any ab cb oneB w2 hby2 (by decide)
  rw [decOne] at hdec
  clear HB HENC
  have HB := Go.Lib.hid hb
  have HBY := Go.Lib.hid hby2
  have HDEC := Go.Lib.hid hdec
  clear hb hby2 hdec
  clear hb2 hby
  go_wp2_with fail
  refine HDEC.out.mono ?_; rintro e w3 ⟨q3, a3, s3, d3, rfl, ht3, hb3⟩
  obtain ⟨bq, eq, ba, ea, bv, es, bd, ed, rfl, rfl, rfl, rfl⟩ := msg_places ht3
  have hb := HB.out.trans (hb3.mono HB.out.size)
  have hby3 := HBY.out.below hb3 (Nat.le_refl _)
  clear HB HDEC HBY
  obtain ⟨X3, hX3⟩ : ∃ X3, w3.alloc (.cells (MC oneM (.slice bq oneM.qs.length eq) (.slice ba oneM.an.length ea) (.slice bv oneM.sv.length es) (.slice bd oneM.ad.length ed)) 27) = X3 := ⟨_, rfl⟩
  have g3 : X3.heap[w3.heap.size]? = some (.cells (MC oneM (.slice bq oneM.qs.length eq) (.slice ba oneM.an.length ea) (.slice bv oneM.sv.length es) (.slice bd oneM.ad.length ed)) 27 (0, 0)) := by rw [← hX3]; exact heap_alloc_new _ _
  have hbX : Below w3.heap.size w3 X3 := by rw [← hX3]; exact (Below.refl _ _).alloc (Nat.le_refl _) _
  have hb := hb.trans (hbX.mono hb.size)
  have hby3 := hby3.below hbX (Nat.le_refl _)
  have ht3 := ht3.below hbX
  have hnil := Decode_any none 0 [] X3 (SlC.nil _ _) (by decide)
  rw [show decN [] = (mZ, false, 2) from by kernel_rfl] at hnil
  have HB := Go.Lib.hid hb
  have HBY := Go.Lib.hid hby3
  have HT3 := Go.Lib.hid ht3
  have G3 := Go.Lib.hid g3
  have HNIL := Go.Lib.hid hnil
  clear hb hby3 ht3 g3 hnil
  clear hbX hb3
  simp only [MC] at hX3
  go_wp2_with fail
  refine HNIL.out.mono ?_; rintro e w4 ⟨q4, a4, s4, d4, rfl, ht4, hb4⟩
  obtain ⟨nq, eq4, na, ea4, nv, es4, nd, ed4, rfl, rfl, rfl, rfl⟩ := msg_places ht4
  obtain ⟨X4, hX4⟩ : ∃ X4, w4.alloc (.cells (MC mZ (.slice nq mZ.qs.length eq4) (.slice na mZ.an.length ea4) (.slice nv mZ.sv.length es4) (.slice nd mZ.ad.length ed4)) 27) = X4 := ⟨_, rfl⟩
  have hbX : Below w4.heap.size w4 X4 := by rw [← hX4]; exact (Below.refl _ _).alloc (Nat.le_refl _) _
  have hb4X := hb4.trans (hbX.mono hb4.size)
  have hb := HB.out.trans (hb4X.mono HB.out.size)
  have hbyx := HBY.out.below hb4X (Nat.le_refl _)
  have HBYX := Go.Lib.hid hbyx
  have hby4 := hbyx.below ((Below.refl _ X4).alloc (Nat.le_refl _) (.cells #[] 5)) (Nat.le_refl _)
  have g4 := (hb4X.block _ (Array.getElem?_eq_some_iff.1 G3.out).1).trans G3.out
  have ht3 := HT3.out.below hb4X
  clear HB HBY HT3 G3 HNIL ht4 hb4 hbX hb4X hX3 hbyx
  have HB := Go.Lib.hid hb
  have HBY := Go.Lib.hid hby4
  have HT3 := Go.Lib.hid ht3
  have G3 := Go.Lib.hid g4
  clear hb hby4 ht3 g4
  simp only [MC] at hX4
  have hu8 : (encB [0]).toArray = #[Value.int .u8 0] := rfl
  go_wp2_with (at_builtin; refine wpList_app byteEi (.tmp 32) (.tmp 33) rfl rfl X4.heap.size rfl rfl (owns_empty X4 X4.heap.size 5 1 (Nat.le_refl _)) HBY.out ?a1 ?a2 ?a3 (by simp) ?a5)
  case a1 => exact one_byts oneB
  case a2 => decide
  case a3 => decide
  case a5 =>
  intro v5 w5 hown5 hg5
  have hb5 := below_app ((Below.refl _ X4).alloc (Nat.le_refl _) (.cells #[] 5)) (owns_empty X4 X4.heap.size 5 1 (Nat.le_refl _)) hg5 (Nat.le_refl _) (by simp)
  have hown6 := hown5.alloc (.cells #[.int .u8 0] 5)
  have hb56 := hb5.alloc hb5.size (.cells #[.int .u8 0] 5)
  have hsz5 := hb5.size
  have HO6 := Go.Lib.hid hown6
  have HB56 := Go.Lib.hid hb56
  have HSZ5 := Go.Lib.hid hsz5
  clear hown6 hb56 hsz5
  clear hown5 hg5 hb5
  go_wp2_with (at_builtin; refine wpList_app byteEi (.tmp 34) (.tmp 35) rfl rfl X4.heap.size rfl rfl HO6.out (show SlC _ 1 _ 1 (encB [0]) from slc_new _ 1 1 5 (encB [0]) rfl (by decide)) ?b1 ?b2 ?b3 ?b4 ?b5)
  case b1 => exact one_byts [0]
  case b2 => decide
  case b3 => decide
  case b4 => have := HSZ5.out; simp; omega
  case b5 =>
  intro v6 w6 hown7 hg6
  have hb6 := below_app HB56.out HO6.out hg6 (Nat.le_refl _) HB56.out.size
  have hby6 : SlC w6 1 v6 20 (encB (oneB ++ [0])) := SlC.of_owns hown7
  obtain ⟨a6, c6, rfl, _, _⟩ := hby6.slice
  have hdec := Decode_any a6 c6 (oneB ++ [0]) w6 hby6 (by decide)
  obtain ⟨hM, hd0, hid, hqs⟩ := decOne0
  rw [hd0] at hdec
  have hb := HB.out.trans (hb6.mono HB.out.size)
  have hby6 := HBYX.out.below hb6 (Nat.le_refl _)
  have g6 := (hb6.block _ (Array.getElem?_eq_some_iff.1 G3.out).1).trans G3.out
  have ht6 := HT3.out.below hb6
  clear HB HBY HT3 G3 HO6 HB56 HSZ5 hb6 hown7 hg6
  have HB := Go.Lib.hid hb
  have HBY := Go.Lib.hid hby6
  have HT3 := Go.Lib.hid ht6
  have G3 := Go.Lib.hid g6
  have HDEC := Go.Lib.hid hdec
  have HD0 := Go.Lib.hid hd0
  clear hb hby6 ht6 g6 hdec hd0
  go_wp2_with fail
  refine HDEC.out.mono ?_; rintro e w7 ⟨q7, a7, s7, d7, rfl, ht7, hb7⟩
  obtain ⟨xq, xe, xa, xf, xv, xg, xd, xh, rfl, rfl, rfl, rfl⟩ := msg_places ht7
  clear ht7 HDEC
  obtain ⟨X7, hX7⟩ : ∃ X7, w7.alloc (.cells (MC hM (.slice xq hM.qs.length xe) (.slice xa hM.an.length xf) (.slice xv hM.sv.length xg) (.slice xd hM.ad.length xh)) 27) = X7 := ⟨_, rfl⟩
  have hbX7 : Below w7.heap.size w7 X7 := by rw [← hX7]; exact (Below.refl _ _).alloc (Nat.le_refl _) _
  have h9 : X7.heap[w7.heap.size]? = some (.cells (MC hM (.slice xq hM.qs.length xe) (.slice xa hM.an.length xf) (.slice xv hM.sv.length xg) (.slice xd hM.ad.length xh)) 27 (0, 0)) := by rw [← hX7]; exact heap_alloc_new _ _
  have hbM : Below X7.heap.size X7 (X7.alloc (.cells (encB (List.replicate 12 0)).toArray 5)) := (Below.refl _ _).alloc (Nat.le_refl _) _
  have hb67 := (hb7.trans (hbX7.mono hb7.size))
  have hz12 : SlC (X7.alloc (.cells (encB (List.replicate 12 0)).toArray 5)) 1 (.slice (some ⟨X7.heap.size, 0, none⟩) 12 12) 12 (encB (List.replicate 12 0)) := slc_new X7 1 12 5 (encB (List.replicate 12 0)) rfl (by decide)
  have hdecz := Decode_any (some ⟨X7.heap.size, 0, none⟩) 12 (List.replicate 12 0) _ hz12 (by decide)
  rw [decZ] at hdecz
  have hb67M := hb67.trans (hbM.mono hb67.size)
  have e3 := (hb67M.block _ (Array.getElem?_eq_some_iff.1 G3.out).1).trans G3.out
  have e9 := (hbM.block _ (Array.getElem?_eq_some_iff.1 h9).1).trans h9
  have hbq := HB.out.trans (hb67M.mono HB.out.size)
  have hby7 := HBY.out.below hb67M (Nat.le_refl _)
  have ht37 := HT3.out.below hb67M
  clear HB HBY HT3 G3 hX4 hbX7 h9 hbM hb67 hz12 hb67M hb7
  have HB := Go.Lib.hid hbq
  have HBY := Go.Lib.hid hby7
  have HT3 := Go.Lib.hid ht37
  have G3 := Go.Lib.hid e3
  have G9 := Go.Lib.hid e9
  have HDEC := Go.Lib.hid hdecz
  have HID := Go.Lib.hid hid
  have HQS := Go.Lib.hid hqs
  clear hbq hby7 ht37 e3 e9 hdecz hid hqs
  have hmk : (Instr.makeSlice 22 (.int .i64 12) (.int .i64 12)).run Try.prog X7 = .ok (.slice (some ⟨X7.heap.size, 0, none⟩) 12 12) (X7.alloc (.cells (encB (List.replicate 12 0)).toArray 5)) := by kernel_rfl
  simp only [MC] at hX7
  go_wp2_with fail
  clear hmk
  refine HDEC.out.mono ?_; rintro e w8 ⟨q8, a8, s8, d8, rfl, ht8, hb8⟩
  obtain ⟨zq, ze, za, zf, zv, zg, zd, zh, rfl, rfl, rfl, rfl⟩ := msg_places ht8
  obtain ⟨Y, hY⟩ : ∃ Y, w8.alloc (.cells (MC zM (.slice zq zM.qs.length ze) (.slice za zM.an.length zf) (.slice zv zM.sv.length zg) (.slice zd zM.ad.length zh)) 27) = Y := ⟨_, rfl⟩
  have hbY : Below w8.heap.size w8 Y := by rw [← hY]; exact (Below.refl _ _).alloc (Nat.le_refl _) _
  have gY : Y.heap[w8.heap.size]? = some (.cells (MC zM (.slice zq zM.qs.length ze) (.slice za zM.an.length zf) (.slice zv zM.sv.length zg) (.slice zd zM.ad.length zh)) 27 (0, 0)) := by rw [← hY]; exact heap_alloc_new _ _
  have hb8Y := hb8.trans (hbY.mono hb8.size)
  have g3Y := (hb8Y.block _ (Array.getElem?_eq_some_iff.1 G3.out).1).trans G3.out
  have g9 := (hb8Y.block _ (Array.getElem?_eq_some_iff.1 G9.out).1).trans G9.out
  have hbY2 := HB.out.trans (hb8Y.mono HB.out.size)
  have hbyY := HBY.out.below hb8Y (Nat.le_refl _)
  have ht3Y := HT3.out.below hb8Y
  have htZ := ht8.below hbY
  have hid := HID.out
  have hqs := HQS.out
  have l3 := (Array.getElem?_eq_some_iff.1 g3Y).1
  have lY := (Array.getElem?_eq_some_iff.1 gY).1
  have l9 := (Array.getElem?_eq_some_iff.1 g9).1
  have A0 := BelowC.cell (W := Y) (show Y.cell? ⟨w3.heap.size, 0, none⟩ = some (.int .i64 oneM.id) from row_cell g3Y 0 _ rfl) l3
  have A1 := BelowC.cell (W := Y) (show Y.cell? ⟨w3.heap.size, 1, none⟩ = some (.bool oneM.resp) from row_cell g3Y 1 _ rfl) l3
  have A2 := BelowC.cell (W := Y) (show Y.cell? ⟨w3.heap.size, 2, none⟩ = some (.int .i64 oneM.op) from row_cell g3Y 2 _ rfl) l3
  have A3 := BelowC.cell (W := Y) (show Y.cell? ⟨w3.heap.size, 3, none⟩ = some (.bool oneM.auth) from row_cell g3Y 3 _ rfl) l3
  have A4 := BelowC.cell (W := Y) (show Y.cell? ⟨w3.heap.size, 4, none⟩ = some (.bool oneM.cut) from row_cell g3Y 4 _ rfl) l3
  have A5 := BelowC.cell (W := Y) (show Y.cell? ⟨w3.heap.size, 5, none⟩ = some (.bool oneM.des) from row_cell g3Y 5 _ rfl) l3
  have A6 := BelowC.cell (W := Y) (show Y.cell? ⟨w3.heap.size, 6, none⟩ = some (.bool oneM.avail) from row_cell g3Y 6 _ rfl) l3
  have A7 := BelowC.cell (W := Y) (show Y.cell? ⟨w3.heap.size, 7, none⟩ = some (.int .i64 oneM.code) from row_cell g3Y 7 _ rfl) l3
  have A8 := BelowC.cell (W := Y) (show Y.cell? ⟨w3.heap.size, 8, none⟩ = some (.slice bq oneM.qs.length eq) from row_cell g3Y 8 _ rfl) l3
  have A9 := BelowC.cell (W := Y) (show Y.cell? ⟨w3.heap.size, 9, none⟩ = some (.slice ba oneM.an.length ea) from row_cell g3Y 9 _ rfl) l3
  have A10 := BelowC.cell (W := Y) (show Y.cell? ⟨w3.heap.size, 10, none⟩ = some (.slice bv oneM.sv.length es) from row_cell g3Y 10 _ rfl) l3
  have A11 := BelowC.cell (W := Y) (show Y.cell? ⟨w3.heap.size, 11, none⟩ = some (.slice bd oneM.ad.length ed) from row_cell g3Y 11 _ rfl) l3
  have A12 := BelowC.cell (W := Y) (show Y.cell? ⟨w3.heap.size, 12, none⟩ = some (.bool oneM.edns) from row_cell g3Y 12 _ rfl) l3
  have A13 := BelowC.cell (W := Y) (show Y.cell? ⟨w3.heap.size, 13, none⟩ = some (.int .i64 oneM.size) from row_cell g3Y 13 _ rfl) l3
  have D0 := BelowC.cell (W := Y) (show Y.cell? ⟨w8.heap.size, 0, none⟩ = some (.int .i64 zM.id) from row_cell gY 0 _ rfl) lY
  have D1 := BelowC.cell (W := Y) (show Y.cell? ⟨w8.heap.size, 1, none⟩ = some (.bool zM.resp) from row_cell gY 1 _ rfl) lY
  have D2 := BelowC.cell (W := Y) (show Y.cell? ⟨w8.heap.size, 2, none⟩ = some (.int .i64 zM.op) from row_cell gY 2 _ rfl) lY
  have D3 := BelowC.cell (W := Y) (show Y.cell? ⟨w8.heap.size, 3, none⟩ = some (.bool zM.auth) from row_cell gY 3 _ rfl) lY
  have D4 := BelowC.cell (W := Y) (show Y.cell? ⟨w8.heap.size, 4, none⟩ = some (.bool zM.cut) from row_cell gY 4 _ rfl) lY
  have D5 := BelowC.cell (W := Y) (show Y.cell? ⟨w8.heap.size, 5, none⟩ = some (.bool zM.des) from row_cell gY 5 _ rfl) lY
  have D6 := BelowC.cell (W := Y) (show Y.cell? ⟨w8.heap.size, 6, none⟩ = some (.bool zM.avail) from row_cell gY 6 _ rfl) lY
  have D7 := BelowC.cell (W := Y) (show Y.cell? ⟨w8.heap.size, 7, none⟩ = some (.int .i64 zM.code) from row_cell gY 7 _ rfl) lY
  have D8 := BelowC.cell (W := Y) (show Y.cell? ⟨w8.heap.size, 8, none⟩ = some (.slice zq zM.qs.length ze) from row_cell gY 8 _ rfl) lY
  have D9 := BelowC.cell (W := Y) (show Y.cell? ⟨w8.heap.size, 9, none⟩ = some (.slice za zM.an.length zf) from row_cell gY 9 _ rfl) lY
  have D10 := BelowC.cell (W := Y) (show Y.cell? ⟨w8.heap.size, 10, none⟩ = some (.slice zv zM.sv.length zg) from row_cell gY 10 _ rfl) lY
  have D11 := BelowC.cell (W := Y) (show Y.cell? ⟨w8.heap.size, 11, none⟩ = some (.slice zd zM.ad.length zh) from row_cell gY 11 _ rfl) lY
  have D12 := BelowC.cell (W := Y) (show Y.cell? ⟨w8.heap.size, 12, none⟩ = some (.bool zM.edns) from row_cell gY 12 _ rfl) lY
  have D13 := BelowC.cell (W := Y) (show Y.cell? ⟨w8.heap.size, 13, none⟩ = some (.int .i64 zM.size) from row_cell gY 13 _ rfl) lY
  have B0 := BelowC.cell (W := Y) (show Y.cell? ⟨w7.heap.size, 0, none⟩ = some (.int .i64 5) from (row_cell g9 0 _ rfl).trans (by show some (Value.int .i64 hM.id) = _; rw [hid])) l9
  have B8 := BelowC.cell (W := Y) (show Y.cell? ⟨w7.heap.size, 8, none⟩ = some (.slice xq 0 xe) from (row_cell g9 8 _ rfl).trans (by show some (Value.slice xq hM.qs.length xe) = _; rw [hqs]; rfl)) l9
  have hconv : ∀ wc : Subtype (Below Y.heap.size Y), (convert 22 9 (.slice ab oneB.length cb)).run Try.prog wc.1 = .ok (.string ⟨#[0, 5, 1, 0, 0, 1, 0, 0, 0, 0, 0, 0, 1, 97, 0, 0, 1, 0, 1]⟩) wc.1 := fun wc => run_conv_string (hbyY.below wc.2 (Nat.le_refl _))
  have hchk : ∀ W, Below Y.heap.size Y W → Calls Try.prog 18 #[MV zM (.slice zq zM.qs.length ze) (.slice za zM.an.length zf) (.slice zv zM.sv.length zg) (.slice zd zM.ad.length zh)] W fun e w' => e = .returned (.bool true) ∧ Below W.heap.size W w' := fun W h => by
    have := MCheck_any zM _ _ _ _ W (htZ.below h).lies zS
    rw [chkZ] at this
    exact this
  have hne : Nonempty (Subtype (Below Y.heap.size Y)) := ⟨⟨Y, Below.refl _ _⟩⟩
  have HBC := Go.Lib.hid (show Below Y.heap.size Y Y.drew from (Below.refl Y.heap.size Y).drew)
  clear HB HBY HT3 G3 G9 HDEC hb8 hb8Y hbY g3Y g9 gY l3 lY l9 hid hqs HID HQS hbyY ht8 HD0
  have HB := Go.Lib.hid hbY2
  have HT3 := Go.Lib.hid ht3Y
  have HTZ := Go.Lib.hid htZ
  have HCHK := Go.Lib.hid hchk
  clear hbY2 ht3Y htZ hchk
  simp only [MC] at hY
  go_wp2_with fail
  clear hY hX7
  refine Go.Mix.wp_region_mixC (Es := [16, 17, 51, 55, 56]) (Below Y.heap.size Y) mixed (by kernel_rfl) (Below.refl _ _).drew (fun _ => ?_)
  iterate 16 (refine Go.Mix.mix_step rfl (fun K hK => ?_); have HKK := Go.Lib.hid hK; clear hK; go_simp; refine HKK.out _ _ ?_; clear HKK K)
  refine Go.Mix.mix_eff rfl (fun K hK => ?_)
  have HKK := Go.Lib.hid hK
  clear hK
  go_simp
  refine (HONE.out _).mono ?_; rintro e wpN1 ⟨qN1, aN1, sN1, dN1, rfl, htN1, hx⟩
  obtain ⟨pqN1, peN1, paN1, pfN1, pvN1, pgN1, pdN1, phN1, rfl, rfl, rfl, rfl⟩ := msg_places htN1
  have hb := HBC.out.trans (hx.mono HBC.out.size)
  clear HBC
  have HBC := Go.Lib.hid hb
  have HT1 := Go.Lib.hid htN1
  clear hx hb htN1
  go_simp
  refine HKK.out _ _ HBC.out ?_
  clear HKK K
  refine Go.Mix.mix_eff rfl (fun K hK => ?_)
  have HKK := Go.Lib.hid hK
  clear hK
  go_simp
  refine (Message_same oneM _ _ _ _ _ _ _ _ _ (HT3.out.below HBC.out).lies HT1.out.lies).mono ?_; rintro e wb1 ⟨rfl, hx⟩
  have hb := HBC.out.trans (hx.mono HBC.out.size)
  clear HBC
  have HBC := Go.Lib.hid hb
  clear hx hb
  go_simp
  refine HKK.out _ _ HBC.out ?_
  clear HKK K
  iterate 33 (refine Go.Mix.mix_step rfl (fun K hK => ?_); have HKK := Go.Lib.hid hK; clear hK; go_simp; refine HKK.out _ _ ?_; clear HKK K)
  refine Go.Mix.mix_eff rfl (fun K hK => ?_)
  have HKK := Go.Lib.hid hK
  clear hK
  go_simp
  refine (HCHK.out _ HBC.out).mono ?_; rintro e wb2 ⟨rfl, hx⟩
  have hb := HBC.out.trans (hx.mono HBC.out.size)
  clear HBC
  have HBC := Go.Lib.hid hb
  clear hx hb
  go_simp
  refine HKK.out _ _ HBC.out ?_
  clear HKK K
  iterate 3 (refine Go.Mix.mix_step rfl (fun K hK => ?_); have HKK := Go.Lib.hid hK; clear hK; go_simp; refine HKK.out _ _ ?_; clear HKK K)
  refine Go.Mix.mix_eff rfl (fun K hK => ?_)
  have HKK := Go.Lib.hid hK
  clear hK
  go_simp
  refine (HONE.out _).mono ?_; rintro e wpN2 ⟨qN2, aN2, sN2, dN2, rfl, htN2, hx⟩
  obtain ⟨pqN2, peN2, paN2, pfN2, pvN2, pgN2, pdN2, phN2, rfl, rfl, rfl, rfl⟩ := msg_places htN2
  have hb := HBC.out.trans (hx.mono HBC.out.size)
  clear HBC
  have HBC := Go.Lib.hid hb
  have HT2 := Go.Lib.hid htN2
  clear hx hb htN2
  go_simp
  refine HKK.out _ _ HBC.out ?_
  clear HKK K
  refine Go.Mix.mix_eff rfl (fun K hK => ?_)
  have HKK := Go.Lib.hid hK
  clear hK
  go_simp
  refine (MSame_true oneM oneM _ _ _ _ _ _ _ _ _ (HT3.out.below HBC.out).lies HT2.out.lies oneS oneS rfl sameOne rfl rfl rfl).mono ?_; rintro e wb3 ⟨rfl, hx⟩
  have hb := HBC.out.trans (hx.mono HBC.out.size)
  clear HBC
  have HBC := Go.Lib.hid hb
  clear hx hb
  go_simp
  refine HKK.out _ _ HBC.out ?_
  clear HKK K
  iterate 2 (refine Go.Mix.mix_step rfl (fun K hK => ?_); have HKK := Go.Lib.hid hK; clear hK; go_simp; refine HKK.out _ _ ?_; clear HKK K)
  refine Go.Mix.mix_nil ?_
  go_wp2_with fail
  go_ret
  exact ⟨rfl, HB.out.trans (HBC.out.mono HB.out.size)⟩
end Go.Proofs.Ythfhmbooeemaaaa

/- Message: the first numbers, digit by digit. -/
namespace Go.Proofs.Ythfhmbooeemaaaa
open Go.RowKit
set_option maxRecDepth 100000
set_option linter.unusedVariables false

theorem bits_and (a b : Nat) (ha : a < 9223372036854775808) (hb : b < 9223372036854775808) : bits .and .i64 (a : Int) (b : Int) = ((a &&& b : Nat) : Int) := by
  have h4 : (BitVec.ofInt IntKind.i64.bits (a : Int) &&& BitVec.ofInt IntKind.i64.bits (b : Int)).toNat = a &&& b := by
    rw [BitVec.toNat_and, ofInt_nat _ (by omega), ofInt_nat _ (by omega)]
  simp only [bits]
  rw [h4, IntKind.wrap_i64]
  have : a &&& b ≤ a := Nat.and_le_left
  omega
theorem bits_or (a b : Nat) (ha : a < 2 ^ 62) (hb : b < 2 ^ 62) : bits .or .i64 (a : Int) (b : Int) = ((a ||| b : Nat) : Int) := by
  have h4 : (BitVec.ofInt IntKind.i64.bits (a : Int) ||| BitVec.ofInt IntKind.i64.bits (b : Int)).toNat = a ||| b := by
    rw [BitVec.toNat_or, ofInt_nat _ (by omega), ofInt_nat _ (by omega)]
  simp only [bits]
  rw [h4, IntKind.wrap_i64]
  have : a ||| b < 2 ^ 62 := Nat.or_lt_two_pow ha hb
  omega
def fl (b : Bool) (p : Nat) : Nat := if b then 2 ^ p else 0
theorem fl_eq (b : Bool) (p : Nat) : flagN b p = (fl b p : Int) := by
  unfold flagN fl
  cases b
  · rfl
  · simp
/-- the second number, put together again -/
def flags0 (f : Nat) : Nat := fl (f / 32768 == 1) 15 ||| ((f / 2048 &&& 15) * 2048) ||| fl (f / 1024 &&& 1 == 1) 10 ||| fl (f / 512 &&& 1 == 1) 9 ||| fl (f / 256 &&& 1 == 1) 8 ||| fl (f / 128 &&& 1 == 1) 7 ||| (f &&& 15)
/-- the same, as the kernel counts fast -/
def one1 (f p : Nat) : Nat := Nat.mul (Nat.land (Nat.div f p) 1) p
def flagsK (f : Nat) : Nat := Nat.lor (Nat.lor (Nat.lor (Nat.lor (Nat.lor (Nat.lor (Nat.mul (Nat.div f 32768) 32768) (Nat.mul (Nat.land (Nat.div f 2048) 15) 2048)) (one1 f 1024)) (one1 f 512)) (one1 f 256)) (one1 f 128)) (Nat.land f 15)
def chkK (f : Nat) : Bool := Nat.beq (flagsK f) (Nat.sub f (Nat.mul (Nat.mod (Nat.div f 16) 8) 16)) && Nat.beq (Nat.land f 112) (Nat.mul (Nat.mod (Nat.div f 16) 8) 16) &&
  Nat.beq (Nat.land f 32768) (Nat.mul (Nat.div f 32768) 32768) && Nat.beq (Nat.land f 1024) (one1 f 1024) && Nat.beq (Nat.land f 512) (one1 f 512) && Nat.beq (Nat.land f 256) (one1 f 256) && Nat.beq (Nat.land f 128) (one1 f 128)
noncomputable def allB (p : Nat → Bool) (n : Nat) : Bool := Nat.rec (motive := fun _ => Bool) true (fun k ih => p k && ih) n
theorem allB_lt {p : Nat → Bool} : ∀ {n : Nat}, allB p n = true → ∀ k, k < n → p k = true
  | 0, _, k, h => by omega
  | n + 1, h, k, hk => by
    have h2 : (p n && allB p n) = true := h
    rw [Bool.and_eq_true] at h2
    rcases Nat.lt_succ_iff_lt_or_eq.1 hk with h3 | h3
    · exact allB_lt h2.2 k h3
    · rw [h3]; exact h2.1
theorem chk_all : allB (fun h => allB (fun l => chkK (Nat.add (Nat.mul 256 h) l)) 256) 256 = true := by kernel_rfl
theorem chk_f (f : Nat) (h : f < 65536) : chkK f = true := by
  have h1 := allB_lt (allB_lt chk_all (f / 256) (by omega)) (f % 256) (by omega)
  have e : Nat.add (Nat.mul 256 (f / 256)) (f % 256) = f := Nat.div_add_mod f 256
  simp only [e] at h1
  exact h1
theorem chk_facts (f : Nat) (h : f < 65536) : flagsK f = f - f / 16 % 8 * 16 ∧ f &&& 112 = f / 16 % 8 * 16 ∧ f &&& 32768 = f / 32768 * 32768 ∧ f &&& 1024 = one1 f 1024 ∧ f &&& 512 = one1 f 512 ∧ f &&& 256 = one1 f 256 ∧ f &&& 128 = one1 f 128 := by
  have hk := chk_f f h
  unfold chkK at hk
  simp only [Bool.and_eq_true] at hk
  obtain ⟨⟨⟨⟨⟨⟨h1, h2⟩, h3⟩, h4⟩, h5⟩, h6⟩, h7⟩ := hk
  exact ⟨Nat.eq_of_beq_eq_true h1, Nat.eq_of_beq_eq_true h2, Nat.eq_of_beq_eq_true h3, Nat.eq_of_beq_eq_true h4, Nat.eq_of_beq_eq_true h5, Nat.eq_of_beq_eq_true h6, Nat.eq_of_beq_eq_true h7⟩
theorem one1_fl (f k : Nat) : one1 f (2 ^ k) = fl (bits .and .i64 ((f / 2 ^ k : Nat) : Int) 1 == 1) k ∨ ¬ f < 65536 := by
  by_cases h : f < 65536
  · left
    have hlt : f / 2 ^ k < 9223372036854775808 := by have := Nat.div_le_self f (2 ^ k); omega
    have e : bits .and .i64 ((f / 2 ^ k : Nat) : Int) 1 = ((f / 2 ^ k &&& 1 : Nat) : Int) := bits_and _ 1 hlt (by decide)
    rw [e]
    have e2 : one1 f (2 ^ k) = (f / 2 ^ k &&& 1) * 2 ^ k := rfl
    rw [e2, Nat.and_one_is_mod]
    rcases Nat.mod_two_eq_zero_or_one (f / 2 ^ k) with h0 | h0
    · rw [h0]; simp [fl]
    · rw [h0]; simp [fl]
  · exact .inr h
theorem bit_ne (f k : Nat) (h : f < 65536) (hk : f &&& 2 ^ k = one1 f (2 ^ k)) (h2 : 2 ^ k < 9223372036854775808) : (bits .and .i64 (f : Int) ((2 ^ k : Nat) : Int) != 0) = (bits .and .i64 ((f / 2 ^ k : Nat) : Int) 1 == 1) := by
  have hlt : f / 2 ^ k < 9223372036854775808 := by have := Nat.div_le_self f (2 ^ k); omega
  have e : bits .and .i64 ((f / 2 ^ k : Nat) : Int) 1 = ((f / 2 ^ k &&& 1 : Nat) : Int) := bits_and _ 1 hlt (by decide)
  rw [e, bits_and f (2 ^ k) (by omega) h2, hk, show one1 f (2 ^ k) = (f / 2 ^ k &&& 1) * 2 ^ k from rfl, Nat.and_one_is_mod]
  have hp : 0 < 2 ^ k := Nat.two_pow_pos k
  rcases Nat.mod_two_eq_zero_or_one (f / 2 ^ k) with h0 | h0
  · rw [h0]; simp
  · rw [h0]
    have : ((1 * 2 ^ k : Nat) : Int) ≠ 0 := by rw [Nat.one_mul]; exact_mod_cast (Nat.pos_iff_ne_zero.1 hp)
    simp only [bne_iff_ne.2 this]
    rfl
/-- what the law wants -/
def wantM (i f : Int) : Msg := ⟨i, bits .and .i64 f 32768 != 0, bits .and .i64 (f / 2048) 15, bits .and .i64 f 1024 != 0, bits .and .i64 f 512 != 0, bits .and .i64 f 256 != 0, bits .and .i64 f 128 != 0, bits .and .i64 f 15, [], [], [], [], false, 0⟩
theorem want_head (i : Int) (f : Nat) (h : f < 65536) : wantM i f = headM i f := by
  obtain ⟨_, _, h3, h4, h5, h6, h7⟩ := chk_facts f h
  unfold wantM headM
  have e1 := bit_ne f 10 h h4 (by decide)
  have e2 := bit_ne f 9 h h5 (by decide)
  have e3 := bit_ne f 8 h h6 (by decide)
  have e4 := bit_ne f 7 h h7 (by decide)
  have e0 : (bits .and .i64 (f : Int) 32768 != 0) = ((f : Int) / 32768 == 1) := by
    have : bits .and .i64 (f : Int) 32768 = ((f &&& 32768 : Nat) : Int) := bits_and f 32768 (by omega) (by decide)
    rw [this, h3]
    rcases (by omega : f / 32768 = 0 ∨ f / 32768 = 1) with h0 | h0
    · have : (f : Int) / 32768 = 0 := by omega
      rw [h0, this]; rfl
    · have : (f : Int) / 32768 = 1 := by omega
      rw [h0, this]; rfl
  have c1 : (bits .and .i64 (f : Int) 1024 != 0) = (bits .and .i64 ((f : Int) / 1024) 1 == 1) := e1
  have c2 : (bits .and .i64 (f : Int) 512 != 0) = (bits .and .i64 ((f : Int) / 512) 1 == 1) := e2
  have c3 : (bits .and .i64 (f : Int) 256 != 0) = (bits .and .i64 ((f : Int) / 256) 1 == 1) := e3
  have c4 : (bits .and .i64 (f : Int) 128 != 0) = (bits .and .i64 ((f : Int) / 128) 1 == 1) := e4
  rw [e0, c1, c2, c3, c4]
theorem flags_head (i : Int) (f : Nat) (h : f < 65536) : flagsN (headM i f) = ((f - f / 16 % 8 * 16 : Nat) : Int) := by
  have h1 := (chk_facts f h).1
  have o := fun k => (one1_fl f k).resolve_right (fun n => n h)
  have a1 : bits .and .i64 ((f : Int) / 2048) 15 = ((Nat.land (Nat.div f 2048) 15 : Nat) : Int) := bits_and (f / 2048) 15 (by omega) (by decide)
  have a2 : bits .and .i64 (f : Int) 15 = ((Nat.land f 15 : Nat) : Int) := bits_and f 15 (by omega) (by decide)
  have l1 : Nat.land (Nat.div f 2048) 15 ≤ 15 := Nat.and_le_right
  have l2 : Nat.land f 15 ≤ 15 := Nat.and_le_right
  have b0 : flagN ((f : Int) / 32768 == 1) 15 = ((Nat.mul (Nat.div f 32768) 32768 : Nat) : Int) := by
    rcases (by omega : f / 32768 = 0 ∨ f / 32768 = 1) with h0 | h0
    · have e1 : (f : Int) / 32768 = 0 := by omega
      have e2 : Nat.div f 32768 = 0 := h0
      rw [e1, e2]; rfl
    · have e1 : (f : Int) / 32768 = 1 := by omega
      have e2 : Nat.div f 32768 = 1 := h0
      rw [e1, e2]; rfl
  have b1 : flagN (bits .and .i64 ((f : Int) / 1024) 1 == 1) 10 = (one1 f 1024 : Int) := by rw [fl_eq]; exact_mod_cast (o 10).symm
  have b2 : flagN (bits .and .i64 ((f : Int) / 512) 1 == 1) 9 = (one1 f 512 : Int) := by rw [fl_eq]; exact_mod_cast (o 9).symm
  have b3 : flagN (bits .and .i64 ((f : Int) / 256) 1 == 1) 8 = (one1 f 256 : Int) := by rw [fl_eq]; exact_mod_cast (o 8).symm
  have b4 : flagN (bits .and .i64 ((f : Int) / 128) 1 == 1) 7 = (one1 f 128 : Int) := by rw [fl_eq]; exact_mod_cast (o 7).symm
  have on : ∀ p, one1 f p ≤ p := fun p => by
    have : one1 f p = (f / p &&& 1) * p := rfl
    rw [this, Nat.and_one_is_mod]
    have := Nat.mod_lt (f / p) (show 0 < 2 by decide)
    rcases Nat.mod_two_eq_zero_or_one (f / p) with h0 | h0 <;> rw [h0] <;> omega
  have p1 : Nat.mul (Nat.div f 32768) 32768 < 2 ^ 62 := by
    have e : Nat.mul (Nat.div f 32768) 32768 = f / 32768 * 32768 := rfl
    rw [e]
    omega
  have p2 : Nat.mul (Nat.land (Nat.div f 2048) 15) 2048 < 2 ^ 62 := by
    have e : Nat.mul (Nat.land (Nat.div f 2048) 15) 2048 = Nat.land (Nat.div f 2048) 15 * 2048 := rfl
    omega
  have p3 := on 1024
  have p4 := on 512
  have p5 := on 256
  have p6 := on 128
  unfold flagsN headM
  simp only []
  rw [a1, a2, b0, b1, b2, b3, b4]
  have m : ((Nat.land (Nat.div f 2048) 15 : Nat) : Int) * 2048 = ((Nat.mul (Nat.land (Nat.div f 2048) 15) 2048 : Nat) : Int) := by
    have e : Nat.mul (Nat.land (Nat.div f 2048) 15) 2048 = Nat.land (Nat.div f 2048) 15 * 2048 := rfl
    rw [e]; exact_mod_cast rfl
  rw [m]
  unfold flagsK at h1
  have q1 := Nat.or_lt_two_pow p1 p2
  have q2 := Nat.or_lt_two_pow q1 (show one1 f 1024 < 2 ^ 62 by omega)
  have q3 := Nat.or_lt_two_pow q2 (show one1 f 512 < 2 ^ 62 by omega)
  have q4 := Nat.or_lt_two_pow q3 (show one1 f 256 < 2 ^ 62 by omega)
  have q5 := Nat.or_lt_two_pow q4 (show one1 f 128 < 2 ^ 62 by omega)
  rw [bits_or _ _ p1 p2, bits_or _ _ q1 (by omega), bits_or _ _ q2 (by omega), bits_or _ _ q3 (by omega), bits_or _ _ q4 (by omega), bits_or _ _ q5 (by omega)]
  exact_mod_cast h1
end Go.Proofs.Ythfhmbooeemaaaa

/- Message: messages of nothing: read and written. -/
namespace Go.Proofs.Ythfhmbooeemaaaa
open Go.RowKit
set_option maxRecDepth 100000
set_option linter.unusedVariables false

/-- twelve bytes -/
def bsN (i f : Int) : List UInt8 := [byteOf i 256, byteOf i 1, byteOf f 256, byteOf f 1, 0, 0, 0, 0, 0, 0, 0, 0]
theorem n2_bytes (i : Nat) (h : i < 65536) (a b : UInt8) (ha : a = byteOf i 256) (hb : b = byteOf i 1) : a.toNat * 256 + b.toNat = i := by
  subst ha; subst hb
  have h1 := byteOf_nat i 256
  have h2 := byteOf_nat i 1
  omega
theorem dec_head (i f : Nat) (hi : i < 65536) (hf : f < 65536) : decN (bsN i f) = (headM i f, true, if f / 16 % 8 = 0 then 0 else 2) := by
  have e0 : n2 (bsN i f) 0 = i := n2_bytes i hi _ _ rfl rfl
  have e2 : n2 (bsN i f) 2 = f := n2_bytes f hf _ _ rfl rfl
  have e4 : n2 (bsN i f) 4 = 0 := rfl
  have e6 : n2 (bsN i f) 6 = 0 := rfl
  have e8 : n2 (bsN i f) 8 = 0 := rfl
  have e10 : n2 (bsN i f) 10 = 0 := rfl
  have hl : (bsN i f).length = 12 := rfl
  have hb : bits .and .i64 (f : Int) 112 = ((f &&& 112 : Nat) : Int) := bits_and f 112 (by omega) (by decide)
  have h2 := (chk_facts f hf).2.1
  unfold decN dcX
  rw [e0, e2, e4, e6, e8, e10, hb, h2, hl]
  unfold rdBody
  by_cases hz : f / 16 % 8 = 0
  · rw [hz]
    simp [bdM, rdQs, rdSec, optF, bdB, hl, headM]
  · have : ((f / 16 % 8 * 16 : Nat) : Int) ≠ 0 := by omega
    rw [bne_iff_ne.2 this, if_neg hz]
    rfl
theorem two2_nat (n : Nat) : two2 (n : Int) = [byteOf n 256, byteOf n 1] := rfl
theorem enc_head (i f : Nat) (hi : i < 65536) (hf : f < 65536) : checkM (headM i f) = true ∧ encN (headM i f) = (bsN i ((f - f / 16 % 8 * 16 : Nat) : Int), 0) := by
  have a1 : bits .and .i64 ((f : Int) / 2048) 15 = ((f / 2048 &&& 15 : Nat) : Int) := bits_and (f / 2048) 15 (by omega) (by decide)
  have a2 : bits .and .i64 (f : Int) 15 = ((f &&& 15 : Nat) : Int) := bits_and f 15 (by omega) (by decide)
  have l1 : f / 2048 &&& 15 ≤ 15 := Nat.and_le_right
  have l2 : f &&& 15 ≤ 15 := Nat.and_le_right
  have hc : checkM (headM i f) = true := by
    have w1 : withinN (i : Int) 65535 = true := by unfold withinN; simp; omega
    have w2 : withinN (bits .and .i64 ((f : Int) / 2048) 15) 15 = true := by rw [a1]; unfold withinN; simp; omega
    have w3 : withinN (bits .and .i64 (f : Int) 15) 15 = true := by rw [a2]; unfold withinN; simp; omega
    unfold checkM headOk
    simp only [headM]
    rw [w1, w2, w3]
    rfl
  refine ⟨hc, ?_⟩
  have hfl := flags_head i f hf
  unfold encN
  rw [hc, if_pos rfl]
  have hb : endW (headM i f) (bodyW (headM i f)).1 = bsN i ((f - f / 16 % 8 * 16 : Nat) : Int) := by
    have e1 : endW (headM i f) (bodyW (headM i f)).1 = hdrB (headM i f) := rfl
    rw [e1]
    unfold hdrB hdrV
    rw [hfl]
    have z : two2 0 = [0, 0] := by decide
    show two2 (i : Int) ++ (two2 ((f - f / 16 % 8 * 16 : Nat) : Int) ++ (two2 0 ++ (two2 0 ++ (two2 0 ++ (two2 0 ++ []))))) = _
    rw [z]
    rfl
  rw [hb]
  rfl
theorem headS (i f : Int) : MsgS (headM i f) := ⟨Nat.zero_le _, Nat.zero_le _, Nat.zero_le _, Nat.zero_le _, (fun x hx => by cases hx), (fun x hx => by simp [headM, allR, baseS, secL] at hx)⟩
/-- the fourth byte, its digits struck out -/
theorem byte143 (f : Nat) : bits .and .u8 ((byteOf f 1).toNat : Int) 143 = ((byteOf ((f - f / 16 % 8 * 16 : Nat) : Int) 1).toNat : Int) ∧ byteOf ((f - f / 16 % 8 * 16 : Nat) : Int) 256 = byteOf f 256 := by
  have hl : ∀ l : Nat, l < 256 → bits .and .u8 (l : Int) 143 = ((l - l / 16 % 8 * 16 : Nat) : Int) := by decide +kernel
  constructor
  · have h1 := byteOf_nat f 1
    have h2 := byteOf_nat ((f - f / 16 % 8 * 16 : Nat) : Int) 1
    rw [h2]
    have h3 := hl (byteOf f 1).toNat (UInt8.toNat_lt _)
    rw [h3]
    have e : (byteOf f 1).toNat = f % 256 := by omega
    rw [e]
    omega
  · unfold byteOf
    have : ((f - f / 16 % 8 * 16 : Nat) : Int) / 256 = (f : Int) / 256 := by omega
    rw [this]
end Go.Proofs.Ythfhmbooeemaaaa

/- Message: a store beside a slice. -/
namespace Go.Proofs.Ythfhmbooeemaaaa
open Go.RowKit
set_option maxRecDepth 100000
set_option linter.unusedVariables false

theorem enc_bsN (i f : Int) : encB (bsN i f) = [.int .u8 (i / 256 % 256), .int .u8 (i % 256), .int .u8 (f / 256 % 256), .int .u8 (f % 256), .int .u8 0, .int .u8 0, .int .u8 0, .int .u8 0, .int .u8 0, .int .u8 0, .int .u8 0, .int .u8 0] := by
  have h1 := two_vals i
  have h2 := two_vals f
  show encB (two2 i) ++ (encB (two2 f) ++ [.int .u8 0, .int .u8 0, .int .u8 0, .int .u8 0, .int .u8 0, .int .u8 0, .int .u8 0, .int .u8 0]) = _
  rw [← h1, ← h2]
  rfl
/-- a store into twelve cells; a slice of twelve that may lie there has it already -/
theorem slc_set12 {W : World} {v u : Value} {cs : List Value} {g k : Nat} {row : Array Value} {T : TypeId} {fr : Nat × Nat} (h : SlC W 1 v 12 cs) (hg : W.heap[g]? = some (.cells row T fr)) (hs : row.size = 12) (hv : cs[k]? = row[k]? → cs[k]? = some u) : SlC (W.setCell ⟨g, k, none⟩ u) 1 v 12 cs := by
  obtain ⟨h1, a, cap, rfl, h2, h3, h4, h5⟩ := h
  refine ⟨h1, a, cap, rfl, h2, h3, h4, ?_⟩
  rcases h5 with h5 | ⟨b, off, rfl, hlt, hc⟩
  · exact .inl h5
  · refine .inr ⟨b, off, rfl, by simpa using hlt, fun j hj => ?_⟩
    by_cases hb : b = g
    · subst hb
      have h11 := hc 11 (by omega)
      have hcell : ∀ x, W.cell? ⟨b, x, none⟩ = row[x]? := fun x => by simp [World.cell?, hg]
      have hoff : off = 0 := by
        rw [hcell] at h11
        have h12 : (cs[11]?).isSome = true := by simp; omega
        rw [← h11] at h12
        simp at h12
        omega
      subst hoff
      rw [← hc j hj, hcell]
      have hnew : (W.setCell ⟨b, k, none⟩ u).heap[b]? = some (.cells (row.setIfInBounds k u) T fr) := heap_set hg
      have hcell2 : (W.setCell ⟨b, k, none⟩ u).cell? ⟨b, 0 + j, none⟩ = (row.setIfInBounds k u)[0 + j]? := by simp [World.cell?, hnew]
      rw [hcell2, Nat.zero_add]
      by_cases hkj : k = j
      · subst hkj
        have e := hc k hj
        rw [hcell, Nat.zero_add] at e
        rw [e, hv e.symm, Array.getElem?_setIfInBounds_self_of_lt (by omega)]
      · rw [Array.getElem?_setIfInBounds_ne hkj]
    · have : (W.setCell ⟨g, k, none⟩ u).cell? ⟨b, off + j, none⟩ = W.cell? ⟨b, off + j, none⟩ := by
        simp only [World.cell?]
        rw [Below.heap_setCell _ _ _ _ hb]
      rw [this, hc j hj]
end Go.Proofs.Ythfhmbooeemaaaa

