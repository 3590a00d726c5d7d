/- Flight: the reference's table: Match; flat. -/
import Derived.Test.YtblbphnmflbepaaFlQ
namespace Go.Proofs.Ytblbphnmflbepaa
open Go.RowKit Go.Lib
set_option linter.unusedVariables false

theorem ret_rs1 {fn : Func} {p : Tmp} {a : Act} {W : World} {R : Ending → World → Prop} {s : Sn} {g : Nat} (hr : fn.results = #[.cell p 46]) (hp : a.tmps.getD p undef = .pointer (some ⟨g, 0, none⟩)) (hd : a.defers = [])
    (hg : W.heap[g]? = some (.cells (snA s) 46 (0, 0))) (h : R (.returned (snV s)) W) : bodyPost Try.prog fn R Exit.ret a W := by
  obtain ⟨fs, hu⟩ : ∃ fs, Try.prog.underlying 46 = some (.struct fs) := ⟨_, Try.underlying46⟩
  exact bodyPost_ret (results_cell_row hr _ _ g _ _ (0, 0) _ hp hg hu rfl rs_size) hd h
theorem flat_any (s : Sn) (w : World) : Calls Try.prog 12 #[snV s] w fun e w' => e = .returned (snV s) ∧ Below w.heap.size w w' := by
  have hb : Below w.heap.size w ((w.alloc (.cells (snA s) 36)).alloc (.cells (snA s) 46)) := ((Below.refl _ w).alloc (Nat.le_refl _) _).alloc (by simp) _
  have hh := heap_alloc_new (w.alloc (.cells (snA s) 36)) (.cells (snA s) 46)
  rw [World.size_alloc] at hh
  have HB := Go.Lib.hid hb
  have HH := Go.Lib.hid hh
  clear hb hh
  go_enter Try.func12, Try.ntmps12
  go_wp2_with fail
  exact ret_rs1 (s := s) rfl rfl rfl HH.out ⟨rfl, HB.out⟩
theorem find_miss {h : Sn → Bool} {l : List Sn} (hp : ∀ a, a < l.length → h (l.getD a s0) = false) : l.find? h = none := List.find?_eq_none.2 fun s hs => by
  obtain ⟨i, hi, rfl⟩ := List.getElem_of_mem hs
  have := hp i hi
  rw [List.getD_eq_getElem?_getD, List.getElem?_eq_getElem hi] at this
  simpa using this
theorem find_hit {h : Sn → Bool} {l : List Sn} {k : Nat} (hk : k < l.length) (hp : ∀ a, a < k → h (l.getD a s0) = false) (hh : h (l.getD k s0) = true) : l.find? h = some (l.getD k s0) := by
  have e : l = l.take k ++ l.drop k := (List.take_append_drop k l).symm
  have hd : l.drop k = l.getD k s0 :: l.drop (k + 1) := by
    rw [List.drop_eq_getElem_cons hk, List.getD_eq_getElem?_getD, List.getElem?_eq_getElem hk]; rfl
  have h1 : (l.take k).find? h = none := find_miss fun a ha => by
    have ha2 : a < k := by rw [List.length_take] at ha; omega
    have := hp a ha2
    rwa [List.getD_eq_getElem?_getD, List.getElem?_take, if_pos ha2, ← List.getD_eq_getElem?_getD]
  have h2 : (l.take k ++ l.drop k).find? h = some (l.getD k s0) := by
    rw [List.find?_append, h1, hd, List.find?_cons, hh]; rfl
  rwa [← e] at h2
set_option maxHeartbeats 4000000 in
set_option maxRecDepth 100000 in
theorem refMatch_any (base c : Nat) (most : Int) (l : List Sn) (addr port : Int) (m : Msg) (q a s d : Value) (w : World) (hR : IsRef base c most l w) (hn : l.length ≤ 1099511627776) (hm : MsgL w m q a s d) (hnq : ∀ x ∈ m.qs, x.name.length ≤ maxLen) (hsn : SnOk l) :
    Calls Try.prog 16 #[.pointer (some ⟨c, 0, none⟩), .int .i64 addr, .int .i64 port, MV m q a s d] w fun e w' =>
      e = .returned (.tuple #[snV (matchN addr port m l).1, .bool (matchN addr port m l).2]) ∧ Below w.heap.size w w' := by
  have mixed : Try.prog.follows .mixedOrders = true := by kernel_rfl
  obtain ⟨aq, cq, rfl, _, _⟩ := hm.qs.slice
  obtain ⟨aa, ca, rfl, _, _⟩ := hm.an.slice
  obtain ⟨asv, cs, rfl, _, _⟩ := hm.sv.slice
  obtain ⟨ad, cd, rfl, _, _⟩ := hm.ad.slice
  have hRl := hR.lt
  obtain ⟨hcb, v, hc, ho⟩ := hR
  obtain ⟨X, hX⟩ : ∃ X, (w.alloc (.cells (MC m (.slice aq m.qs.length cq) (.slice aa m.an.length ca) (.slice asv m.sv.length cs) (.slice ad m.ad.length cd)) 40)).alloc (.cells #[.int .i64 0, .int .i64 0, .int .i64 0, .string ⟨#[]⟩, .int .i64 0, .string ⟨#[]⟩, .int .i64 0, .int .i64 0, .string ⟨#[]⟩] 46) = X := ⟨_, rfl⟩
  have hwX : Below w.heap.size w X := by rw [← hX]; exact ((Below.refl _ _).alloc (Nat.le_refl _) _).alloc (by simp) _
  have hmX : X.heap[w.heap.size]? = some (.cells (MC m (.slice aq m.qs.length cq) (.slice aa m.an.length ca) (.slice asv m.sv.length cs) (.slice ad m.ad.length cd)) 40 (0, 0)) := by rw [← hX, Lib.alloc_old _ _ _ (by simp)]; exact heap_alloc_new _ _
  have hbox : X.heap[w.heap.size + 1]? = some (.cells (snA s0) 46 (0, 0)) := by
    have := heap_alloc_new (w.alloc (.cells (MC m (.slice aq m.qs.length cq) (.slice aa m.an.length ca) (.slice asv m.sv.length cs) (.slice ad m.ad.length cd)) 40)) (.cells (snA s0) 46)
    rw [World.size_alloc] at this
    rw [← hX]; exact this
  have hs := (SlC.of_owns (owns_below ho hwX))
  obtain ⟨sa, cap, rfl, hnc, hcm⟩ := hs.slice
  have hcX : X.heap[c]? = some (.cells #[.int .i64 most, .slice sa l.length cap] 30 (0, 0)) := (hwX.block c hRl).trans hc
  generalize hN : l.length = N at *
  have hmm := hm.below hwX (Nat.le_refl _)
  have HS := Go.Lib.hid hs
  have HN := Go.Lib.hid hN
  have HWX := Go.Lib.hid hwX
  have HBOX := Go.Lib.hid hbox
  have HCX := Go.Lib.hid hcX
  have HMX := Go.Lib.hid hmX
  have HMM := Go.Lib.hid hmm
  have HSOK := Go.Lib.hid hsn
  clear hs hN hwX hbox hcX hmX hmm hsn
  clear ho hc hm
  go_enter Try.func16, Try.ntmps16
  go_wp2_with fail
  clear hX
  go_loopw [10] (fun i wr => ∃ k : Nat, i = .int .i64 k ∧ k ≤ N ∧ (∀ a, a < k → hitN addr port m (l.getD a s0) = false) ∧ Below X.heap.size X wr) (fun i _ => N - (RowKit.intOf i).toNat)
  case atStart => exact ⟨0, rfl, Nat.zero_le _, fun a h => by omega, Below.refl _ _⟩
  case round =>
    obtain ⟨k, rfl, hk, hno, hbr⟩ := hrel
    have hcr : wr.heap[c]? = some (.cells #[.int .i64 most, .slice sa N cap] 30 (0, 0)) := (hbr.block c (Array.getElem?_eq_some_iff.1 HCX.out).1).trans HCX.out
    have c1 : wr.cell? ⟨c, 1, none⟩ = some (.slice sa N cap) := by simp [World.cell?, hcr]
    have HNO := Go.Lib.hid hno
    have HB := Go.Lib.hid hbr
    clear hno hbr
    clear hcr
    by_cases hlt : k < N
    · obtain ⟨g, off, rfl, hgw, hcell⟩ := Sns.at (by unfold Sns; rw [HN.out]; exact HS.out.below HB.out (Nat.le_refl _) : Sns wr (.slice sa N cap) l) (by rw [HN.out]; omega)
      have hat := hcell k (by rw [HN.out]; exact hlt)
      have hsm : l.getD k s0 ∈ l := by
        rw [List.getD_eq_getElem?_getD, List.getElem?_eq_getElem (by rw [HN.out]; exact hlt)]
        exact List.getElem_mem _
      have hxq := HSOK.out _ hsm
      have hfh : hitN addr port m (l.getD k s0) = true → matchN addr port m l = (l.getD k s0, true) := fun h => matchN_some (find_hit (by rw [HN.out]; exact hlt) HNO.out h)
      generalize hss : l.getD k s0 = s at *
      obtain ⟨e0, e1, e2, e3, e4, e5, e6, e7, e8⟩ := hat.box
      obtain ⟨Y, hY⟩ : ∃ Y, wr.alloc (.cells #[.int .i64 s.job, .int .i64 s.id, .int .i64 s.port, .string (mk s.sn), .int .i64 s.sa, .string (mk s.qn), .int .i64 s.qt, .int .i64 s.qc, .string (mk s.zone)] 46) = Y := ⟨_, rfl⟩
      have hwY : Below wr.heap.size wr Y := by rw [← hY]; exact (Below.refl _ _).alloc (Nat.le_refl _) _
      have hys : Y.heap[wr.heap.size]? = some (.cells (snA s) 46 (0, 0)) := by rw [← hY]; exact heap_alloc_new _ _
      have hXY := HB.out.trans (hwY.mono HB.out.size)
      have hlY := (Array.getElem?_eq_some_iff.1 hys).1
      obtain ⟨d0, d1, d2, d3, d4, d5, d6, d7, d8⟩ := SnBlk.of_heap hys
      have h7 := (hXY.block _ (Array.getElem?_eq_some_iff.1 HMX.out).1).trans HMX.out
      have l7 := (Array.getElem?_eq_some_iff.1 h7).1
      have y0 := BelowC.cell (W := Y) d0 hlY
      have y1 := BelowC.cell (W := Y) d1 hlY
      have y2 := BelowC.cell (W := Y) d2 hlY
      have y3 := BelowC.cell (W := Y) d3 hlY
      have y4 := BelowC.cell (W := Y) d4 hlY
      have y5 := BelowC.cell (W := Y) d5 hlY
      have y6 := BelowC.cell (W := Y) d6 hlY
      have y7 := BelowC.cell (W := Y) d7 hlY
      have y8 := BelowC.cell (W := Y) d8 hlY
      have m0 := BelowC.cell (W := Y) (show Y.cell? ⟨w.heap.size, 0, none⟩ = some (.int .i64 m.id) by simp [World.cell?, h7]) l7
      have m1 := BelowC.cell (W := Y) (show Y.cell? ⟨w.heap.size, 1, none⟩ = some (.bool m.resp) by simp [World.cell?, h7]) l7
      have m2 := BelowC.cell (W := Y) (show Y.cell? ⟨w.heap.size, 2, none⟩ = some (.int .i64 m.op) by simp [World.cell?, h7]) l7
      have m3 := BelowC.cell (W := Y) (show Y.cell? ⟨w.heap.size, 3, none⟩ = some (.bool m.auth) by simp [World.cell?, h7]) l7
      have m4 := BelowC.cell (W := Y) (show Y.cell? ⟨w.heap.size, 4, none⟩ = some (.bool m.cut) by simp [World.cell?, h7]) l7
      have m5 := BelowC.cell (W := Y) (show Y.cell? ⟨w.heap.size, 5, none⟩ = some (.bool m.des) by simp [World.cell?, h7]) l7
      have m6 := BelowC.cell (W := Y) (show Y.cell? ⟨w.heap.size, 6, none⟩ = some (.bool m.avail) by simp [World.cell?, h7]) l7
      have m7 := BelowC.cell (W := Y) (show Y.cell? ⟨w.heap.size, 7, none⟩ = some (.int .i64 m.code) by simp [World.cell?, h7]) l7
      have m8 := BelowC.cell (W := Y) (show Y.cell? ⟨w.heap.size, 8, none⟩ = some (.slice aq m.qs.length cq) by simp [World.cell?, h7]) l7
      have m9 := BelowC.cell (W := Y) (show Y.cell? ⟨w.heap.size, 9, none⟩ = some (.slice aa m.an.length ca) by simp [World.cell?, h7]) l7
      have m10 := BelowC.cell (W := Y) (show Y.cell? ⟨w.heap.size, 10, none⟩ = some (.slice asv m.sv.length cs) by simp [World.cell?, h7]) l7
      have m11 := BelowC.cell (W := Y) (show Y.cell? ⟨w.heap.size, 11, none⟩ = some (.slice ad m.ad.length cd) by simp [World.cell?, h7]) l7
      have m12 := BelowC.cell (W := Y) (show Y.cell? ⟨w.heap.size, 12, none⟩ = some (.bool m.edns) by simp [World.cell?, h7]) l7
      have m13 := BelowC.cell (W := Y) (show Y.cell? ⟨w.heap.size, 13, none⟩ = some (.int .i64 m.size) by simp [World.cell?, h7]) l7
      have hne : Nonempty (Subtype (Below Y.heap.size Y)) := ⟨⟨Y, Below.refl _ _⟩⟩
      have hm3 := HMM.out.below hXY (Nat.le_refl _)
      have HSS := Go.Lib.hid hss
      have HWY := Go.Lib.hid hwY
      have HYS := Go.Lib.hid hys
      have HXY := Go.Lib.hid hXY
      have HFH := Go.Lib.hid hfh
      have HM3 := Go.Lib.hid hm3
      clear hss hwY hys hXY hfh hm3
      clear hcell hat h7 d0 d1 d2 d3 d4 d5 d6 d7 d8 hsm
      by_cases hp : s.port = port
      · have p1 : (s.port == port) = true := beq_iff_eq.2 hp
        by_cases hsa : s.sa = addr
        · have p2 : (s.sa == addr) = true := beq_iff_eq.2 hsa
          have hask := fun w => refAsk_any s.id ⟨s.qn, s.qt, s.qc⟩ w
          have hhit : hitN addr port m s = answersN (askN (bits .and .i64 s.id 65535) ⟨s.qn, s.qt, s.qc⟩) m := by unfold hitN; rw [decide_eq_true hp, decide_eq_true hsa]; rfl
          have HASK := Go.Lib.hid hask
          have HHIT := Go.Lib.hid hhit
          have HXQ := Go.Lib.hid hxq
          clear hask hhit hxq
          clear hp hsa
          go_wp2_with fail
          clear hY
          refine Go.Mix.wp_region_mixT (Es := [16, 18]) 19 (Below Y.heap.size Y) mixed (by kernel_rfl) (Below.refl _ _).drew ?_
          iterate 16 (refine Go.Mix.mixT_step rfl (fun K hK => ?_); have HKK := Go.Lib.hid hK; clear hK; go_simp; refine HKK.out _ _ ?_; clear HKK K)
          refine Go.Mix.mixT_eff rfl (fun K hK => ?_)
          have HKK := Go.Lib.hid hK
          clear hK
          go_simp
          refine (HASK.out _).mono ?_; rintro e w3 ⟨f1, f2, f3, f4, rfl, htm, hx3⟩
          have hb3 : Below Y.heap.size Y w3 := ((Below.refl Y.heap.size Y).drew).trans hx3
          have hans := refAnswers_any (askN (bits .and .i64 s.id 65535) ⟨s.qn, s.qt, s.qc⟩) m f1 f2 f3 f4 (.slice aq m.qs.length cq) (.slice aa m.an.length ca) (.slice asv m.sv.length cs) (.slice ad m.ad.length cd) w3 htm.lies (HM3.out.below hb3 (Nat.le_refl _))
            (fun y hy => by obtain rfl := List.mem_singleton.1 hy; exact HXQ.out) hnq
          rw [← HHIT.out] at hans
          have HB3 := Go.Lib.hid hb3
          have HANS := Go.Lib.hid hans
          clear hb3 hans
          clear hx3 htm
          go_simp
          refine HKK.out _ _ HB3.out ?_
          clear HKK K
          iterate 1 (refine Go.Mix.mixT_step rfl (fun K hK => ?_); have HKK := Go.Lib.hid hK; clear hK; go_simp; refine HKK.out _ _ ?_; clear HKK K)
          refine Go.Mix.mixT_eff rfl (fun K hK => ?_)
          have HKK := Go.Lib.hid hK
          clear hK
          go_simp
          refine HANS.out.mono ?_; rintro e w4 ⟨rfl, hx4⟩
          have hb4 : Below Y.heap.size Y w4 := HB3.out.trans (hx4.mono HB3.out.size)
          have HB4 := Go.Lib.hid hb4
          clear hb4
          clear hx4
          go_simp
          refine HKK.out _ _ HB4.out ?_
          clear HKK K m0 m1 m2 m3 m4 m5 m6 m7 m8 m9 m10 m11 m12 m13
          refine Go.Mix.mixT_last rfl (fun K hK => ?_)
          have HKK := Go.Lib.hid hK
          clear hK
          go_simp
          refine HKK.out _ _ ?_
          clear HKK K y0 y1 y2 y3 y4 y5 y6 y7 y8 hne
          have hXw := HXY.out.trans (HB4.out.mono HXY.out.size)
          have HXW := Go.Lib.hid hXw
          clear hXw
          cases hh : hitN addr port m s with
          | false =>
            go_wp2_with fail
            go_roundw
            case rel =>
              refine ⟨k + 1, by go_num, by omega, fun a ha => ?_, HXW.out⟩
              rcases Nat.lt_or_ge a k with h | h
              · exact HNO.out a h
              · obtain rfl : a = k := by omega
                rw [HSS.out]; exact hh
            case measure => simp [RowKit.intOf]; omega
          | true =>
            have hr : Hid (matchN addr port m l = (s, true)) := Go.Lib.hid (HFH.out hh)
            have h8 := (HXW.out.block _ (Array.getElem?_eq_some_iff.1 HBOX.out).1).trans HBOX.out
            have hxx := (HB4.out.block _ hlY).trans HYS.out
            obtain ⟨x0, x1, x2, x3, x4, x5, x6, x7, x8⟩ := SnBlk.of_heap hxx
            obtain ⟨b0, b1, b2, b3, b4, b5, b6, b7, b8⟩ := SnBlk.of_heap h8
            have hfr : ∀ i, w4.frozen? ⟨w.heap.size + 1, i, none⟩ = false := frozen_row h8
            have H8 := Go.Lib.hid h8
            clear h8
            clear hxx hh
            go_wp2_with fail
            refine ret_rs2 (w := w4) (s := s) (s1 := s0) (g := w.heap.size + 1) (y := .bool true) rfl rfl rfl rfl H8.out ⟨by rw [hr.out], below_row (HWX.out.trans (HXW.out.mono HWX.out.size)) (by omega) _⟩
        · have p2 : (s.sa == addr) = false := beq_eq_false_iff_ne.2 hsa
          have hf : hitN addr port m s = false := by unfold hitN; rw [decide_eq_false hsa, Bool.and_false, Bool.false_and]
          have HF := Go.Lib.hid hf
          clear hf
          clear hp hsa
          go_wp2_with fail
          clear hY
          refine Go.Mix.wp_region_mixT (Es := [16, 18]) 19 (Below Y.heap.size Y) mixed (by kernel_rfl) (Below.refl _ _).drew ?_
          iterate 16 (refine Go.Mix.mixT_step rfl (fun K hK => ?_); have HKK := Go.Lib.hid hK; clear hK; go_simp; refine HKK.out _ _ ?_; clear HKK K)
          refine Go.Mix.mixT_eff rfl (fun K hK => ?_)
          have HKK := Go.Lib.hid hK
          clear hK
          go_simp
          refine HKK.out _ _ (Below.refl _ _).drew ?_
          clear HKK K
          iterate 1 (refine Go.Mix.mixT_step rfl (fun K hK => ?_); have HKK := Go.Lib.hid hK; clear hK; go_simp; refine HKK.out _ _ ?_; clear HKK K)
          refine Go.Mix.mixT_eff rfl (fun K hK => ?_)
          have HKK := Go.Lib.hid hK
          clear hK
          go_simp
          refine HKK.out _ _ (Below.refl _ _).drew ?_
          clear HKK K
          refine Go.Mix.mixT_last rfl (fun K hK => ?_)
          have HKK := Go.Lib.hid hK
          clear hK
          go_simp
          refine HKK.out _ _ ?_
          clear HKK K
          go_wp2_with fail
          go_roundw
          case rel =>
            refine ⟨k + 1, by go_num, by omega, fun a ha => ?_, HXY.out.drew⟩
            rcases Nat.lt_or_ge a k with h | h
            · exact HNO.out a h
            · obtain rfl : a = k := by omega
              rw [HSS.out]; exact HF.out
          case measure => simp [RowKit.intOf]; omega
      · have p1 : (s.port == port) = false := beq_eq_false_iff_ne.2 hp
        have hf : hitN addr port m s = false := by unfold hitN; rw [decide_eq_false hp, Bool.false_and, Bool.false_and]
        have HF := Go.Lib.hid hf
        clear hf
        clear hp
        go_wp2_with fail
        clear hY
        refine Go.Mix.wp_region_mixT (Es := [16, 18]) 19 (Below Y.heap.size Y) mixed (by kernel_rfl) (Below.refl _ _).drew ?_
        iterate 16 (refine Go.Mix.mixT_step rfl (fun K hK => ?_); have HKK := Go.Lib.hid hK; clear hK; go_simp; refine HKK.out _ _ ?_; clear HKK K)
        refine Go.Mix.mixT_eff rfl (fun K hK => ?_)
        have HKK := Go.Lib.hid hK
        clear hK
        go_simp
        refine HKK.out _ _ (Below.refl _ _).drew ?_
        clear HKK K
        iterate 1 (refine Go.Mix.mixT_step rfl (fun K hK => ?_); have HKK := Go.Lib.hid hK; clear hK; go_simp; refine HKK.out _ _ ?_; clear HKK K)
        refine Go.Mix.mixT_eff rfl (fun K hK => ?_)
        have HKK := Go.Lib.hid hK
        clear hK
        go_simp
        refine HKK.out _ _ (Below.refl _ _).drew ?_
        clear HKK K
        refine Go.Mix.mixT_last rfl (fun K hK => ?_)
        have HKK := Go.Lib.hid hK
        clear hK
        go_simp
        refine HKK.out _ _ ?_
        clear HKK K
        go_wp2_with fail
        go_roundw
        case rel =>
          refine ⟨k + 1, by go_num, by omega, fun a ha => ?_, HXY.out.drew⟩
          rcases Nat.lt_or_ge a k with h | h
          · exact HNO.out a h
          · obtain rfl : a = k := by omega
            rw [HSS.out]; exact HF.out
        case measure => simp [RowKit.intOf]; omega
    · obtain rfl : k = N := by omega
      have hr : Hid (matchN addr port m l = (s0, false)) := Go.Lib.hid (matchN_none (find_miss fun a ha => HNO.out a (by rw [← HN.out]; exact ha)))
      have h8 := (HB.out.block _ (Array.getElem?_eq_some_iff.1 HBOX.out).1).trans HBOX.out
      obtain ⟨b0, b1, b2, b3, b4, b5, b6, b7, b8⟩ := SnBlk.of_heap h8
      have hfr : ∀ i, wr.frozen? ⟨w.heap.size + 1, i, none⟩ = false := frozen_row h8
      have H8 := Go.Lib.hid h8
      clear h8
      go_wp2_with fail
      refine ret_rs2 (w := wr) (s := s0) (s1 := s0) (g := w.heap.size + 1) (y := .bool false) rfl rfl rfl rfl H8.out ⟨by rw [hr.out], below_row (HWX.out.trans (HB.out.mono HWX.out.size)) (by omega) _⟩
end Go.Proofs.Ytblbphnmflbepaa

