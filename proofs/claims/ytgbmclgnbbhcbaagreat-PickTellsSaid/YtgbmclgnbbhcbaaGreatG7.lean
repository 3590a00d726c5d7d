/- Merged texts of the seat, in their order: PzC, PzD, PzE, PzF, PzG, PzR, PzS, PzH, PzI. -/
import Derived.Test.YtgbmclgnbbhcbaaGreatG1
import Derived.Test.YtgbmclgnbbhcbaaGreatG2
import Derived.Test.YtgbmclgnbbhcbaaGreatG3
import Derived.Test.YtgbmclgnbbhcbaaGreatG4
import Derived.Test.YtgbmclgnbbhcbaaGreatG6
import Derived.BigQuiet
import Derived.Deep.QuietTactic
/- Pick, against the reference: targets. -/
namespace Go.Proofs.YtgbmclgnbbhcbaaGreat
open Go.RowKit Go.Sort Go.Lib
set_option maxRecDepth 100000
set_option linter.unusedVariables false
set_option linter.unusedSimpArgs false

abbrev enM (l : List UInt8) : Value := .string (mk l)
theorem insN_pn (L : List (List UInt8)) (h : ∀ x ∈ L, PN x) : ∀ x ∈ insAll Nm.lessN L, PN x := fun x hx => h x (((insAll_asc od_names h).2 x).1 hx)
set_option maxHeartbeats 8000000 in
theorem refTargets_any (kn : List UInt8) (kt kd : Int) (zn : List UInt8) (rs : List Rc.RR) (a : Option Addr) (cap : Nat) (w : World) (hst : RRs w (.slice a rs.length cap) rs) (hok : ∀ r ∈ rs, RROk r) (hn : rs.length ≤ 100000) :
    Calls Tryz.prog 27 #[setV kn kt (.slice a rs.length cap) kd zn] w (RetStrs w (targsN rs)) := by
  have mixed : Tryz.prog.follows .mixedOrders = true := by kernel_rfl
  obtain ⟨X, hX⟩ : ∃ X, w.alloc (.cells (setC kn kt (.slice a rs.length cap) kd zn) 26) = X := ⟨_, rfl⟩
  have gX : X.heap[w.heap.size]? = some (.cells (setC kn kt (.slice a rs.length cap) kd zn) 26 (0, 0)) := by rw [← hX]; exact World.alloc_heap_new _ _
  have hbX : Below w.heap.size w X := by rw [← hX]; exact (Below.refl _ w).alloc (Nat.le_refl _) _
  have c2 : X.cell? ⟨w.heap.size, 2, none⟩ = some (.slice a rs.length cap) := row_cell gX 2 _ rfl
  have hwX : w.heap.size < X.heap.size := (Array.getElem?_eq_some_iff.1 gX).1
  generalize hN : rs.length = N at *
  have HST := Go.Lib.hid hst
  have HOK := Go.Lib.hid hok
  have HBX := Go.Lib.hid hbX
  have HN := Go.Lib.hid hN
  clear hst hok hbX hN
  simp only [setC] at hX
  go_enter Tryz.func27, Tryz.ntmps27
  go_wp2_with fail
  go_loopw [3, 4] (fun v i wr => ∃ k : Nat, i = .int .i64 k ∧ k ≤ N ∧ wr.ownsRow X.heap.size 9 1 v (insAll Nm.lessN (targL (rs.take k))).length ((insAll Nm.lessN (targL (rs.take k))).map enM) ∧ Below X.heap.size X wr) (fun _ i _ => N - (intOf i).toNat)
  case atStart => exact ⟨0, rfl, Nat.zero_le _, World.ownsRow_nil _ _ _ _, Below.refl _ _⟩
  case round =>
    obtain ⟨k, rfl, hk, hown, hbr⟩ := hrel
    have hws := hbr.size
    have hll := targL_len (rs.take k)
    rw [List.length_take] at hll
    have hlo := insAll_len (lt := Nm.lessN) (targL (rs.take k))
    have c2r : wr.cell? ⟨w.heap.size, 2, none⟩ = some (.slice a N cap) := (hbr.cell (p := ⟨w.heap.size, 2, none⟩) hwX).trans c2
    have HB := Go.Lib.hid (HBX.out.trans (hbr.mono HBX.out.size))
    by_cases hlt : k < N
    · have hst := HST.out.below HB.out (Nat.le_refl _)
      rw [← HN.out] at hst
      obtain ⟨b, off, rfl, hbw, hcell⟩ := RRs.at hst (by rw [HN.out]; omega)
      obtain ⟨d0, d1, d2, d3, d4⟩ := hcell k (by rw [HN.out]; exact hlt)
      have hstep := targL_take (rs := rs) (k := k) (by rw [HN.out]; exact hlt)
      have hps := targL_pn (rs.take (k + 1))
      have hrok := HOK.out _ (List.getElem_mem (l := rs) (n := k) (by rw [HN.out]; exact hlt))
      have hrg : rs[k]'(by rw [HN.out]; exact hlt) = rs.getD k r0 := by rw [List.getD_eq_getElem?_getD, List.getElem?_eq_getElem (by rw [HN.out]; exact hlt)]; rfl
      rw [hrg] at hrok
      have htv := fun W => refTarget_any (rs.getD k r0) W hrok
      have hval := fun h => targP_valid (ty := (rs.getD k r0).ty) (d := (rs.getD k r0).data) h
      clear hst hcell hrg
      generalize rs.getD k r0 = r at *
      obtain ⟨rn, ty, cl, tl, rd⟩ := r
      simp only at d0 d1 d2 d3 d4 hval hstep
      simp only [rrV, targV] at htv
      have hlt2 : (k : Int) < (N : Int) := by omega
      obtain ⟨p, hp⟩ : ∃ p, targP ty rd = p := ⟨_, rfl⟩
      rw [hp] at hstep htv hval
      obtain ⟨tn, tb⟩ := p
      simp only at hstep htv hval
      generalize targL (rs.take k) = L at *
      have HTV := Go.Lib.hid htv
      have HSTEP := Go.Lib.hid hstep
      have HVAL := Go.Lib.hid hval
      have HOWN := Go.Lib.hid hown
      have HBR := Go.Lib.hid hbr
      have HPS := Go.Lib.hid hps
      clear htv hstep hval hown hbr hps
      clear hp gX
      go_wp2_with fail
      refine (HTV.out wr).mono ?_; rintro e Z ⟨rfl, hz⟩
      have hbXZ := HBR.out.trans (hz.mono HBR.out.size)
      have hownZ := owns_below HOWN.out hz
      have HBXZ := Go.Lib.hid hbXZ
      have HOZ := Go.Lib.hid hownZ
      clear hbXZ hownZ
      clear hz d0 d1 d2 d3 d4
      cases tb with
      | false =>
        have hs := HSTEP.out
        simp only [Bool.false_eq_true, if_false, List.append_nil] at hs
        have HS := Go.Lib.hid hs
        clear hs
        go_wp2_with fail
        go_roundw
        case rel => exact ⟨k + 1, by go_num, by omega, by rw [HS.out]; exact HOZ.out, HBXZ.out⟩
        case measure => simp [intOf]; omega
      | true =>
        have hs := HSTEP.out
        simp only [if_true] at hs
        have hs2 : insAll Nm.lessN (targL (rs.take (k + 1))) = insL Nm.lessN (Nm.foldN tn) (insAll Nm.lessN L) := by rw [hs, insAll_snoc]
        have hps := HPS.out
        rw [hs] at hps
        have hpo := insN_pn L fun x hx => hps x (List.mem_append_left _ hx)
        have hp1 := hps (Nm.foldN tn) (List.mem_append_right _ (List.mem_singleton.2 rfl))
        have hv := HVAL.out rfl
        have hfl : tn.length ≤ 255 := (Nm.labs_valid hv).2.2
        have hfo := refFold_any (mk tn) Z (by rw [size_mk]; unfold maxLen; omega)
        rw [bl_mk] at hfo
        generalize Nm.foldN tn = fn at *
        generalize hO : insAll Nm.lessN L = O at *
        have hpb := posL_le (lt := Nm.lessN) fn O
        generalize hRR : insL Nm.lessN fn O = R at *
        have HS2 := Go.Lib.hid hs2
        have HFO := Go.Lib.hid hfo
        have HPO := Go.Lib.hid hpo
        have HP1 := Go.Lib.hid hp1
        have HO := Go.Lib.hid hO
        have HRR := Go.Lib.hid hRR
        clear hs2 hfo hpo hp1 hO hRR
        clear hv hs hps
        go_wp2_with fail
        refine HFO.out.mono ?_; rintro e Y ⟨rfl, hz2⟩
        have hbX2 := HBXZ.out.trans (hz2.mono HBXZ.out.size)
        have hown2 := owns_below HOZ.out hz2
        obtain ⟨av, cv, rfl, _, _⟩ := (SlC.of_owns hown2).slice
        generalize hM : O.length = M at *
        have HBX2 := Go.Lib.hid hbX2
        have HO2 := Go.Lib.hid hown2
        have HM := Go.Lib.hid hM
        clear hbX2 hown2 hM
        clear hz2
        try rw [HM.out]
        go_wp2_with fail
        go_loopw [8] (fun j wq => ∃ jn : Nat, j = .int .i64 jn ∧ jn ≤ posL Nm.lessN fn O ∧ Below Y.heap.size Y wq) (fun j _ => M - (intOf j).toNat)
        case atStart => exact ⟨0, rfl, Nat.zero_le _, Below.refl _ _⟩
        case round =>
          obtain ⟨jn, rfl, hjn, hbi⟩ := hrel
          generalize wr = wq at *
          have hbF := HBX2.out.trans (hbi.mono HBX2.out.size)
          have hoF := owns_below HO2.out hbi
          have hsx := SlC.of_owns hoF
          by_cases hjl : jn < M
          · have hjl2 : (jn : Int) < (M : Int) := by omega
            rcases hoF.2 with ⟨_, hz⟩ | ⟨b2, cap', cur, hv, _⟩
            · omega
            obtain ⟨off2, hoff⟩ : ∃ o : Nat, o = 0 := ⟨0, rfl⟩
            rw [← hoff] at hv
            simp only [Value.slice.injEq] at hv
            obtain ⟨rfl, _, rfl⟩ := hv
            obtain ⟨b3, off3, e, hbb, hcell⟩ := Strs.at (show Strs wq (.slice (some ⟨b2, off2, none⟩) M cv) O by unfold Strs; rw [HM.out]; exact hsx) (by rw [HM.out]; omega)
            simp only [Option.some.injEq, Addr.mk.injEq, and_true] at e
            obtain ⟨rfl, rfl⟩ := e
            have f0 := hcell jn (by rw [HM.out]; exact hjl)
            have hyp := HPO.out (O.getD jn []) (by rw [List.getD_eq_getElem?_getD, List.getElem?_eq_getElem (by rw [HM.out]; exact hjl)]; exact List.getElem_mem _)
            have hnx := fun h => posG_next (lt := Nm.lessN) (x := fn) (d := []) (l := O) hjn (by rw [HM.out]; exact hjl) h
            have hhe := fun h => posG_here (lt := Nm.lessN) (x := fn) (d := []) (l := O) hjn h
            have hie := fun h h2 => insG_eq (lt := Nm.lessN) (x := fn) (d := []) (l := O) (j := jn) h (by rw [HM.out]; exact hjl) h2
            have hil := fun h h2 => insG_ne (lt := Nm.lessN) (x := fn) (d := []) (l := O) (j := jn) h (fun _ => h2)
            rw [HRR.out] at hie hil
            generalize O.getD jn [] = yn at *
            have hyl : yn.length ≤ maxLen := by have := pn_len hyp; unfold maxLen; omega
            have hfl2 : fn.length ≤ maxLen := by have := pn_len HP1.out; unfold maxLen; omega
            have hls := refLess_any (mk yn) (mk fn) wq (by rw [size_mk]; exact hyl) (by rw [size_mk]; exact hfl2)
            simp only [bl_mk] at hls
            clear hcell hoff hyl hfl2 hyp
            have HSX := Go.Lib.hid hsx
            have HBI := Go.Lib.hid hbi
            have HBF := Go.Lib.hid hbF
            have HOF := Go.Lib.hid hoF
            clear hsx hbi hbF hoF
            cases hless : Nm.lessN yn fn with
            | true =>
              rw [hless] at hls
              have hn1 := hnx hless
              have HLS := Go.Lib.hid hls
              have HN1 := Go.Lib.hid hn1
              clear hls hn1
              clear hnx hhe hie hil
              go_wp2_with fail
              refine HLS.out.mono ?_; rintro e W5 ⟨rfl, hx5⟩
              have hb5 := HBI.out.trans (hx5.mono HBI.out.size)
              have HB5 := Go.Lib.hid hb5
              clear hb5
              clear hx5
              go_wp2_with fail
              go_roundw
              case rel => exact ⟨jn + 1, by go_num, HN1.out, HB5.out⟩
              case measure => simp [intOf]; omega
            | false =>
              rw [hless] at hls
              have hj := hhe hless
              by_cases heq : yn = fn
              · have hr2 := hie hj heq
                have q0 : ((mk yn).toList == (mk fn).toList) = true := beq_mk_true heq
                have HLS := Go.Lib.hid hls
                have HJ := Go.Lib.hid hj
                have HR2 := Go.Lib.hid hr2
                have HEQ := Go.Lib.hid heq
                clear hls hj hr2 heq
                clear hnx hhe hie hil
                go_wp2_with fail
                refine HLS.out.mono ?_; rintro e W5 ⟨rfl, hx5⟩
                have f5 : W5.cell? ⟨b2, off2 + jn, none⟩ = some (.string (mk yn)) := (hx5.cell (p := ⟨b2, off2 + jn, none⟩) hbb).trans f0
                have hb5 := HBF.out.trans (hx5.mono HBF.out.size)
                have ho5 := owns_below HOF.out hx5
                have HB5 := Go.Lib.hid hb5
                have HO5 := Go.Lib.hid ho5
                clear hb5 ho5
                clear hx5
                go_wp2_with fail
                go_roundw
                case rel => exact ⟨k + 1, by go_num, by omega, by rw [HS2.out, HR2.out, HM.out]; exact HO5.out, HB5.out⟩
                case measure => simp [intOf]; omega
              · have hins := hil hj heq
                have q0 : ((mk yn).toList == (mk fn).toList) = false := beq_mk_false heq
                have HLS := Go.Lib.hid hls
                have HJ := Go.Lib.hid hj
                have HINS := Go.Lib.hid hins
                have HEQ := Go.Lib.hid heq
                clear hls hj hins heq
                clear hnx hhe hie hil
                go_wp2_with fail
                refine HLS.out.mono ?_; rintro e W5 ⟨rfl, hx5⟩
                have f5 : W5.cell? ⟨b2, off2 + jn, none⟩ = some (.string (mk yn)) := (hx5.cell (p := ⟨b2, off2 + jn, none⟩) hbb).trans f0
                have hb5 := HBF.out.trans (hx5.mono HBF.out.size)
                have hs5 := HSX.out.below hx5 (Nat.le_refl _)
                have HB5 := Go.Lib.hid hb5
                have HS5 := Go.Lib.hid hs5
                clear hb5 hs5
                clear hx5
                go_wp2_with fail
                obtain ⟨Fl, hFl⟩ : ∃ Fl, Fl = (O.take jn ++ [fn] ++ O.drop jn).map enM := ⟨_, rfl⟩
                have hjM : jn ≤ M := by omega
                have hlenO := HM.out
                have hif : InsF 1 jn M ((O.take jn).map enM) ((O.drop jn).map enM) Fl [.string (mk fn)] := ⟨hjM, by rw [List.length_map, List.length_take]; omega, rfl, by rw [List.length_map, List.length_drop]; omega, by rw [hFl]; simp⟩
                obtain ⟨A2, hA, hA2⟩ : ∃ A2 : Option Addr, (if cv = jn then (some ⟨b2, off2, none⟩) else (some ⟨b2, off2 + jn, none⟩ : Option Addr)) = A2 ∧ SlC W5 1 (.slice A2 (M - jn) (cv - jn)) (M - jn) ((O.drop jn).map enM) := ⟨_, rfl, sl1_from HS5.out hjM⟩
                have hs1 : SlC W5 1 (.slice (some ⟨b2, off2, none⟩) jn cv) jn ((O.take jn).map enM) := sl1_to HS5.out hjM
                have hb6 : jn ≤ cv := by have := HS5.out; obtain ⟨_, _, _, e, h1, _⟩ := this; simp only [Value.slice.injEq] at e; omega
                have hb3 : (jn : Int) ≤ (M : Int) := by omega
                have hone1 : ∀ u ∈ (O.take jn).map enM, u.oneCell' = true := fun u hu => by
                  obtain ⟨y, _, rfl⟩ := List.mem_map.1 hu
                  rfl
                have hone2 : ∀ u ∈ (O.drop jn).map enM, u.oneCell' = true := fun u hu => by
                  obtain ⟨y, _, rfl⟩ := List.mem_map.1 hu
                  rfl
                have hone3 : ∀ u ∈ ([.string (mk fn)] : List Value), u.oneCell' = true := fun u hu => by rw [List.mem_singleton] at hu; subst hu; rfl
                obtain ⟨Y, hY⟩ : ∃ Y, Y = W5 := ⟨_, rfl⟩
                have hXY : Below W5.heap.size W5 Y.drew := by rw [hY]; exact (Below.refl W5.heap.size W5).drew
                have hneG : Nonempty (Subtype (GA 9 1 W5.heap.size Fl [.string (mk fn)] Y.drew)) := ⟨⟨Y.drew, GA.refl _ _ _ _⟩⟩
                have hin : ∀ W, GA 9 1 W5.heap.size Fl [.string (mk fn)] Y.drew W → W5.heap.size ≤ W.heap.size ∧ Below W5.heap.size W5 W := fun W h => by
                  have h1 := h.bl.size
                  have h2 := hXY.size
                  exact ⟨by omega, hXY.trans h.bl⟩
                try rw [← hY]
                have HFL := Go.Lib.hid hFl
                have HLENO := Go.Lib.hid hlenO
                have HIF := Go.Lib.hid hif
                have HA2 := Go.Lib.hid hA2
                have HS1 := Go.Lib.hid hs1
                have HO1 := Go.Lib.hid hone1
                have HO2 := Go.Lib.hid hone2
                have HO3 := Go.Lib.hid hone3
                have HXY := Go.Lib.hid hXY
                have HIN2 := Go.Lib.hid hin
                clear hFl hlenO hif hA2 hs1 hone1 hone2 hone3 hXY hin
                clear hY
                refine Go.Mix.wp_region_mixD [0, 4, 6, 7, 11] 12 (GA 9 1 W5.heap.size Fl [.string (mk fn)]) (FAdd 9 1 (0, 4, 6, 7, 11) W5.heap.size jn M Fl [.string (mk fn)]) SAdd [(4, 0, 55), (7, 4, 59), (7, 6, 61), (11, 7, 62)] mixed (by kernel_rfl) (fun i e q hm => ?hz1) GA.trans (GA.refl _ _ _) (fun i v w w' h hg => h.stable HIF.out.hk HIF.out.len hg) SAdd.inh ?_
                case hz1 =>
                  simp only [List.mem_cons, Prod.mk.injEq, List.not_mem_nil, or_false] at hm
                  rcases hm with ⟨_, _, rfl⟩ | ⟨_, _, rfl⟩ | ⟨_, _, rfl⟩ | ⟨_, _, rfl⟩ <;> exact of_decide_eq_true rfl
                refine Go.Mix.mixD_eff rfl rfl (fun w7 hw7 hn7 => ?_) (fun v1 hv1 => ?_)
                · clear hn7
                  obtain ⟨i1, i2⟩ := HIN2.out w7 hw7
                  go_simp
                  have hnew := World.alloc_heap_new w7 (.cells #[] 9)
                  refine ⟨GA.of_below ((Below.refl _ _).alloc (Nat.le_refl _) _) i1, ⟨_, _, _, rfl⟩, ⟨fun _ => ⟨⟨by simp, .inr ⟨w7.heap.size, 0, #[], rfl, i1, hnew, Nat.le_refl _, Nat.zero_le _, rfl, by simp⟩⟩, fun _ => ⟨_, rfl⟩⟩, fun h => absurd h (by decide), fun h => absurd h (by decide), fun h => absurd h (by decide), fun h => absurd h (by decide)⟩⟩
                obtain ⟨a1, n1, c1', rfl⟩ := hv1
                iterate 3 (refine Go.Mix.mixD_step rfl (fun K hK => ?_); have HKK := Go.Lib.hid hK; clear hK; go_simp; refine HKK.out _ ?_; clear HKK K)
                refine Go.Mix.mixD_eff rfl rfl (fun w7 hw7 hn7 => ?_) (fun v8 hv8 => ?_)
                · have f1 : FOwn 9 1 W5.heap.size Fl 0 (.slice a1 n1 c1') w7 := (hn7 0 55 (by simp)).f0 rfl
                  obtain ⟨i1, i2⟩ := HIN2.out w7 hw7
                  obtain ⟨v', w', hr, g1, g2, a', c', rfl⟩ := app_effect eiS (sC := [.string (mk fn)]) f1 i1 (HS1.out.below i2 (Nat.le_refl _)) HO1.out HIF.out.q1 (HIF.out.le _ (by omega)) (by unfold maxLen; omega) (by omega) 29
                  simp only [Nat.zero_add] at hr g2
                  exact effR_run (.tmp 55) (.tmp 58) rfl rfl rfl hr ⟨g1, ⟨_, _, _, rfl⟩, ⟨fun h => absurd h (by decide), fun _ => g2, fun h => absurd h (by decide), fun h => absurd h (by decide), fun h => absurd h (by decide)⟩⟩
                obtain ⟨a8, n8, c8, rfl⟩ := hv8
                iterate 1 (refine Go.Mix.mixD_step rfl (fun K hK => ?_); have HKK := Go.Lib.hid hK; clear hK; go_simp; refine HKK.out _ ?_; clear HKK K)
                refine Go.Mix.mixD_eff rfl rfl (fun w7 hw7 hn7 => ?_) (fun v10 hv10 => ?_)
                · clear hn7
                  obtain ⟨i1, i2⟩ := HIN2.out w7 hw7
                  go_simp
                  have hnew := World.alloc_heap_new w7 (.cells #[.string (mk fn)] 9)
                  refine ⟨GA.of_below ((Below.refl _ _).alloc (Nat.le_refl _) _) i1, ⟨_, _, _, rfl⟩, ⟨fun h => absurd h (by decide), fun h => absurd h (by decide), fun _ => ⟨w7.heap.size, rfl, i1, _, hnew, rfl, rfl⟩, fun h => absurd h (by decide), fun h => absurd h (by decide)⟩⟩
                obtain ⟨a10, n10, c10, rfl⟩ := hv10
                refine Go.Mix.mixD_eff rfl rfl (fun w7 hw7 hn7 => ?_) (fun v11 hv11 => ?_)
                · have f8 : FOwn 9 1 W5.heap.size Fl jn (.slice a8 n8 c8) w7 := (hn7 4 59 (by simp)).f1 rfl
                  have f10 : FNew 9 1 W5.heap.size [.string (mk fn)] (.slice a10 n10 c10) w7 := (hn7 6 61 (by simp)).f2 rfl
                  obtain ⟨i1, i2⟩ := HIN2.out w7 hw7
                  obtain ⟨v', w', hr, g1, g2, a', c', rfl⟩ := app_effect eiS (sC := [.string (mk fn)]) f8 i1 (f10.slc rfl) HO3.out HIF.out.q2 (HIF.out.le _ (by omega)) (by unfold maxLen; omega) (by omega) 29
                  exact effR_run (.tmp 59) (.tmp 61) rfl rfl rfl hr ⟨g1, ⟨_, _, _, rfl⟩, ⟨fun h => absurd h (by decide), fun h => absurd h (by decide), fun h => absurd h (by decide), fun _ => g2, fun h => absurd h (by decide)⟩⟩
                obtain ⟨a11, n11, c11, rfl⟩ := hv11
                iterate 3 (refine Go.Mix.mixD_step rfl (fun K hK => ?_); have HKK := Go.Lib.hid hK; clear hK; go_simp; refine HKK.out _ ?_; clear HKK K)
                refine Go.Mix.mixD_eff rfl rfl (fun w7 hw7 hn7 => ?_) (fun v18 hv18 => ?_)
                · have f11 : FOwn 9 1 W5.heap.size Fl (jn + 1) (.slice a11 n11 c11) w7 := (hn7 7 62 (by simp)).f3 rfl
                  obtain ⟨i1, i2⟩ := HIN2.out w7 hw7
                  obtain ⟨v', w', hr, g1, g2, a', c', rfl⟩ := app_effect eiS (sC := [.string (mk fn)]) f11 i1 (HA2.out.below i2 (Nat.le_refl _)) HO2.out HIF.out.q3 (HIF.out.le _ (by omega)) (by unfold maxLen; omega) (by omega) 29
                  exact effR_run (.tmp 62) (.tmp 65) rfl rfl rfl hr ⟨g1, ⟨_, _, _, rfl⟩, ⟨fun h => absurd h (by decide), fun h => absurd h (by decide), fun h => absurd h (by decide), fun h => absurd h (by decide), fun _ => g2⟩⟩
                obtain ⟨a18, n18, c18, rfl⟩ := hv18
                refine Go.Mix.mixD_last rfl (fun w9 hg9 hP K hK => ?_)
                have f18 : FOwn 9 1 W5.heap.size Fl (jn + 1 + (M - jn)) (.slice a18 n18 c18) w9 := hP.2.f4 rfl
                clear hP
                obtain ⟨i1, i2⟩ := HIN2.out w9 hg9
                have hres : w9.ownsRow W5.heap.size 9 1 (.slice a18 n18 c18) (R).length ((R).map enM) := by
                  have e : (O.take jn ++ [fn] ++ O.drop jn).length = M + 1 := by have := HLENO.out; rw [List.length_append, List.length_append, List.length_take, List.length_drop]; simp only [List.length_cons, List.length_nil]; omega
                  have h := f18.1
                  rw [show jn + 1 + (M - jn) = M + 1 by omega, List.take_of_length_le (by rw [HIF.out.len]; exact Nat.le_refl _)] at h
                  rw [HINS.out, ← HFL.out, e]
                  exact h
                have HKK := Go.Lib.hid hK
                have HB9 := Go.Lib.hid i2
                have HRES := Go.Lib.hid hres
                clear hK i2 hres
                clear f18 hg9 hneG i1
                rw [if_pos (show Region.wanted _ _ = true from rfl)]
                go_simp
                refine HKK.out _ _ ?_
                clear HKK K
                have hb9 := HB5.out.trans (HB9.out.mono HB5.out.size)
                have ho9 := owns_base HRES.out HB5.out.size
                have HB10 := Go.Lib.hid hb9
                have HO9 := Go.Lib.hid ho9
                clear hb9 ho9
                go_wp2_with fail
                go_roundw
                case rel => exact ⟨k + 1, by go_num, by omega, by rw [HS2.out]; exact HO9.out, HB10.out⟩
                case measure => simp [intOf]; omega
          · have hjl2 : ¬ (jn : Int) < (M : Int) := by omega
            have hj := posG_end (lt := Nm.lessN) (x := fn) (l := O) hjn (by rw [HM.out]; exact hjl)
            have hins := insG_ne (lt := Nm.lessN) (x := fn) (d := []) (l := O) hj (fun h => absurd h (by rw [HM.out]; exact hjl))
            rw [HRR.out] at hins
            have HJ := Go.Lib.hid hj
            have HINS := Go.Lib.hid hins
            have HBI := Go.Lib.hid hbi
            have HBF := Go.Lib.hid hbF
            clear hj hins hbi hbF
            rcases hoF.2 with ⟨hv, hn0⟩ | ⟨b2, cap', cur, hv, _⟩
            · simp only [Value.slice.injEq] at hv
              obtain ⟨rfl, rfl, rfl⟩ := hv
              obtain rfl : jn = 0 := by omega
              have HSX := Go.Lib.hid hsx
              have HOF := Go.Lib.hid hoF
              clear hsx hoF
              go_wp2_with fail
              obtain ⟨Fl, hFl⟩ : ∃ Fl, Fl = (O.take 0 ++ [fn] ++ O.drop 0).map enM := ⟨_, rfl⟩
              have hjM : 0 ≤ 0 := by omega
              have hlenO := HM.out
              have hif : InsF 1 0 0 ((O.take 0).map enM) ((O.drop 0).map enM) Fl [.string (mk fn)] := ⟨hjM, by rw [List.length_map, List.length_take]; omega, rfl, by rw [List.length_map, List.length_drop]; omega, by rw [hFl]; simp⟩
              have hO0 : O = [] := List.eq_nil_of_length_eq_zero HM.out
              have hA2 : SlC wq 1 (.slice none 0 0) (0 - 0) ((O.drop 0).map enM) := by rw [hO0]; exact SlC.nil _ _
              have hs1 : SlC wq 1 (.slice none 0 0) 0 ((O.take 0).map enM) := by rw [hO0]; exact SlC.nil _ _
              clear hO0
              have hb6 : 0 ≤ 0 := by omega
              have hb3 : (0 : Int) ≤ (0 : Int) := by omega
              have hone1 : ∀ u ∈ (O.take 0).map enM, u.oneCell' = true := fun u hu => by
                obtain ⟨y, _, rfl⟩ := List.mem_map.1 hu
                rfl
              have hone2 : ∀ u ∈ (O.drop 0).map enM, u.oneCell' = true := fun u hu => by
                obtain ⟨y, _, rfl⟩ := List.mem_map.1 hu
                rfl
              have hone3 : ∀ u ∈ ([.string (mk fn)] : List Value), u.oneCell' = true := fun u hu => by rw [List.mem_singleton] at hu; subst hu; rfl
              obtain ⟨Y, hY⟩ : ∃ Y, Y = wq := ⟨_, rfl⟩
              have hXY : Below wq.heap.size wq Y.drew := by rw [hY]; exact (Below.refl wq.heap.size wq).drew
              have hneG : Nonempty (Subtype (GA 9 1 wq.heap.size Fl [.string (mk fn)] Y.drew)) := ⟨⟨Y.drew, GA.refl _ _ _ _⟩⟩
              have hin : ∀ W, GA 9 1 wq.heap.size Fl [.string (mk fn)] Y.drew W → wq.heap.size ≤ W.heap.size ∧ Below wq.heap.size wq W := fun W h => by
                have h1 := h.bl.size
                have h2 := hXY.size
                exact ⟨by omega, hXY.trans h.bl⟩
              try rw [← hY]
              have HFL := Go.Lib.hid hFl
              have HLENO := Go.Lib.hid hlenO
              have HIF := Go.Lib.hid hif
              have HA2 := Go.Lib.hid hA2
              have HS1 := Go.Lib.hid hs1
              have HO1 := Go.Lib.hid hone1
              have HO2 := Go.Lib.hid hone2
              have HO3 := Go.Lib.hid hone3
              have HXY := Go.Lib.hid hXY
              have HIN2 := Go.Lib.hid hin
              clear hFl hlenO hif hA2 hs1 hone1 hone2 hone3 hXY hin
              clear hY
              refine Go.Mix.wp_region_mixD [0, 4, 6, 7, 11] 12 (GA 9 1 wq.heap.size Fl [.string (mk fn)]) (FAdd 9 1 (0, 4, 6, 7, 11) wq.heap.size 0 0 Fl [.string (mk fn)]) SAdd [(4, 0, 55), (7, 4, 59), (7, 6, 61), (11, 7, 62)] mixed (by kernel_rfl) (fun i e q hm => ?hz2) GA.trans (GA.refl _ _ _) (fun i v w w' h hg => h.stable HIF.out.hk HIF.out.len hg) SAdd.inh ?_
              case hz2 =>
                simp only [List.mem_cons, Prod.mk.injEq, List.not_mem_nil, or_false] at hm
                rcases hm with ⟨_, _, rfl⟩ | ⟨_, _, rfl⟩ | ⟨_, _, rfl⟩ | ⟨_, _, rfl⟩ <;> exact of_decide_eq_true rfl
              refine Go.Mix.mixD_eff rfl rfl (fun w7 hw7 hn7 => ?_) (fun v1 hv1 => ?_)
              · clear hn7
                obtain ⟨i1, i2⟩ := HIN2.out w7 hw7
                go_simp
                have hnew := World.alloc_heap_new w7 (.cells #[] 9)
                refine ⟨GA.of_below ((Below.refl _ _).alloc (Nat.le_refl _) _) i1, ⟨_, _, _, rfl⟩, ⟨fun _ => ⟨⟨by simp, .inr ⟨w7.heap.size, 0, #[], rfl, i1, hnew, Nat.le_refl _, Nat.zero_le _, rfl, by simp⟩⟩, fun _ => ⟨_, rfl⟩⟩, fun h => absurd h (by decide), fun h => absurd h (by decide), fun h => absurd h (by decide), fun h => absurd h (by decide)⟩⟩
              obtain ⟨a1, n1, c1', rfl⟩ := hv1
              iterate 3 (refine Go.Mix.mixD_step rfl (fun K hK => ?_); have HKK := Go.Lib.hid hK; clear hK; go_simp; refine HKK.out _ ?_; clear HKK K)
              refine Go.Mix.mixD_eff rfl rfl (fun w7 hw7 hn7 => ?_) (fun v8 hv8 => ?_)
              · have f1 : FOwn 9 1 wq.heap.size Fl 0 (.slice a1 n1 c1') w7 := (hn7 0 55 (by simp)).f0 rfl
                obtain ⟨i1, i2⟩ := HIN2.out w7 hw7
                obtain ⟨v', w', hr, g1, g2, a', c', rfl⟩ := app_effect eiS (sC := [.string (mk fn)]) f1 i1 (HS1.out.below i2 (Nat.le_refl _)) HO1.out HIF.out.q1 (HIF.out.le _ (by omega)) (by unfold maxLen; omega) (by omega) 29
                simp only [Nat.zero_add] at hr g2
                exact effR_run (.tmp 55) (.tmp 58) rfl rfl rfl hr ⟨g1, ⟨_, _, _, rfl⟩, ⟨fun h => absurd h (by decide), fun _ => g2, fun h => absurd h (by decide), fun h => absurd h (by decide), fun h => absurd h (by decide)⟩⟩
              obtain ⟨a8, n8, c8, rfl⟩ := hv8
              iterate 1 (refine Go.Mix.mixD_step rfl (fun K hK => ?_); have HKK := Go.Lib.hid hK; clear hK; go_simp; refine HKK.out _ ?_; clear HKK K)
              refine Go.Mix.mixD_eff rfl rfl (fun w7 hw7 hn7 => ?_) (fun v10 hv10 => ?_)
              · clear hn7
                obtain ⟨i1, i2⟩ := HIN2.out w7 hw7
                go_simp
                have hnew := World.alloc_heap_new w7 (.cells #[.string (mk fn)] 9)
                refine ⟨GA.of_below ((Below.refl _ _).alloc (Nat.le_refl _) _) i1, ⟨_, _, _, rfl⟩, ⟨fun h => absurd h (by decide), fun h => absurd h (by decide), fun _ => ⟨w7.heap.size, rfl, i1, _, hnew, rfl, rfl⟩, fun h => absurd h (by decide), fun h => absurd h (by decide)⟩⟩
              obtain ⟨a10, n10, c10, rfl⟩ := hv10
              refine Go.Mix.mixD_eff rfl rfl (fun w7 hw7 hn7 => ?_) (fun v11 hv11 => ?_)
              · have f8 : FOwn 9 1 wq.heap.size Fl 0 (.slice a8 n8 c8) w7 := (hn7 4 59 (by simp)).f1 rfl
                have f10 : FNew 9 1 wq.heap.size [.string (mk fn)] (.slice a10 n10 c10) w7 := (hn7 6 61 (by simp)).f2 rfl
                obtain ⟨i1, i2⟩ := HIN2.out w7 hw7
                obtain ⟨v', w', hr, g1, g2, a', c', rfl⟩ := app_effect eiS (sC := [.string (mk fn)]) f8 i1 (f10.slc rfl) HO3.out HIF.out.q2 (HIF.out.le _ (by omega)) (by unfold maxLen; omega) (by omega) 29
                exact effR_run (.tmp 59) (.tmp 61) rfl rfl rfl hr ⟨g1, ⟨_, _, _, rfl⟩, ⟨fun h => absurd h (by decide), fun h => absurd h (by decide), fun h => absurd h (by decide), fun _ => g2, fun h => absurd h (by decide)⟩⟩
              obtain ⟨a11, n11, c11, rfl⟩ := hv11
              iterate 3 (refine Go.Mix.mixD_step rfl (fun K hK => ?_); have HKK := Go.Lib.hid hK; clear hK; go_simp; refine HKK.out _ ?_; clear HKK K)
              refine Go.Mix.mixD_eff rfl rfl (fun w7 hw7 hn7 => ?_) (fun v18 hv18 => ?_)
              · have f11 : FOwn 9 1 wq.heap.size Fl (0 + 1) (.slice a11 n11 c11) w7 := (hn7 7 62 (by simp)).f3 rfl
                obtain ⟨i1, i2⟩ := HIN2.out w7 hw7
                obtain ⟨v', w', hr, g1, g2, a', c', rfl⟩ := app_effect eiS (sC := [.string (mk fn)]) f11 i1 (HA2.out.below i2 (Nat.le_refl _)) HO2.out HIF.out.q3 (HIF.out.le _ (by omega)) (by unfold maxLen; omega) (by omega) 29
                exact effR_run (.tmp 62) (.tmp 65) rfl rfl rfl hr ⟨g1, ⟨_, _, _, rfl⟩, ⟨fun h => absurd h (by decide), fun h => absurd h (by decide), fun h => absurd h (by decide), fun h => absurd h (by decide), fun _ => g2⟩⟩
              obtain ⟨a18, n18, c18, rfl⟩ := hv18
              refine Go.Mix.mixD_last rfl (fun w9 hg9 hP K hK => ?_)
              have f18 : FOwn 9 1 wq.heap.size Fl (0 + 1 + (0 - 0)) (.slice a18 n18 c18) w9 := hP.2.f4 rfl
              clear hP
              obtain ⟨i1, i2⟩ := HIN2.out w9 hg9
              have hres : w9.ownsRow wq.heap.size 9 1 (.slice a18 n18 c18) (R).length ((R).map enM) := by
                have e : (O.take 0 ++ [fn] ++ O.drop 0).length = 0 + 1 := by have := HLENO.out; rw [List.length_append, List.length_append, List.length_take, List.length_drop]; simp only [List.length_cons, List.length_nil]; omega
                have h := f18.1
                rw [show 0 + 1 + (0 - 0) = 0 + 1 by omega, List.take_of_length_le (by rw [HIF.out.len]; exact Nat.le_refl _)] at h
                rw [HINS.out, ← HFL.out, e]
                exact h
              have HKK := Go.Lib.hid hK
              have HB9 := Go.Lib.hid i2
              have HRES := Go.Lib.hid hres
              clear hK i2 hres
              clear f18 hg9 hneG i1
              rw [if_pos (show Region.wanted _ _ = true from rfl)]
              go_simp
              refine HKK.out _ _ ?_
              clear HKK K
              have hb9 := HBF.out.trans (HB9.out.mono HBF.out.size)
              have ho9 := owns_base HRES.out HBF.out.size
              have HB10 := Go.Lib.hid hb9
              have HO9 := Go.Lib.hid ho9
              clear hb9 ho9
              go_wp2_with fail
              go_roundw
              case rel => exact ⟨k + 1, by go_num, by omega, by rw [HS2.out]; exact HO9.out, HB10.out⟩
              case measure => simp [intOf]; omega
            · obtain ⟨off2, hoff⟩ : ∃ o : Nat, o = 0 := ⟨0, rfl⟩
              rw [← hoff] at hv
              simp only [Value.slice.injEq] at hv
              obtain ⟨rfl, _, rfl⟩ := hv
              have HSX := Go.Lib.hid hsx
              have HOF := Go.Lib.hid hoF
              clear hsx hoF
              clear hoff
              go_wp2_with fail
              obtain ⟨Fl, hFl⟩ : ∃ Fl, Fl = (O.take jn ++ [fn] ++ O.drop jn).map enM := ⟨_, rfl⟩
              have hjM : jn ≤ M := by omega
              have hlenO := HM.out
              have hif : InsF 1 jn M ((O.take jn).map enM) ((O.drop jn).map enM) Fl [.string (mk fn)] := ⟨hjM, by rw [List.length_map, List.length_take]; omega, rfl, by rw [List.length_map, List.length_drop]; omega, by rw [hFl]; simp⟩
              obtain ⟨A2, hA, hA2⟩ : ∃ A2 : Option Addr, (if cv = jn then (some ⟨b2, off2, none⟩) else (some ⟨b2, off2 + jn, none⟩ : Option Addr)) = A2 ∧ SlC wq 1 (.slice A2 (M - jn) (cv - jn)) (M - jn) ((O.drop jn).map enM) := ⟨_, rfl, sl1_from HSX.out hjM⟩
              have hs1 : SlC wq 1 (.slice (some ⟨b2, off2, none⟩) jn cv) jn ((O.take jn).map enM) := sl1_to HSX.out hjM
              have hb6 : jn ≤ cv := by have := HSX.out; obtain ⟨_, _, _, e, h1, _⟩ := this; simp only [Value.slice.injEq] at e; omega
              have hb3 : (jn : Int) ≤ (M : Int) := by omega
              have hone1 : ∀ u ∈ (O.take jn).map enM, u.oneCell' = true := fun u hu => by
                obtain ⟨y, _, rfl⟩ := List.mem_map.1 hu
                rfl
              have hone2 : ∀ u ∈ (O.drop jn).map enM, u.oneCell' = true := fun u hu => by
                obtain ⟨y, _, rfl⟩ := List.mem_map.1 hu
                rfl
              have hone3 : ∀ u ∈ ([.string (mk fn)] : List Value), u.oneCell' = true := fun u hu => by rw [List.mem_singleton] at hu; subst hu; rfl
              obtain ⟨Y, hY⟩ : ∃ Y, Y = wq := ⟨_, rfl⟩
              have hXY : Below wq.heap.size wq Y.drew := by rw [hY]; exact (Below.refl wq.heap.size wq).drew
              have hneG : Nonempty (Subtype (GA 9 1 wq.heap.size Fl [.string (mk fn)] Y.drew)) := ⟨⟨Y.drew, GA.refl _ _ _ _⟩⟩
              have hin : ∀ W, GA 9 1 wq.heap.size Fl [.string (mk fn)] Y.drew W → wq.heap.size ≤ W.heap.size ∧ Below wq.heap.size wq W := fun W h => by
                have h1 := h.bl.size
                have h2 := hXY.size
                exact ⟨by omega, hXY.trans h.bl⟩
              try rw [← hY]
              have HFL := Go.Lib.hid hFl
              have HLENO := Go.Lib.hid hlenO
              have HIF := Go.Lib.hid hif
              have HA2 := Go.Lib.hid hA2
              have HS1 := Go.Lib.hid hs1
              have HO1 := Go.Lib.hid hone1
              have HO2 := Go.Lib.hid hone2
              have HO3 := Go.Lib.hid hone3
              have HXY := Go.Lib.hid hXY
              have HIN2 := Go.Lib.hid hin
              clear hFl hlenO hif hA2 hs1 hone1 hone2 hone3 hXY hin
              clear hY
              refine Go.Mix.wp_region_mixD [0, 4, 6, 7, 11] 12 (GA 9 1 wq.heap.size Fl [.string (mk fn)]) (FAdd 9 1 (0, 4, 6, 7, 11) wq.heap.size jn M Fl [.string (mk fn)]) SAdd [(4, 0, 55), (7, 4, 59), (7, 6, 61), (11, 7, 62)] mixed (by kernel_rfl) (fun i e q hm => ?hz3) GA.trans (GA.refl _ _ _) (fun i v w w' h hg => h.stable HIF.out.hk HIF.out.len hg) SAdd.inh ?_
              case hz3 =>
                simp only [List.mem_cons, Prod.mk.injEq, List.not_mem_nil, or_false] at hm
                rcases hm with ⟨_, _, rfl⟩ | ⟨_, _, rfl⟩ | ⟨_, _, rfl⟩ | ⟨_, _, rfl⟩ <;> exact of_decide_eq_true rfl
              refine Go.Mix.mixD_eff rfl rfl (fun w7 hw7 hn7 => ?_) (fun v1 hv1 => ?_)
              · clear hn7
                obtain ⟨i1, i2⟩ := HIN2.out w7 hw7
                go_simp
                have hnew := World.alloc_heap_new w7 (.cells #[] 9)
                refine ⟨GA.of_below ((Below.refl _ _).alloc (Nat.le_refl _) _) i1, ⟨_, _, _, rfl⟩, ⟨fun _ => ⟨⟨by simp, .inr ⟨w7.heap.size, 0, #[], rfl, i1, hnew, Nat.le_refl _, Nat.zero_le _, rfl, by simp⟩⟩, fun _ => ⟨_, rfl⟩⟩, fun h => absurd h (by decide), fun h => absurd h (by decide), fun h => absurd h (by decide), fun h => absurd h (by decide)⟩⟩
              obtain ⟨a1, n1, c1', rfl⟩ := hv1
              iterate 3 (refine Go.Mix.mixD_step rfl (fun K hK => ?_); have HKK := Go.Lib.hid hK; clear hK; go_simp; refine HKK.out _ ?_; clear HKK K)
              refine Go.Mix.mixD_eff rfl rfl (fun w7 hw7 hn7 => ?_) (fun v8 hv8 => ?_)
              · have f1 : FOwn 9 1 wq.heap.size Fl 0 (.slice a1 n1 c1') w7 := (hn7 0 55 (by simp)).f0 rfl
                obtain ⟨i1, i2⟩ := HIN2.out w7 hw7
                obtain ⟨v', w', hr, g1, g2, a', c', rfl⟩ := app_effect eiS (sC := [.string (mk fn)]) f1 i1 (HS1.out.below i2 (Nat.le_refl _)) HO1.out HIF.out.q1 (HIF.out.le _ (by omega)) (by unfold maxLen; omega) (by omega) 29
                simp only [Nat.zero_add] at hr g2
                exact effR_run (.tmp 55) (.tmp 58) rfl rfl rfl hr ⟨g1, ⟨_, _, _, rfl⟩, ⟨fun h => absurd h (by decide), fun _ => g2, fun h => absurd h (by decide), fun h => absurd h (by decide), fun h => absurd h (by decide)⟩⟩
              obtain ⟨a8, n8, c8, rfl⟩ := hv8
              iterate 1 (refine Go.Mix.mixD_step rfl (fun K hK => ?_); have HKK := Go.Lib.hid hK; clear hK; go_simp; refine HKK.out _ ?_; clear HKK K)
              refine Go.Mix.mixD_eff rfl rfl (fun w7 hw7 hn7 => ?_) (fun v10 hv10 => ?_)
              · clear hn7
                obtain ⟨i1, i2⟩ := HIN2.out w7 hw7
                go_simp
                have hnew := World.alloc_heap_new w7 (.cells #[.string (mk fn)] 9)
                refine ⟨GA.of_below ((Below.refl _ _).alloc (Nat.le_refl _) _) i1, ⟨_, _, _, rfl⟩, ⟨fun h => absurd h (by decide), fun h => absurd h (by decide), fun _ => ⟨w7.heap.size, rfl, i1, _, hnew, rfl, rfl⟩, fun h => absurd h (by decide), fun h => absurd h (by decide)⟩⟩
              obtain ⟨a10, n10, c10, rfl⟩ := hv10
              refine Go.Mix.mixD_eff rfl rfl (fun w7 hw7 hn7 => ?_) (fun v11 hv11 => ?_)
              · have f8 : FOwn 9 1 wq.heap.size Fl jn (.slice a8 n8 c8) w7 := (hn7 4 59 (by simp)).f1 rfl
                have f10 : FNew 9 1 wq.heap.size [.string (mk fn)] (.slice a10 n10 c10) w7 := (hn7 6 61 (by simp)).f2 rfl
                obtain ⟨i1, i2⟩ := HIN2.out w7 hw7
                obtain ⟨v', w', hr, g1, g2, a', c', rfl⟩ := app_effect eiS (sC := [.string (mk fn)]) f8 i1 (f10.slc rfl) HO3.out HIF.out.q2 (HIF.out.le _ (by omega)) (by unfold maxLen; omega) (by omega) 29
                exact effR_run (.tmp 59) (.tmp 61) rfl rfl rfl hr ⟨g1, ⟨_, _, _, rfl⟩, ⟨fun h => absurd h (by decide), fun h => absurd h (by decide), fun h => absurd h (by decide), fun _ => g2, fun h => absurd h (by decide)⟩⟩
              obtain ⟨a11, n11, c11, rfl⟩ := hv11
              iterate 3 (refine Go.Mix.mixD_step rfl (fun K hK => ?_); have HKK := Go.Lib.hid hK; clear hK; go_simp; refine HKK.out _ ?_; clear HKK K)
              refine Go.Mix.mixD_eff rfl rfl (fun w7 hw7 hn7 => ?_) (fun v18 hv18 => ?_)
              · have f11 : FOwn 9 1 wq.heap.size Fl (jn + 1) (.slice a11 n11 c11) w7 := (hn7 7 62 (by simp)).f3 rfl
                obtain ⟨i1, i2⟩ := HIN2.out w7 hw7
                obtain ⟨v', w', hr, g1, g2, a', c', rfl⟩ := app_effect eiS (sC := [.string (mk fn)]) f11 i1 (HA2.out.below i2 (Nat.le_refl _)) HO2.out HIF.out.q3 (HIF.out.le _ (by omega)) (by unfold maxLen; omega) (by omega) 29
                exact effR_run (.tmp 62) (.tmp 65) rfl rfl rfl hr ⟨g1, ⟨_, _, _, rfl⟩, ⟨fun h => absurd h (by decide), fun h => absurd h (by decide), fun h => absurd h (by decide), fun h => absurd h (by decide), fun _ => g2⟩⟩
              obtain ⟨a18, n18, c18, rfl⟩ := hv18
              refine Go.Mix.mixD_last rfl (fun w9 hg9 hP K hK => ?_)
              have f18 : FOwn 9 1 wq.heap.size Fl (jn + 1 + (M - jn)) (.slice a18 n18 c18) w9 := hP.2.f4 rfl
              clear hP
              obtain ⟨i1, i2⟩ := HIN2.out w9 hg9
              have hres : w9.ownsRow wq.heap.size 9 1 (.slice a18 n18 c18) (R).length ((R).map enM) := by
                have e : (O.take jn ++ [fn] ++ O.drop jn).length = M + 1 := by have := HLENO.out; rw [List.length_append, List.length_append, List.length_take, List.length_drop]; simp only [List.length_cons, List.length_nil]; omega
                have h := f18.1
                rw [show jn + 1 + (M - jn) = M + 1 by omega, List.take_of_length_le (by rw [HIF.out.len]; exact Nat.le_refl _)] at h
                rw [HINS.out, ← HFL.out, e]
                exact h
              have HKK := Go.Lib.hid hK
              have HB9 := Go.Lib.hid i2
              have HRES := Go.Lib.hid hres
              clear hK i2 hres
              clear f18 hg9 hneG i1
              rw [if_pos (show Region.wanted _ _ = true from rfl)]
              go_simp
              refine HKK.out _ _ ?_
              clear HKK K
              have hb9 := HBF.out.trans (HB9.out.mono HBF.out.size)
              have ho9 := owns_base HRES.out HBF.out.size
              have HB10 := Go.Lib.hid hb9
              have HO9 := Go.Lib.hid ho9
              clear hb9 ho9
              go_wp2_with fail
              go_roundw
              case rel => exact ⟨k + 1, by go_num, by omega, by rw [HS2.out]; exact HO9.out, HB10.out⟩
              case measure => simp [intOf]; omega
    · obtain hke : k = N := by omega
      have hall : rs.take k = rs := by rw [hke, ← HN.out, List.take_length]
      rw [hall] at hown
      have hlt2 : ¬ (k : Int) < (N : Int) := by omega
      have HOWN := Go.Lib.hid hown
      have HBR := Go.Lib.hid hbr
      clear hown hbr
      clear hall hke hll hlo
      go_wp2_with fail
      go_ret
      refine ⟨_, rfl, ?_, HB.out⟩
      unfold Strs
      exact SlC.of_owns HOWN.out
end Go.Proofs.YtgbmclgnbbhcbaaGreat

/- Pick, against the reference: what a list tells of a name (Of). -/
namespace Go.Proofs.YtgbmclgnbbhcbaaGreat
open Go.RowKit Go.Sort Go.Lib
set_option maxRecDepth 100000
set_option linter.unusedVariables false
set_option linter.unusedSimpArgs false

set_option maxHeartbeats 8000000 in
theorem refOf_any (l : List Kn) (n : List UInt8) (a : Option Addr) (c : Nat) (w : World) (hl : Kns w (.slice a l.length c) l) (hlen : l.length ≤ 100) (hz : ∀ k ∈ l, k.zs.length ≤ 100 ∧ k.nm.length ≤ maxLen) (hn : n.length ≤ maxLen) :
    Calls Tryz.prog 8 #[.slice a l.length c, .string (mk n)] w (RetInts w (ofN l n)) := by
  have hfin : ofN l n = toldN (flatK l n) := rfl
  have hst := fun k (h : k < l.length) => flatK_step (l := l) (j := k) h n
  have hfl := fun k => flatK_len (l := l.take k) (B := 100) (fun x hx => (hz x (List.mem_of_mem_take hx)).1) n
  have HB := Go.Lib.hid (Below.refl w.heap.size w)
  generalize ofN l n = R at *
  generalize hN : l.length = N at *
  have HL := Go.Lib.hid hl
  have HZ := Go.Lib.hid hz
  have HFIN := Go.Lib.hid hfin
  have HST := Go.Lib.hid hst
  have HFL := Go.Lib.hid hfl
  have HN := Go.Lib.hid hN
  clear hl hz hfin hst hfl hN
  go_enter Tryz.func8, Tryz.ntmps8
  go_wp2_with fail
  go_loopw [5, 6] (fun v i wr => ∃ k : Nat, i = .int .i64 k ∧ k ≤ N ∧ wr.ownsRow w.heap.size 3 1 v (toldN (flatK (l.take k) n)).length ((toldN (flatK (l.take k) n)).map (Value.int .i64)) ∧ Below w.heap.size w wr) (fun _ i _ => N - (intOf i).toNat)
  case atStart => exact ⟨0, rfl, Nat.zero_le _, World.ownsRow_nil _ _ _ _, HB.out⟩
  case round =>
    clear HB
    obtain ⟨k, rfl, hk, hown, hb⟩ := hrel
    generalize wr = wo at *
    have hlr := HL.out.below hb
    by_cases hlt : k < N
    · have hlt2 : (k : Int) < (N : Int) := by omega
      obtain ⟨b, off, rfl, hbb, hcell⟩ := Kns.at hlr (by rw [HN.out]; omega)
      obtain ⟨d0, d1, d2⟩ := hcell k (by rw [HN.out]; exact hlt)
      have hst := HST.out k hlt
      have hzk := HZ.out (l.getD k k0) (by rw [List.getD_eq_getElem?_getD, List.getElem?_eq_getElem (by rw [HN.out]; exact hlt)]; exact List.getElem_mem _)
      have hfk := HFL.out k
      rw [List.length_take, HN.out, Nat.min_eq_left hk] at hfk
      clear hcell
      generalize l.getD k k0 = x at *
      obtain ⟨nm, xa, xc, zs⟩ := x
      simp only at d0 d1 hst hzk
      unfold KnAt at d2
      simp only at d2
      obtain ⟨hz1, hz2⟩ := hzk
      have hsm := refSame_any (mk nm) (mk n) wo (by rw [size_mk]; exact hz2) (by rw [size_mk]; exact hn)
      simp only [bl_mk] at hsm
      generalize flatK (l.take k) n = F at *
      generalize Nm.sameN nm n = sm at *
      cases sm with
      | false =>
        simp only [Bool.false_eq_true, if_false, List.append_nil] at hst
        have HSTK := Go.Lib.hid hst
        have HSM := Go.Lib.hid hsm
        have HOWN := Go.Lib.hid hown
        have HBQ := Go.Lib.hid hb
        have HLR := Go.Lib.hid hlr
        clear hst hsm hown hb hlr
        clear d2
        go_wp2_with fail
        refine HSM.out.mono ?_; rintro e W1 ⟨rfl, hb1⟩
        have ho1 := owns_below HOWN.out hb1
        have hb2 := HBQ.out.trans (hb1.mono HBQ.out.size)
        have HO1 := Go.Lib.hid ho1
        have HB2 := Go.Lib.hid hb2
        clear ho1 hb2
        clear hb1
        go_wp2_with fail
        go_roundw
        case rel => exact ⟨k + 1, by go_num, by omega, by rw [HSTK.out]; exact HO1.out, HB2.out⟩
        case measure => simp [intOf]; omega
      | true =>
        simp only [if_true] at hst
        have HSTK := Go.Lib.hid hst
        have HSM := Go.Lib.hid hsm
        have HOWN := Go.Lib.hid hown
        have HBQ := Go.Lib.hid hb
        have HLR := Go.Lib.hid hlr
        clear hst hsm hown hb hlr
        go_wp2_with fail
        refine HSM.out.mono ?_; rintro e W1 ⟨rfl, hb1⟩
        have ho1 := owns_below HOWN.out hb1
        have hb2 := HBQ.out.trans (hb1.mono HBQ.out.size)
        have e0 : W1.cell? ⟨b, off + k * 2, none⟩ = some (.string (mk nm)) := (hb1.cell (p := ⟨b, off + k * 2, none⟩) hbb).trans d0
        have e1 : W1.cell? ⟨b, off + k * 2 + 1, none⟩ = some (.slice xa zs.length xc) := (hb1.cell (p := ⟨b, off + k * 2 + 1, none⟩) hbb).trans d1
        have hi1 : Ints W1 (.slice xa zs.length xc) zs := d2.below hb1 (Nat.le_refl _)
        have hbW : b < W1.heap.size := Nat.lt_of_lt_of_le hbb hb1.size
        obtain ⟨Z, hZ⟩ : ∃ Z, zs.length = Z := ⟨_, rfl⟩
        rw [hZ] at e1 hi1 hz1
        have HO1 := Go.Lib.hid ho1
        have HB2 := Go.Lib.hid hb2
        have HI1 := Go.Lib.hid hi1
        have HZZ := Go.Lib.hid hZ
        clear ho1 hb2 hi1 hZ
        clear hb1 d0 d1 d2 e0
        go_wp2_with fail
        go_loopw [5, 7] (fun v j wq => ∃ m : Nat, j = .int .i64 m ∧ m ≤ Z ∧ wq.ownsRow w.heap.size 3 1 v (toldN (F ++ zs.take m)).length ((toldN (F ++ zs.take m)).map (Value.int .i64)) ∧ Below W1.heap.size W1 wq) (fun _ j _ => Z - (intOf j).toNat)
        case atStart => exact ⟨0, rfl, Nat.zero_le _, by rw [List.take_zero, List.append_nil]; exact HO1.out, Below.refl _ _⟩
        case round =>
          obtain ⟨m, rfl, hm, hownm, hbm⟩ := hrel
          generalize wr = wq at *
          have e1q : wq.cell? ⟨b, off + k * 2 + 1, none⟩ = some (.slice xa Z xc) := (hbm.cell (p := ⟨b, off + k * 2 + 1, none⟩) hbW).trans e1
          by_cases hmz : m < Z
          · have hmz2 : (m : Int) < (Z : Int) := by omega
            obtain ⟨g, o, rfl, hg, hcz⟩ := Ints.at (HI1.out.below hbm (Nat.le_refl _)) (by rw [HZZ.out]; omega)
            have f0 := hcz m (by rw [HZZ.out]; exact hmz)
            have htk : F ++ zs.take (m + 1) = (F ++ zs.take m) ++ [zs.getD m 0] := by
              rw [List.take_succ_eq_append_getElem (by rw [HZZ.out]; exact hmz), List.append_assoc, List.getD_eq_getElem?_getD, List.getElem?_eq_getElem (by rw [HZZ.out]; exact hmz)]
              rfl
            have hlen1 : (toldN (F ++ zs.take m)).length ≤ 100000 := by
              have h1 := told_len (F ++ zs.take m)
              rw [List.length_append, List.length_take] at h1
              omega
            have hri := fun v h => rise_any (toldN (F ++ zs.take m)) (zs.getD m 0) v w.heap.size wq h (HB2.out.trans (hbm.mono HB2.out.size)).size hlen1
            rw [← told_snoc, ← htk] at hri
            have hri2 := hri _ hownm
            generalize zs.getD m 0 = y at *
            have HRI := Go.Lib.hid hri2
            have HBM := Go.Lib.hid hbm
            have HTK := Go.Lib.hid htk
            clear hri2 hbm htk
            clear hcz hri hownm
            go_wp2_with fail
            refine HRI.out.mono ?_; rintro e W3 ⟨v3, rfl, ho3, hb3⟩
            have hbm3 := HBM.out.trans (hb3.mono HBM.out.size)
            have HO3 := Go.Lib.hid ho3
            have HBM3 := Go.Lib.hid hbm3
            clear ho3 hbm3
            clear hb3
            go_wp2_with fail
            go_roundw
            case rel => exact ⟨m + 1, by go_num, by omega, HO3.out, HBM3.out⟩
            case measure => simp [intOf]; omega
          · obtain rfl : m = Z := by omega
            have htk : zs.take m = zs := List.take_of_length_le (by rw [HZZ.out]; exact Nat.le_refl _)
            rw [htk] at hownm
            have hbz := HB2.out.trans (hbm.mono HB2.out.size)
            have HOM := Go.Lib.hid hownm
            have HBZ := Go.Lib.hid hbz
            have HBM := Go.Lib.hid hbm
            clear hownm hbz hbm
            clear htk
            go_wp2_with fail
            go_roundw
            case rel => exact ⟨k + 1, by go_num, by omega, by rw [HSTK.out]; exact HOM.out, HBZ.out⟩
            case measure => simp [intOf]; omega
    · obtain rfl : k = N := by omega
      have hall : l.take k = l := List.take_of_length_le (by rw [HN.out]; exact Nat.le_refl _)
      rw [hall] at hown
      have HOWN := Go.Lib.hid hown
      have HBQ := Go.Lib.hid hb
      clear hown hb
      clear hall hlr
      go_wp2_with fail
      go_ret
      exact ⟨_, rfl, by rw [HFIN.out]; exact HOWN.out, HBQ.out⟩
end Go.Proofs.YtgbmclgnbbhcbaaGreat

/- Pick, against the reference: servers. -/
namespace Go.Proofs.YtgbmclgnbbhcbaaGreat
open Go.RowKit Go.Sort Go.Lib
set_option maxRecDepth 100000
set_option linter.unusedVariables false
set_option linter.unusedSimpArgs false

set_option maxHeartbeats 8000000 in
theorem refServers_any (kn : List UInt8) (kt kd : Int) (zn : List UInt8) (rs : List Rc.RR) (a : Option Addr) (cap : Nat) (l : List Kn) (al : Option Addr) (cl : Nat) (w : World) (hst : RRs w (.slice a rs.length cap) rs) (hok : ∀ r ∈ rs, RROk r) (hn : rs.length ≤ 1000)
    (hl : Kns w (.slice al l.length cl) l) (hlen : l.length ≤ 30) (hz : ∀ k ∈ l, k.zs.length ≤ 20 ∧ k.nm.length ≤ maxLen) :
    Calls Tryz.prog 13 #[setV kn kt (.slice a rs.length cap) kd zn, .slice al l.length cl] w (RetSvs w (servN (ofN l) rs)) := by
  have mixed : Tryz.prog.follows .mixedOrders = true := by kernel_rfl
  obtain ⟨X, hX⟩ : ∃ X, w.alloc (.cells (setC kn kt (.slice a rs.length cap) kd zn) 26) = X := ⟨_, rfl⟩
  have gX : X.heap[w.heap.size]? = some (.cells (setC kn kt (.slice a rs.length cap) kd zn) 26 (0, 0)) := by rw [← hX]; exact World.alloc_heap_new _ _
  have hbX : Below w.heap.size w X := by rw [← hX]; exact (Below.refl _ w).alloc (Nat.le_refl _) _
  have ht := refTargets_any kn kt kd zn rs a cap X (hst.below hbX (Nat.le_refl _)) hok (by omega)
  have hTl : (targsN rs).length ≤ 1000 := by
    have h1 := targL_len rs
    have h2 : (insAll Nm.lessN (targL rs)).length ≤ (targL rs).length := insAll_len _
    have h3 : targsN rs = insAll Nm.lessN (targL rs) := rfl
    rw [h3]
    omega
  have hall := servK_all (ofN l) rs
  have hTp := targsN_pn rs
  have hofl : ∀ n, (ofN l n).length ≤ 600 := fun n => by
    have h1 := flatK_len (l := l) (B := 20) (fun k hk => (hz k hk).1) n
    have h2 := told_len (flatK l n)
    have h3 : l.length * 20 ≤ 600 := by omega
    exact Nat.le_trans h2 (Nat.le_trans h1 h3)
  have hoft : ∀ n, toldN (ofN l n) = ofN l n := fun n => told_idem (flatK l n)
  have hof := fun n W h1 h2 => refOf_any l n al cl W h1 (by omega) (fun k hk => ⟨by have := (hz k hk).1; omega, (hz k hk).2⟩) h2
  generalize targsN rs = T at *
  have k0 : X.cell? ⟨w.heap.size, 0, none⟩ = some (.string (mk kn)) := row_cell gX 0 _ rfl
  have k1 : X.cell? ⟨w.heap.size, 1, none⟩ = some (.int .i64 kt) := row_cell gX 1 _ rfl
  have k2 : X.cell? ⟨w.heap.size, 2, none⟩ = some (.slice a rs.length cap) := row_cell gX 2 _ rfl
  have k3 : X.cell? ⟨w.heap.size, 3, none⟩ = some (.int .i64 kd) := row_cell gX 3 _ rfl
  have k4 : X.cell? ⟨w.heap.size, 4, none⟩ = some (.string (mk zn)) := row_cell gX 4 _ rfl
  have hsl := fun k hk => servK_len (f := ofN l) (T := T) (fun n hm => by have := hofl n; have := hoft n; rw [this]; omega) k hk
  simp only [setV, setC] at ht
  have HST := Go.Lib.hid hst
  have HBX := Go.Lib.hid hbX
  have HT := Go.Lib.hid ht
  have HALL := Go.Lib.hid hall
  have GX := Go.Lib.hid gX
  have HSL := Go.Lib.hid hsl
  have HOFL := Go.Lib.hid hofl
  have HOFT := Go.Lib.hid hoft
  have HOF := Go.Lib.hid hof
  have HTP := Go.Lib.hid hTp
  have HLK := Go.Lib.hid hl
  have HZ := Go.Lib.hid hz
  clear hst hbX ht hall gX hsl hofl hoft hof hTp hl hz
  simp only [setC] at hX
  generalize rs.length = N at *
  generalize hLN : l.length = LN at *
  go_enter Tryz.func13, Tryz.ntmps13
  go_wp2_with fail
  refine HT.out.mono ?_; rintro e W1 ⟨v1, rfl, hs1, hb1⟩
  obtain ⟨a1, c1, rfl, _, _⟩ := SlC.slice hs1
  have hbw1 := HBX.out.trans (hb1.mono HBX.out.size)
  generalize hTn : T.length = M at *
  have HS1 := Go.Lib.hid hs1
  have HBW1 := Go.Lib.hid hbw1
  have HTN := Go.Lib.hid hTn
  have HLN := Go.Lib.hid hLN
  clear hs1 hbw1 hTn hLN
  clear hb1 hX k0 k1 k2 k3 k4
  go_wp2_with fail
  go_loopw [5, 7] (fun v i wr => ∃ k : Nat, i = .int .i64 k ∧ k ≤ M ∧ wr.ownsRow W1.heap.size 40 2 v (servK (ofN l) T k).length (encV (servK (ofN l) T k)) ∧ Below W1.heap.size W1 wr) (fun _ i _ => M - (intOf i).toNat)
  case atStart => exact ⟨0, rfl, Nat.zero_le _, World.ownsRow_nil _ _ _ _, Below.refl _ _⟩
  case round =>
    obtain ⟨k, rfl, hk, hown, hbr⟩ := hrel
    have hws := hbr.size
    have hlk := HSL.out k hk
    have hbw := HBW1.out.trans (hbr.mono HBW1.out.size)
    by_cases hlt : k < M
    · obtain ⟨b, off, rfl, hbb, hcell⟩ := Strs.at HS1.out (by rw [HTN.out]; omega)
      have d0 := hcell k (by rw [HTN.out]; exact hlt)
      have d0r : wr.cell? ⟨b, off + k, none⟩ = some (.string (mk (T.getD k []))) := (hbr.cell (p := ⟨b, off + k, none⟩) hbb).trans d0
      have hmem : T.getD k [] ∈ T := by rw [List.getD_eq_getElem?_getD, List.getElem?_eq_getElem (by rw [HTN.out]; exact hlt)]; exact List.getElem_mem _
      have hstep := servK_step (f := ofN l) (T := T) (k := k) (by rw [HTN.out]; exact hlt)
      rw [HOFT.out] at hstep
      have hpn := pn_len (HTP.out _ hmem)
      have hofk := HOF.out (T.getD k []) wr (by have h := HLK.out.below hbw; exact h) (by unfold maxLen; omega)
      have hzl := HOFL.out (T.getD k [])
      have hlt2 : (k : Int) < (M : Int) := by omega
      clear hcell hmem
      generalize T.getD k [] = n at *
      generalize ofN l n = zs at *
      generalize servK (ofN l) T k = S at *
      generalize wr = wo at *
      have HOFK := Go.Lib.hid hofk
      have HSTEP := Go.Lib.hid hstep
      have HOWN := Go.Lib.hid hown
      have HBR := Go.Lib.hid hbr
      have HPN := Go.Lib.hid hpn
      clear hofk hstep hown hbr hpn
      clear hbw
      go_wp2_with fail
      refine HOFK.out.mono ?_; rintro e W2 ⟨v2, rfl, ho2, hb2⟩
      obtain ⟨a2, c2, rfl, _, _⟩ := (SlC.of_owns ho2).slice
      have hownW := owns_below HOWN.out hb2
      have hbr2 := HBR.out.trans (hb2.mono HBR.out.size)
      generalize hzn : zs.length = Z at *
      have HOW := Go.Lib.hid hownW
      have HBR2 := Go.Lib.hid hbr2
      have HO2 := Go.Lib.hid ho2
      have HZN := Go.Lib.hid hzn
      clear hownW hbr2 ho2 hzn
      clear hb2 d0r
      try rw [HZN.out]
      go_wp2_with fail
      go_loopw [5, 9] (fun v i wr => ∃ j : Nat, i = .int .i64 j ∧ j ≤ Z ∧ wr.ownsRow W1.heap.size 40 2 v (S ++ (zs.take j).map fun a => (n, a)).length (encV (S ++ (zs.take j).map fun a => (n, a))) ∧ Below W1.heap.size W1 wr ∧ wr.ownsRow wo.heap.size 3 1 (.slice a2 Z c2) Z (zs.map (Value.int .i64))) (fun _ i _ => Z - (intOf i).toNat)
      case atStart => exact ⟨0, rfl, Nat.zero_le _, by rw [List.take_zero, List.map_nil, List.append_nil]; exact HOW.out, HBR2.out, HO2.out⟩
      case round =>
        clear HOW HBR2
        obtain ⟨j, rfl, hj, hownS, hbS, hownI⟩ := hrel
        generalize wr = wq at *
        have hwsS := hbS.size
        by_cases hjl : j < Z
        · have hjl2 : (j : Int) < (Z : Int) := by omega
          rcases hownI.2 with ⟨_, hz0⟩ | ⟨g, cap', cur, hv, _⟩
          · omega
          obtain ⟨off2, hoff⟩ : ∃ o : Nat, o = 0 := ⟨0, rfl⟩
          rw [← hoff] at hv
          simp only [Value.slice.injEq] at hv
          obtain ⟨rfl, _, rfl⟩ := hv
          have hstepJ : S ++ (zs.take (j + 1)).map (fun a => (n, a)) = (S ++ (zs.take j).map fun a => (n, a)) ++ [(n, zs.getD j 0)] := by
            rw [List.take_succ_eq_append_getElem (by rw [HZN.out]; exact hjl), List.map_append, List.append_assoc, List.getD_eq_getElem?_getD, List.getElem?_eq_getElem (by rw [HZN.out]; exact hjl)]
            rfl
          have hlen5 : (S ++ (zs.take j).map fun a => (n, a)).length ≤ 10000000 := by
            rw [List.length_append, List.length_map, List.length_take]
            omega
          have hIat : ∀ W : World, W.ownsRow wo.heap.size 3 1 (.slice (some ⟨g, off2, none⟩) Z c2) Z (zs.map (Value.int .i64)) → W.cell? ⟨g, off2 + j, none⟩ = some (.int .i64 (zs.getD j 0)) := fun W h => by
            obtain ⟨b5, o5, e5, _, h5⟩ := Ints.at (show Ints W (.slice (some ⟨g, off2, none⟩) Z c2) zs by unfold Ints; rw [HZN.out]; exact SlC.of_owns h) (by rw [HZN.out]; omega)
            simp only [Option.some.injEq, Addr.mk.injEq, and_true] at e5
            obtain ⟨rfl, rfl⟩ := e5
            exact h5 j (by rw [HZN.out]; exact hjl)
          generalize zs.getD j 0 = x at *
          generalize S ++ (zs.take j).map (fun a => (n, a)) = L at *
          have D0 : ∀ z : Subtype (fun W : World => Below W1.heap.size W1 W ∧ W.ownsRow wo.heap.size 3 1 (.slice (some ⟨g, off2, none⟩) Z c2) Z (zs.map (Value.int .i64))), z.1.cell? ⟨b, off + k, none⟩ = some (.string (mk n)) := fun z => (z.2.1.cell (p := ⟨b, off + k, none⟩) hbb).trans d0
          have D1 : ∀ z : Subtype (fun W : World => Below W1.heap.size W1 W ∧ W.ownsRow wo.heap.size 3 1 (.slice (some ⟨g, off2, none⟩) Z c2) Z (zs.map (Value.int .i64))), z.1.cell? ⟨g, off2 + j, none⟩ = some (.int .i64 x) := fun z => hIat z.1 z.2.2
          have hne : Nonempty (Subtype (fun W : World => Below W1.heap.size W1 W ∧ W.ownsRow wo.heap.size 3 1 (.slice (some ⟨g, off2, none⟩) Z c2) Z (zs.map (Value.int .i64)))) := ⟨⟨wq, hbS, hownI⟩⟩
          have hownD := (owns_below hownS (Below.refl _ _).drew).alloc (.cells #[.string ⟨n.toArray⟩, .int .i64 x] 40)
          have hownJ := (owns_below hownI (Below.refl _ _).drew).alloc (.cells #[.string ⟨n.toArray⟩, .int .i64 x] 40)
          have hbD := hbS.drew.alloc hwsS (.cells #[.string ⟨n.toArray⟩, .int .i64 x] 40)
          have hCd : Below W1.heap.size W1 wq.drew ∧ wq.drew.ownsRow wo.heap.size 3 1 (.slice (some ⟨g, off2, none⟩) Z c2) Z (zs.map (Value.int .i64)) := ⟨hbS.drew, owns_below hownI (Below.refl _ _).drew⟩
          have hsl1 : SlC (wq.drew.alloc (.cells #[.string ⟨n.toArray⟩, .int .i64 x] 40)) 2 (.slice (some ⟨wq.heap.size, 0, none⟩) 1 1) 1 [.string (mk n), .int .i64 x] := slc_new wq.drew 2 1 40 [.string (mk n), .int .i64 x] rfl (by decide)
          have hone := one_sv (n, x)
          have HSTJ := Go.Lib.hid hstepJ
          have HOD := Go.Lib.hid hownD
          have HOJ := Go.Lib.hid hownJ
          have HBD := Go.Lib.hid hbD
          have HCD := Go.Lib.hid hCd
          have HSL1 := Go.Lib.hid hsl1
          have HONE := Go.Lib.hid hone
          have HBS := Go.Lib.hid hbS
          clear hstepJ hownD hownJ hbD hCd hsl1 hone hbS
          clear hownS hownI hIat hoff
          go_wp2_with fail
          refine Go.Mix.wp_region_mix (Es := [10, 11]) (fun W : World => Below W1.heap.size W1 W ∧ W.ownsRow wo.heap.size 3 1 (.slice (some ⟨g, off2, none⟩) Z c2) Z (zs.map (Value.int .i64))) mixed (by kernel_rfl) HCD.out (fun _ => ?_)
          iterate 10 (refine Go.Mix.mix_step rfl (fun K hK => ?_); have HKK := Go.Lib.hid hK; clear hK; go_simp; refine HKK.out _ _ ?_; clear HKK K)
          refine Go.Mix.mix_eff rfl (fun K hK => ?_)
          have HKK := Go.Lib.hid hK
          clear hK
          go_simp
          refine HKK.out _ _ ⟨HBD.out, HOJ.out⟩ ?_
          clear HKK K
          refine mix_app eiSv (.tmp 30) (.tmp 40) rfl rfl rfl W1.heap.size rfl rfl HOD.out HSL1.out HONE.out (by unfold maxLen; omega) (by omega) HBD.out.size (fun v5 W5 hown5 hg5 => ?_)
          have hb5 := below_app HBD.out HOD.out hg5 (Nat.le_refl _) HBD.out.size
          have hi5 := HOJ.out.kept hg5 (rows_apart HOJ.out HOD.out (by decide))
          refine ⟨⟨hb5, hi5⟩, ?_⟩
          have HB5 := Go.Lib.hid hb5
          have HO5 := Go.Lib.hid hown5
          have HI5 := Go.Lib.hid hi5
          clear hb5 hown5 hi5
          clear hg5
          iterate 1 (refine Go.Mix.mix_step rfl (fun K hK => ?_); have HKK := Go.Lib.hid hK; clear hK; go_simp; refine HKK.out _ _ ?_; clear HKK K)
          refine Go.Mix.mix_nil ?_
          go_wp2_with fail
          go_roundw
          case rel => exact ⟨j + 1, by go_num, by omega, by rw [HSTJ.out, List.length_append, encV_snoc]; exact HO5.out, HB5.out, HI5.out⟩
          case measure => simp [intOf]; omega
        · have hje : j = Z := by omega
          have hfin : S ++ (zs.take j).map (fun a => (n, a)) = servK (ofN l) T (k + 1) := by rw [HSTEP.out, hje, ← HZN.out, List.take_length]
          rw [hfin] at hownS
          have hjl2 : ¬ (j : Int) < (Z : Int) := by omega
          have HOS := Go.Lib.hid hownS
          have HBS := Go.Lib.hid hbS
          clear hownS hbS
          clear hfin hje hownI
          go_wp2_with fail
          go_roundw
          case rel => exact ⟨k + 1, by go_num, by omega, HOS.out, HBS.out⟩
          case measure => simp [intOf]; omega
    · obtain rfl : k = M := by omega
      have hfin : servK (ofN l) T k = servN (ofN l) rs := HALL.out
      rw [hfin] at hown
      have HOWN := Go.Lib.hid hown
      have HBR := Go.Lib.hid hbr
      have HBW := Go.Lib.hid hbw
      clear hown hbr hbw
      clear hfin hlk
      go_wp2_with fail
      go_ret
      exact ⟨_, rfl, SlC.of_owns HOWN.out, HBW.out⟩
end Go.Proofs.YtgbmclgnbbhcbaaGreat

/- Pick, against the reference: whom to ask next. -/
namespace Go.Proofs.YtgbmclgnbbhcbaaGreat
open Go.RowKit Go.Sort Go.Lib
set_option maxRecDepth 100000
set_option linter.unusedVariables false
set_option linter.unusedSimpArgs false

set_option maxHeartbeats 8000000 in
theorem refNext_any (l tried : List Sv) (a a2 : Option Addr) (c c2 : Nat) (w : World) (hl : Svs w (.slice a l.length c) l) (ht : Svs w (.slice a2 tried.length c2) tried) (hn : l.length ≤ 1099511627776) (hm : tried.length ≤ 1099511627776) :
    Calls Tryz.prog 12 #[.slice a l.length c, .slice a2 tried.length c2] w fun e w' => e = .returned (retN (nextN l tried)) ∧ Below w.heap.size w w' := by
  have mixed : Tryz.prog.follows .mixedOrders = true := by kernel_rfl
  obtain ⟨X, hX⟩ : ∃ X, w.alloc (.cells #[.string ⟨#[]⟩, .int .i64 0] 40) = X := ⟨_, rfl⟩
  have gX : X.heap[w.heap.size]? = some (.cells (svC s0) 40 (0, 0)) := by rw [← hX]; exact World.alloc_heap_new _ _
  have hbX : Below w.heap.size w X := by rw [← hX]; exact (Below.refl _ w).alloc (Nat.le_refl _) _
  generalize hN : l.length = N at *
  have hall := find_none (p := fun s : Sv => !tried.any fun x => decide (x.2 = s.2)) (l := l) (k := N) hN.symm
  have hhit := fun (k : Nat) (hk : k < N) => find_hit (p := fun s : Sv => !tried.any fun x => decide (x.2 = s.2)) (l := l) (k := k) (d := s0) (by rw [hN]; exact hk)
  have hdef : nextN l tried = l.find? fun s : Sv => !tried.any fun x => decide (x.2 = s.2) := rfl
  have hone0 := one_svC s0
  have hxs : w.heap.size < X.heap.size := by rw [← hX]; simp
  generalize hTM : tried.length = TM at *
  have HL := Go.Lib.hid hl
  have HT := Go.Lib.hid ht
  have HALL := Go.Lib.hid hall
  have HHIT := Go.Lib.hid hhit
  have HDEF := Go.Lib.hid hdef
  have GX := Go.Lib.hid gX
  have HBX := Go.Lib.hid hbX
  have HN := Go.Lib.hid hN
  have HXS := Go.Lib.hid hxs
  have HTM := Go.Lib.hid hTM
  clear hl ht hall hhit hdef gX hbX hN hxs hTM
  go_enter Tryz.func12, Tryz.ntmps12
  go_wp2_with fail
  go_loopw [6] (fun i wr => ∃ k : Nat, i = .int .i64 k ∧ k ≤ N ∧ (∀ x ∈ l.take k, (!tried.any fun y => decide (y.2 = x.2)) = false) ∧ Below X.heap.size X wr) (fun i _ => N - (intOf i).toNat)
  case atStart => exact ⟨0, rfl, Nat.zero_le _, by simp, Below.refl _ _⟩
  case round =>
    obtain ⟨k, rfl, hk, hall2, hbr⟩ := hrel
    generalize wr = wo at *
    have hbw := HBX.out.trans (hbr.mono HBX.out.size)
    have g2 := (hbr.block _ (Array.getElem?_eq_some_iff.1 GX.out).1).trans GX.out
    by_cases hlt : k < N
    · have hl2 := HL.out.below hbw (Nat.le_refl _)
      have ht2 := HT.out.below hbw (Nat.le_refl _)
      obtain ⟨b, off, rfl, hbb, hcell⟩ := Svs.at hl2 (by rw [HN.out]; omega)
      obtain ⟨d0, d1⟩ := hcell k (by rw [HN.out]; exact hlt)
      have hhit := HHIT.out k hlt hall2
      have hmore := take_more (q := fun x : Sv => (!tried.any fun y => decide (y.2 = x.2)) = false) (l := l) (k := k) (d := s0) (by rw [HN.out]; exact hlt) hall2
      have hlt2 : (k : Int) < (N : Int) := by omega
      rw [← HDEF.out] at hhit
      clear hcell hl2 hall2
      generalize l.getD k s0 = s at *
      obtain ⟨sn, sa⟩ := s
      simp only at d0 d1 hhit hmore
      have hone := one_svC (sn, sa)
      have hany : ∀ i, i < tried.length → ((tried.take (i + 1)).any fun y => decide (y.2 = sa)) = (((tried.take i).any fun y => decide (y.2 = sa)) || decide ((tried.getD i s0).2 = sa)) := fun i hi => by
        rw [List.take_succ_eq_append_getElem hi, List.any_append, List.getD_eq_getElem?_getD, List.getElem?_eq_getElem hi]
        simp
      have HBR := Go.Lib.hid hbr
      have HBW := Go.Lib.hid hbw
      have G2 := Go.Lib.hid g2
      have HHIT2 := Go.Lib.hid hhit
      have HMORE := Go.Lib.hid hmore
      have HT2 := Go.Lib.hid ht2
      have HANY := Go.Lib.hid hany
      clear hbr hbw g2 hhit hmore ht2 hany
      go_wp2_with fail
      go_loopw [7, 8] (fun m j wq => ∃ i : Nat, j = .int .i64 i ∧ i ≤ TM ∧ m = .bool ((tried.take i).any fun y => decide (y.2 = sa)) ∧ Below wo.heap.size wo wq) (fun _ j _ => TM - (intOf j).toNat)
      case atStart => exact ⟨0, rfl, Nat.zero_le _, rfl, Below.refl _ _⟩
      case round =>
        obtain ⟨i, rfl, hi, rfl, hbi⟩ := hrel
        generalize wr = wq at *
        have e0 : wq.cell? ⟨b, off + k * 2, none⟩ = some (.string (mk sn)) := (hbi.cell (p := ⟨b, off + k * 2, none⟩) hbb).trans d0
        have e1 : wq.cell? ⟨b, off + k * 2 + 1, none⟩ = some (.int .i64 sa) := (hbi.cell (p := ⟨b, off + k * 2 + 1, none⟩) hbb).trans d1
        by_cases hil : i < TM
        · have hil2 : (i : Int) < (TM : Int) := by omega
          have hstep := HANY.out i (by rw [HTM.out]; exact hil)
          obtain ⟨g, o, rfl, hg, hct⟩ := Svs.at (SlC.below HT2.out hbi (Nat.le_refl _) : Svs wq (.slice a2 TM c2) tried) (by rw [HTM.out]; omega)
          obtain ⟨_, f1⟩ := hct i (by rw [HTM.out]; exact hil)
          generalize tried.getD i s0 = y at *
          obtain ⟨yn, ya⟩ := y
          simp only at f1 hstep
          have q0 : (ya == sa) = decide (ya = sa) := by rw [Bool.eq_iff_iff, beq_iff_eq, decide_eq_true_iff]
          generalize decide (ya = sa) = yb at *
          cases hE : ((tried.take i).any fun y => decide (y.2 = sa)) with
          | true =>
            rw [hE, Bool.true_or] at hstep
            have HBI := Go.Lib.hid hbi
            have HSTEP := Go.Lib.hid hstep
            have HE := Go.Lib.hid hE
            clear hbi hstep hE
            clear hct
            go_wp2_with fail
            go_quiet (fail)
            go_wp2_with fail
            go_roundw
            case rel => exact ⟨i + 1, by go_num, by omega, by rw [HSTEP.out], below_drewN HBI.out _⟩
            case measure => simp [intOf]; omega
          | false =>
            rw [hE, Bool.false_or] at hstep
            have HBI := Go.Lib.hid hbi
            have HSTEP := Go.Lib.hid hstep
            have HE := Go.Lib.hid hE
            clear hbi hstep hE
            clear hct
            go_wp2_with fail
            go_quiet (fail)
            go_wp2_with fail
            go_roundw
            case rel => exact ⟨i + 1, by go_num, by omega, by rw [HSTEP.out], below_drewN HBI.out _⟩
            case measure => simp [intOf]; omega
        · obtain rfl : i = TM := by omega
          have htk : tried.take i = tried := List.take_of_length_le (by rw [HTM.out]; exact Nat.le_refl _)
          rw [htk]
          have hbXq := HBR.out.trans (hbi.mono HBR.out.size)
          have g4 := (hbi.block _ (Array.getElem?_eq_some_iff.1 G2.out).1).trans G2.out
          generalize hb0 : (tried.any fun x => decide (x.2 = sa)) = bo at *
          have HBI := Go.Lib.hid hbi
          have HBXQ := Go.Lib.hid hbXq
          have G4 := Go.Lib.hid g4
          clear hbi hbXq g4
          cases bo with
          | true =>
            have hm2 := HMORE.out rfl
            have HM2 := Go.Lib.hid hm2
            clear hm2
            clear hb0
            go_wp2_with fail
            go_roundw
            case rel => exact ⟨k + 1, by go_num, by omega, HM2.out, HBXQ.out⟩
            case measure => simp [intOf]; omega
          | false =>
            have hres := HHIT2.out rfl
            have HRES := Go.Lib.hid hres
            clear hres
            clear hb0
            go_wp2_with (refine wpList_store_row rfl 40 (.tmp 4) (.tmp 40) rfl w.heap.size (svC (sn, sa)) rfl rfl _ _ G4.out infoZ rfl hone ?_)
            refine ret_sv (s := (sn, sa)) rfl rfl rfl rfl (setRow_heap _ _ _ _ _ _ G4.out) ⟨by rw [HRES.out]; rfl, below_setRow (HBX.out.trans (HBXQ.out.mono HBX.out.size)) (Nat.le_refl _) _⟩
    · have hke : k = N := by omega
      have hlt2 : ¬ (k : Int) < (N : Int) := by omega
      rw [hke] at hall2
      have hres := HALL.out hall2
      rw [← HDEF.out] at hres
      have HRES := Go.Lib.hid hres
      have G2 := Go.Lib.hid g2
      have HBW := Go.Lib.hid hbw
      clear hres g2 hbw
      clear hke hall2 hbr
      go_wp2_with (refine wpList_store_row rfl 40 (.tmp 4) (.tmp 41) rfl w.heap.size (svC s0) rfl rfl _ _ G2.out infoZ rfl hone0 ?_)
      refine ret_sv (s := s0) rfl rfl rfl rfl (setRow_heap _ _ _ _ _ _ G2.out) ⟨by rw [HRES.out]; rfl, below_setRow HBW.out (Nat.le_refl _) _⟩
end Go.Proofs.YtgbmclgnbbhcbaaGreat

/- Pick, against the reference: whose address is missing. -/
namespace Go.Proofs.YtgbmclgnbbhcbaaGreat
open Go.RowKit Go.Sort Go.Lib
set_option maxRecDepth 100000
set_option linter.unusedVariables false
set_option linter.unusedSimpArgs false

set_option maxHeartbeats 8000000 in
theorem refMissing_any (kn : List UInt8) (kt kd : Int) (zn : List UInt8) (rs : List Rc.RR) (a : Option Addr) (cap : Nat) (l : List Kn) (al : Option Addr) (cl : Nat) (tried : List (List UInt8)) (a2 : Option Addr) (c2 : Nat) (w : World) (hst : RRs w (.slice a rs.length cap) rs) (hok : ∀ r ∈ rs, RROk r) (hn : rs.length ≤ 1000)
    (hl : Kns w (.slice al l.length cl) l) (hlen : l.length ≤ 30) (hz : ∀ k ∈ l, k.zs.length ≤ 20 ∧ k.nm.length ≤ maxLen) (ht : Strs w (.slice a2 tried.length c2) tried) (hm : tried.length ≤ 1099511627776) (htl : ∀ x ∈ tried, x.length ≤ maxLen) :
    Calls Tryz.prog 15 #[setV kn kt (.slice a rs.length cap) kd zn, .slice al l.length cl, .slice a2 tried.length c2] w fun e w' => e = .returned (retM (missN (ofN l) rs tried)) ∧ Below w.heap.size w w' := by
  have mixed : Tryz.prog.follows .mixedOrders = true := by kernel_rfl
  obtain ⟨X, hX⟩ : ∃ X, w.alloc (.cells (setC kn kt (.slice a rs.length cap) kd zn) 26) = X := ⟨_, rfl⟩
  have gX : X.heap[w.heap.size]? = some (.cells (setC kn kt (.slice a rs.length cap) kd zn) 26 (0, 0)) := by rw [← hX]; exact World.alloc_heap_new _ _
  have hbX : Below w.heap.size w X := by rw [← hX]; exact (Below.refl _ w).alloc (Nat.le_refl _) _
  have hrt := refTargets_any kn kt kd zn rs a cap X (hst.below hbX (Nat.le_refl _)) hok (by omega)
  have hTp := targsN_pn rs
  have hTl : (targsN rs).length ≤ 1000 := by
    have h1 := targL_len rs
    have h2 : (insAll Nm.lessN (targL rs)).length ≤ (targL rs).length := insAll_len _
    have h3 : targsN rs = insAll Nm.lessN (targL rs) := rfl
    rw [h3]
    omega
  have hoft : ∀ n, toldN (ofN l n) = ofN l n := fun n => told_idem (flatK l n)
  have hdef : missN (ofN l) rs tried = (targsN rs).find? fun n => decide ((toldN (ofN l n)).length = 0) && !tried.any fun x => Nm.sameN x n := rfl
  have hof := fun n W h1 h2 => refOf_any l n al cl W h1 (by omega) (fun k hk => ⟨by have := (hz k hk).1; omega, (hz k hk).2⟩) h2
  generalize missN (ofN l) rs tried = R at *
  generalize targsN rs = T at *
  obtain ⟨M, hM⟩ : ∃ M, T.length = M := ⟨_, rfl⟩
  have hall := find_none (p := fun n : List UInt8 => decide ((toldN (ofN l n)).length = 0) && !tried.any fun x => Nm.sameN x n) (l := T) (k := M) hM.symm
  have hhit := fun (k : Nat) (hk : k < M) => find_hit (p := fun n : List UInt8 => decide ((toldN (ofN l n)).length = 0) && !tried.any fun x => Nm.sameN x n) (l := T) (k := k) (d := []) (by rw [hM]; exact hk)
  rw [← hdef] at hall
  have k0 : X.cell? ⟨w.heap.size, 0, none⟩ = some (.string (mk kn)) := row_cell gX 0 _ rfl
  have k1 : X.cell? ⟨w.heap.size, 1, none⟩ = some (.int .i64 kt) := row_cell gX 1 _ rfl
  have k2 : X.cell? ⟨w.heap.size, 2, none⟩ = some (.slice a rs.length cap) := row_cell gX 2 _ rfl
  have k3 : X.cell? ⟨w.heap.size, 3, none⟩ = some (.int .i64 kd) := row_cell gX 3 _ rfl
  have k4 : X.cell? ⟨w.heap.size, 4, none⟩ = some (.string (mk zn)) := row_cell gX 4 _ rfl
  simp only [setV, setC] at hrt
  have hTsame : ∀ j, j < tried.length → (tried.getD j []).length ≤ maxLen := fun j hj => htl _ (by rw [List.getD_eq_getElem?_getD, List.getElem?_eq_getElem hj]; exact List.getElem_mem _)
  generalize hTM : tried.length = TM at *
  have HST := Go.Lib.hid hst
  have HBX := Go.Lib.hid hbX
  have HRT := Go.Lib.hid hrt
  have HALL := Go.Lib.hid hall
  have GX := Go.Lib.hid gX
  have HOFT := Go.Lib.hid hoft
  have HOF := Go.Lib.hid hof
  have HTP := Go.Lib.hid hTp
  have HLK := Go.Lib.hid hl
  have HZ := Go.Lib.hid hz
  have HHIT := Go.Lib.hid hhit
  have HDEF := Go.Lib.hid hdef
  have HT := Go.Lib.hid ht
  have HTM := Go.Lib.hid hTM
  have HTL := Go.Lib.hid htl
  have HTS := Go.Lib.hid hTsame
  clear hst hbX hrt hall gX hoft hof hTp hl hz hhit hdef ht hTM htl hTsame
  simp only [setC] at hX
  generalize rs.length = N at *
  generalize hLN : l.length = LN at *
  rw [hM] at hTl
  go_enter Tryz.func15, Tryz.ntmps15
  go_wp2_with fail
  refine HRT.out.mono ?_; rintro e W1 ⟨v1, rfl, hs1, hb1⟩
  obtain ⟨a1, c1, rfl, _, _⟩ := SlC.slice hs1
  have hbw1 := HBX.out.trans (hb1.mono HBX.out.size)
  rw [hM] at hs1
  try rw [hM]
  have HS1 := Go.Lib.hid hs1
  have HBW1 := Go.Lib.hid hbw1
  have HTN := Go.Lib.hid hM
  have HLN := Go.Lib.hid hLN
  clear hs1 hbw1 hM hLN
  clear hb1 hX k0 k1 k2 k3 k4
  go_wp2_with fail
  go_loopw [9] (fun i wr => ∃ k : Nat, i = .int .i64 k ∧ k ≤ M ∧ (∀ x ∈ T.take k, (decide ((toldN (ofN l x)).length = 0) && !tried.any fun y => Nm.sameN y x) = false) ∧ Below W1.heap.size W1 wr) (fun i _ => M - (intOf i).toNat)
  case atStart => exact ⟨0, rfl, Nat.zero_le _, by simp, Below.refl _ _⟩
  case round =>
    obtain ⟨k, rfl, hk, hall2, hbr⟩ := hrel
    generalize wr = wo at *
    have hbw := HBW1.out.trans (hbr.mono HBW1.out.size)
    by_cases hlt : k < M
    · obtain ⟨b, off, rfl, hbb, hcell⟩ := Strs.at (show Strs W1 (.slice a1 M c1) T from HS1.out) (by rw [HTN.out]; omega)
      have d0 := hcell k (by rw [HTN.out]; exact hlt)
      have hmem : T.getD k [] ∈ T := by rw [List.getD_eq_getElem?_getD, List.getElem?_eq_getElem (by rw [HTN.out]; exact hlt)]; exact List.getElem_mem _
      have hhit := HHIT.out k hlt hall2
      rw [← HDEF.out] at hhit
      have hmore := take_more (q := fun x : List UInt8 => (decide ((toldN (ofN l x)).length = 0) && !tried.any fun y => Nm.sameN y x) = false) (l := T) (k := k) (d := []) (by rw [HTN.out]; exact hlt) hall2
      have hpn := pn_len (HTP.out _ hmem)
      have hofk := fun W h1 => HOF.out (T.getD k []) W h1 (by unfold maxLen; omega)
      have hoftk := HOFT.out (T.getD k [])
      have hlt2 : (k : Int) < (M : Int) := by omega
      have ht2 := (show Strs w (.slice a2 TM c2) tried from HT.out).below hbw (Nat.le_refl _)
      clear hcell hmem hall2
      generalize T.getD k [] = n at *
      have hsame := fun W x (hx : x.length ≤ maxLen) => refSame_any (mk x) (mk n) W (by rw [size_mk]; exact hx) (by rw [size_mk]; unfold maxLen; omega)
      simp only [bl_mk] at hsame
      have hany : ∀ i, i < tried.length → ((tried.take (i + 1)).any fun y => Nm.sameN y n) = (((tried.take i).any fun y => Nm.sameN y n) || Nm.sameN (tried.getD i []) n) := fun i hi => by
        rw [List.take_succ_eq_append_getElem hi, List.any_append, List.getD_eq_getElem?_getD, List.getElem?_eq_getElem hi]
        simp
      have hlk := HLK.out.below hbw
      rw [hoftk] at hhit hmore
      have HBR := Go.Lib.hid hbr
      have HBW := Go.Lib.hid hbw
      have HHIT2 := Go.Lib.hid hhit
      have HMORE := Go.Lib.hid hmore
      have HT2 := Go.Lib.hid ht2
      have HANY := Go.Lib.hid hany
      have HSAME := Go.Lib.hid hsame
      have HOFK := Go.Lib.hid hofk
      have HOFTK := Go.Lib.hid hoftk
      have HLK2 := Go.Lib.hid hlk
      have HPN := Go.Lib.hid hpn
      clear hbr hbw hhit hmore ht2 hany hsame hofk hoftk hlk hpn
      go_wp2_with fail
      go_loopw [10, 11] (fun m j wq => ∃ i : Nat, j = .int .i64 i ∧ i ≤ TM ∧ m = .bool ((tried.take i).any fun y => Nm.sameN y n) ∧ Below wo.heap.size wo wq) (fun _ j _ => TM - (intOf j).toNat)
      case atStart => exact ⟨0, rfl, Nat.zero_le _, rfl, Below.refl _ _⟩
      case round =>
        obtain ⟨i, rfl, hi, rfl, hbi⟩ := hrel
        generalize wr = wq at *
        have hbW1 := HBR.out.trans (hbi.mono HBR.out.size)
        have e0 : wq.cell? ⟨b, off + k, none⟩ = some (.string (mk n)) := (hbW1.cell (p := ⟨b, off + k, none⟩) hbb).trans d0
        by_cases hil : i < TM
        · have hil2 : (i : Int) < (TM : Int) := by omega
          have hstep := HANY.out i (by rw [HTM.out]; exact hil)
          obtain ⟨g, o, rfl, hg, hct⟩ := Strs.at (HT2.out : Strs wo (.slice a2 TM c2) tried) (by rw [HTM.out]; omega)
          have f1 := hct i (by rw [HTM.out]; exact hil)
          have hyl := HTS.out i hil
          generalize tried.getD i [] = y at *
          have hsy := fun W => HSAME.out W y hyl
          generalize Nm.sameN y n = sm at *
          have D0 : ∀ z : Subtype (Below wo.heap.size wo), z.1.cell? ⟨b, off + k, none⟩ = some (.string (mk n)) := fun z => ((HBR.out.trans (z.2.mono HBR.out.size)).cell (p := ⟨b, off + k, none⟩) hbb).trans d0
          have D1 : ∀ z : Subtype (Below wo.heap.size wo), z.1.cell? ⟨g, o + i, none⟩ = some (.string (mk y)) := fun z => (z.2.cell (p := ⟨g, o + i, none⟩) hg).trans f1
          have hne : Nonempty (Subtype (Below wo.heap.size wo)) := ⟨⟨wo, Below.refl _ _⟩⟩
          cases hE : ((tried.take i).any fun y => Nm.sameN y n) with
          | true =>
            rw [hE, Bool.true_or] at hstep
            have HBI := Go.Lib.hid hbi
            have HSTEP := Go.Lib.hid hstep
            have HE := Go.Lib.hid hE
            have HSY := Go.Lib.hid hsy
            have HBW2 := Go.Lib.hid hbW1
            clear hbi hstep hE hsy hbW1
            clear hct f1 e0
            go_wp2_with fail
            refine Go.Mix.wp_region_mix (Es := [10]) (Below wo.heap.size wo) mixed (by kernel_rfl) (show Below wo.heap.size wo (World.drew _) from HBI.out.drew) (fun _ => ?_)
            iterate 10 (refine Go.Mix.mix_step rfl (fun K hK => ?_); have HKK := Go.Lib.hid hK; clear hK; go_simp; refine HKK.out _ _ ?_; clear HKK K)
            refine Go.Mix.mix_eff rfl (fun K hK => ?_)
            have HKK := Go.Lib.hid hK
            clear hK
            go_simp
            refine HKK.out _ _ HBI.out.drew ?_
            clear HKK K
            iterate 2 (refine Go.Mix.mix_step rfl (fun K hK => ?_); have HKK := Go.Lib.hid hK; clear hK; go_simp; refine HKK.out _ _ ?_; clear HKK K)
            refine Go.Mix.mix_nil ?_
            go_wp2_with fail
            go_roundw
            case rel => exact ⟨i + 1, by go_num, by omega, by rw [HSTEP.out], HBI.out.drew⟩
            case measure => simp [intOf]; omega
          | false =>
            rw [hE, Bool.false_or] at hstep
            have HBI := Go.Lib.hid hbi
            have HSTEP := Go.Lib.hid hstep
            have HE := Go.Lib.hid hE
            have HSY := Go.Lib.hid hsy
            have HBW2 := Go.Lib.hid hbW1
            clear hbi hstep hE hsy hbW1
            clear hct f1 e0
            go_wp2_with fail
            refine Go.Mix.wp_region_mix (Es := [10]) (Below wo.heap.size wo) mixed (by kernel_rfl) (show Below wo.heap.size wo (World.drew _) from HBI.out.drew) (fun _ => ?_)
            iterate 10 (refine Go.Mix.mix_step rfl (fun K hK => ?_); have HKK := Go.Lib.hid hK; clear hK; go_simp; refine HKK.out _ _ ?_; clear HKK K)
            refine Go.Mix.mix_eff rfl (fun K hK => ?_)
            have HKK := Go.Lib.hid hK
            clear hK
            go_simp
            refine (HSY.out _).mono ?_; rintro e W5 ⟨rfl, hx5⟩
            have hb5 := HBI.out.drew.trans (hx5.mono (HBI.out.drew.size))
            go_simp
            refine HKK.out _ _ hb5 ?_
            clear HKK K hx5
            have HB5 := Go.Lib.hid hb5
            clear hb5
            iterate 2 (refine Go.Mix.mix_step rfl (fun K hK => ?_); have HKK := Go.Lib.hid hK; clear hK; go_simp; refine HKK.out _ _ ?_; clear HKK K)
            refine Go.Mix.mix_nil ?_
            go_wp2_with fail
            go_roundw
            case rel => exact ⟨i + 1, by go_num, by omega, by rw [HSTEP.out], HB5.out⟩
            case measure => simp [intOf]; omega
        · obtain rfl : i = TM := by omega
          have htk : tried.take i = tried := List.take_of_length_le (by rw [HTM.out]; exact Nat.le_refl _)
          rw [htk]
          have hofq := HOFK.out wq (HLK2.out.below hbi)
          generalize hb0 : (tried.any fun x => Nm.sameN x n) = bo at *
          obtain ⟨Q, hQ⟩ : ∃ Q, (ofN l n).length = Q := ⟨_, rfl⟩
          have HBI := Go.Lib.hid hbi
          have HBW2 := Go.Lib.hid hbW1
          have HOFQ := Go.Lib.hid hofq
          have HQ := Go.Lib.hid hQ
          have HBO := Go.Lib.hid hb0
          clear hbi hbW1 hofq hQ hb0
          cases bo with
          | true =>
            have hm2 := HMORE.out (by simp)
            have HM2 := Go.Lib.hid hm2
            clear hm2
            go_wp2_with fail
            go_roundw
            case rel => exact ⟨k + 1, by go_num, by omega, HM2.out, HBW2.out⟩
            case measure => simp [intOf]; omega
          | false =>
            go_wp2_with fail
            refine HOFQ.out.mono ?_; rintro e W5 ⟨v5, rfl, ho5, hb5⟩
            obtain ⟨a5, c5, rfl, _, _⟩ := (SlC.of_owns ho5).slice
            have hb6 := HBW2.out.trans (hb5.mono HBW2.out.size)
            have e5 : W5.cell? ⟨b, off + k, none⟩ = some (.string (mk n)) := (hb6.cell (p := ⟨b, off + k, none⟩) hbb).trans d0
            rw [HQ.out]
            have HB6 := Go.Lib.hid hb6
            clear hb6
            clear ho5 hb5
            by_cases hq0 : Q = 0
            · subst hq0
              have hres := HHIT2.out (by rw [HQ.out]; rfl)
              have hbz := HBW1.out.trans (HB6.out.mono HBW1.out.size)
              have HRES := Go.Lib.hid hres
              have HBZ := Go.Lib.hid hbz
              clear hres hbz
              go_wp2_with fail
              go_ret2
              exact ⟨by rw [HRES.out]; rfl, HBZ.out⟩
            · have hm2 := HMORE.out (by rw [HQ.out, decide_eq_false hq0]; rfl)
              have hqb : ((Q : Int) == 0) = false := beq_eq_false_iff_ne.2 (by omega)
              have HM2 := Go.Lib.hid hm2
              clear hm2
              go_wp2_with fail
              go_roundw
              case rel => exact ⟨k + 1, by go_num, by omega, HM2.out, HB6.out⟩
              case measure => simp [intOf]; omega
    · have hke : k = M := by omega
      have hlt2 : ¬ (k : Int) < (M : Int) := by omega
      rw [hke] at hall2
      have hres := HALL.out hall2
      have HRES := Go.Lib.hid hres
      have HBW := Go.Lib.hid hbw
      clear hres hbw
      clear hke hall2 hbr
      go_wp2_with fail
      go_ret2
      exact ⟨by rw [HRES.out]; rfl, HBW.out⟩
end Go.Proofs.YtgbmclgnbbhcbaaGreat

/- The contracts of freshetalike.Records, Small, RRs (of lists that are alike), Message (of messages that are alike). -/
namespace Go.Proofs.YtgbmclgnbbhcbaaGreat
open Go.RowKit Go.Shelf Go.Sq
set_option linter.unusedVariables false

/-- how much records have -/
def sumR (l : List Rc.RR) : Nat := (l.map fun r => r.name.length + r.data.length).sum
theorem sumR_snoc (l : List Rc.RR) (x : Rc.RR) : sumR (l ++ [x]) = sumR l + (x.name.length + x.data.length) := by simp [sumR]
theorem sumR_take_le (l : List Rc.RR) (k : Nat) : sumR (l.take k) ≤ sumR l := by
  have e : sumR (l.take k) + sumR (l.drop k) = sumR l := by
    unfold sumR
    rw [← List.sum_append, ← List.map_append, List.take_append_drop]
  omega
theorem sumR_mem {l : List Rc.RR} {x : Rc.RR} (h : x ∈ l) : x.name.length + x.data.length ≤ sumR l := by
  induction l with
  | nil => cases h
  | cons y l ih =>
    rcases List.mem_cons.1 h with rfl | h
    · simp [sumR]
    · have := ih h
      simp [sumR] at this ⊢
      omega
def recordsB (l : List Rc.RR) (top : Nat) : Bool := decide (l.length + sumR l ≤ top)
theorem recordsB_true {l : List Rc.RR} {top : Nat} (h : recordsB l top = true) : l.length ≤ top ∧ ∀ r ∈ l, r.name.length ≤ top ∧ r.data.length ≤ top := by
  unfold recordsB at h
  rw [decide_eq_true_eq] at h
  refine ⟨by omega, fun r hr => ?_⟩
  have := sumR_mem hr
  omega
theorem rr_step {l : List Rc.RR} {k n : Nat} (hn : l.length = n) (h : k < n) : l.take (k + 1) = l.take k ++ [l.getD k r0] ∧ l.getD k r0 ∈ l := by
  subst hn
  constructor
  · rw [List.take_succ_eq_append_getElem h]
    simp [h]
  · rw [List.getD_eq_getElem?_getD, List.getElem?_eq_getElem h]
    simp

set_option maxRecDepth 100000 in
set_option maxHeartbeats 4000000 in
theorem Records_any (l : List Rc.RR) (a : Option Addr) (cap : Nat) (top : Nat) (w : World) (hst : RRs w (.slice a l.length cap) l) (ht : top ≤ 100000) (hok : ∀ r ∈ l, RROk r) :
    Calls Tryz.prog 17 #[.slice a l.length cap, .int .i64 top] w fun e w' => e = .returned (.bool (recordsB l top)) ∧ Below w.heap.size w w' := by
  obtain ⟨hn1, hc1⟩ := slc_bounds hst
  have HB := Go.Lib.hid (Below.refl w.heap.size w)
  generalize hn : l.length = n at *
  have hdef : recordsB l top = decide (n + sumR l ≤ top) := by unfold recordsB; rw [hn]
  generalize recordsB l top = res at *
  have HX := Go.Lib.hid hst
  have HOK := Go.Lib.hid hok
  have HDEF := Go.Lib.hid hdef
  clear hst hok hdef
  have HN := Go.Lib.hid hn
  clear hn
  unfold maxLen at hc1
  go_enter Tryz.func17, Tryz.ntmps17
  go_wp2_with fail
  go_loopw [5, 6] (fun v i wr => ∃ k N : Nat, i = .int .i64 k ∧ v = .int .i64 N ∧ k ≤ n ∧ N = n + sumR (l.take k) ∧ N ≤ n + 300000 ∧ Below w.heap.size w wr) (fun _ i _ => n - (intOf i).toNat)
  case atStart => exact ⟨0, n, rfl, rfl, by omega, by simp [sumR], by omega, HB.out⟩
  case round =>
    obtain ⟨k, N, rfl, rfl, hk, hN, hNb, hbr⟩ := hrel
    clear HB
    have HNN := Go.Lib.hid hN
    have hmono := sumR_take_le l k
    have hbig : Hid (top < N → res = false) := Go.Lib.hid (fun h => by rw [HDEF.out, decide_eq_false_iff_not]; omega)
    clear hN hmono
    have HB := Go.Lib.hid hbr
    clear hbr
    by_cases hlt : k < n
    · by_cases hle : N ≤ top
      · have hst := HX.out.below HB.out (Nat.le_refl _)
        rw [← HN.out] at hst
        obtain ⟨b, off, rfl, hbw, hcell⟩ := RRs.at hst (by rw [HN.out]; omega)
        obtain ⟨c0, _, _, _, c4⟩ := hcell k (by rw [HN.out]; exact hlt)
        obtain ⟨hstep, hmem⟩ := rr_step HN.out hlt
        have hxs := HOK.out _ hmem
        have hxb := sumR_mem hmem
        have hsum : sumR (l.take (k + 1)) = sumR (l.take k) + ((l.getD k r0).name.length + (l.getD k r0).data.length) := by rw [hstep, sumR_snoc]
        have hlong : Hid (top < (l.getD k r0).name.length ∨ top < (l.getD k r0).data.length → res = false) := Go.Lib.hid (fun h => by rw [HDEF.out, decide_eq_false_iff_not]; omega)
        have HSUM := Go.Lib.hid hsum
        clear hst hcell hmem hstep hsum hxb
        generalize l.getD k r0 = x at *
        obtain ⟨xn, xt, xc, xl, xd⟩ := x
        obtain ⟨hx1, hx2⟩ := hxs
        unfold maxLen at hx1 hx2
        simp only at c0 c4 hx1 hx2
        have s1 : (mk xn).size = xn.length := size_mk xn
        have s2 : (mk xd).size = xd.length := size_mk xd
        have q2 : (N : Int) ≤ (top : Int) := by omega
        by_cases hx : top < xn.length
        · have q1 : (top : Int) < (xn.length : Int) := by omega
          have hres := Go.Lib.hid (hlong.out (.inl hx))
          clear hx hlong
          go_wp2_with fail
          go_ret
          exact ⟨ret_bool hres.out.symm, HB.out⟩
        · have q1 : ¬ (top : Int) < (xn.length : Int) := by omega
          by_cases hy : top < xd.length
          · have q3 : (top : Int) < (xd.length : Int) := by omega
            have hres := Go.Lib.hid (hlong.out (.inr hy))
            clear hx hy hlong
            go_wp2_with fail
            go_ret
            exact ⟨ret_bool hres.out.symm, HB.out⟩
          · have q3 : ¬ (top : Int) < (xd.length : Int) := by omega
            clear hlong
            have w1 : IntKind.i64.wrap ((N : Int) + (xn.length : Int)) = (N : Int) + (xn.length : Int) := wrapi (by omega) (by omega)
            have w2 : IntKind.i64.wrap ((N : Int) + (xn.length : Int) + (xd.length : Int)) = (N : Int) + (xn.length : Int) + (xd.length : Int) := wrapi (by omega) (by omega)
            have C0 := BelowC.cell (W := wr) c0 hbw
            have C4 := BelowC.cell (W := wr) c4 hbw
            have hne : Nonempty (Subtype (Below wr.heap.size wr)) := ⟨⟨wr, Below.refl _ _⟩⟩
            go_wp2_with fail
            refine Go.Mix.wp_region_mix (Es := []) (Below wr.heap.size wr) mixed (by kernel_rfl) (Below.refl _ _).drew (fun _ => ?_)
            clear c0 c4
            iterate 16 (refine Go.Mix.mix_step rfl (fun K hK => ?_); have HKK := Go.Lib.hid hK; clear hK; go_simp; refine HKK.out _ _ ?_; clear HKK K)
            refine Go.Mix.mix_nil ?_
            go_wp2_with fail
            go_roundw
            case rel => exact ⟨k + 1, N + xn.length + xd.length, by go_num, by go_num, by omega, by rw [HSUM.out, HNN.out]; omega, by omega, HB.out.drew⟩
            case measure => simp [intOf]; omega
      · have q2 : ¬ (N : Int) ≤ (top : Int) := by omega
        have hres := Go.Lib.hid (hbig.out (by omega))
        go_wp2_with fail
        go_ret
        exact ⟨ret_bool (by rw [hres.out]), HB.out⟩
    · obtain rfl : k = n := by omega
      have hall : Hid (res = decide ((N : Int) ≤ (top : Int))) := Go.Lib.hid (by
        have := HNN.out
        rw [List.take_of_length_le (by rw [HN.out]; exact Nat.le_refl _)] at this
        rw [HDEF.out, this, decide_eq_decide]
        omega)
      go_wp2_with fail
      go_ret
      exact ⟨ret_bool (by rw [hall.out]; first | rfl | simp), HB.out⟩
end Go.Proofs.YtgbmclgnbbhcbaaGreat

/- The contracts of freshetalike.Texts, Short, Round. -/
namespace Go.Proofs.YtgbmclgnbbhcbaaGreat
open Go.RowKit

/-- how many bytes texts have -/
def sumL (ls : List (List UInt8)) : Nat := (ls.map List.length).sum
theorem sumL_snoc (ls : List (List UInt8)) (x : List UInt8) : sumL (ls ++ [x]) = sumL ls + x.length := by simp [sumL]
theorem sumL_take_le (ls : List (List UInt8)) (k : Nat) : sumL (ls.take k) ≤ sumL ls := by
  have e : sumL (ls.take k) + sumL (ls.drop k) = sumL ls := by
    unfold sumL
    rw [← List.sum_append, ← List.map_append, List.take_append_drop]
  omega
theorem sumL_mem {ls : List (List UInt8)} {x : List UInt8} (h : x ∈ ls) : x.length ≤ sumL ls := by
  induction ls with
  | nil => cases h
  | cons y ls ih =>
    rcases List.mem_cons.1 h with rfl | h
    · simp [sumL]
    · have := ih h
      simp [sumL] at this ⊢
      omega

set_option maxRecDepth 100000 in
set_option maxHeartbeats 2000000 in
theorem Short_any (ls : List (List UInt8)) (a : Option Addr) (cap : Nat) (top : Nat) (w : World) (hst : Strs w (.slice a ls.length cap) ls) (ht : top ≤ 100000) (hsz : ∀ l ∈ ls, l.length ≤ maxLen) :
    Calls Tryz.prog 5 #[.slice a ls.length cap, .int .i64 top] w fun e w' => e = .returned (.bool (decide (ls.length + sumL ls ≤ top))) ∧ w = w' := by
  obtain ⟨hn1, hc1⟩ := slc_bounds hst
  have HX := Go.Lib.hid hst
  have HSZ := Go.Lib.hid hsz
  clear hst hsz
  generalize hn : ls.length = n at *
  have HN := Go.Lib.hid hn
  clear hn
  unfold maxLen at hc1
  go_enter Tryz.func5, Tryz.ntmps5
  go_wp2_with fail
  go_loop [5, 6] (fun v i => ∃ k N : Nat, i = .int .i64 k ∧ v = .int .i64 N ∧ k ≤ n ∧ N = n + sumL (ls.take k) ∧ N ≤ n + 200000) (fun _ i => n - (intOf i).toNat)
  case atStart => exact ⟨0, n, rfl, rfl, by omega, by simp [sumL], by omega⟩
  case round =>
    obtain ⟨k, N, rfl, rfl, hk, hN, hNb⟩ := hrel
    have HNN := Go.Lib.hid hN
    have hmono := sumL_take_le ls k
    have hbig : Hid (top < N → decide (n + sumL ls ≤ top) = false) := Go.Lib.hid (fun h => by rw [decide_eq_false_iff_not]; omega)
    clear hN hmono
    by_cases hlt : k < n
    · by_cases hle : N ≤ top
      · have hst := HX.out
        rw [← HN.out] at hst
        obtain ⟨b, off, rfl, hbw, hcell⟩ := Strs.at hst (by rw [HN.out]; omega)
        have hc2 := hcell k (by rw [HN.out]; exact hlt)
        have hmem : ls.getD k [] ∈ ls := by rw [List.getD_eq_getElem?_getD, List.getElem?_eq_getElem (by rw [HN.out]; exact hlt)]; simp
        have hxs := HSZ.out _ hmem
        have hxb := sumL_mem hmem
        have hstep := getD_take_succ ls [] (k := k) (by rw [HN.out]; exact hlt)
        have hsum : sumL (ls.take (k + 1)) = sumL (ls.take k) + (ls.getD k []).length := by rw [hstep, sumL_snoc]
        have hsx := size_mk (ls.getD k [])
        have hlong : Hid (top < (ls.getD k []).length → decide (n + sumL ls ≤ top) = false) := Go.Lib.hid (fun h => by rw [decide_eq_false_iff_not]; omega)
        have HSUM := Go.Lib.hid hsum
        clear hst hcell hmem hstep hsum hbw hxb
        unfold maxLen at hxs
        generalize ls.getD k [] = x at *
        by_cases hx : top < x.length
        · have q1 : (top : Int) < (x.length : Int) := by omega
          have q2 : (N : Int) ≤ (top : Int) := by omega
          go_wp2_with fail
          go_ret
          exact ⟨ret_bool (hlong.out hx).symm, rfl⟩
        · have q1 : ¬ (top : Int) < (x.length : Int) := by omega
          have q2 : (N : Int) ≤ (top : Int) := by omega
          go_wp2_with fail
          go_round
          case rel => exact ⟨k + 1, N + x.length, by go_num, by go_num, by omega, by rw [HSUM.out, HNN.out]; omega, by omega⟩
          case measure => simp [intOf]; omega
      · have q2 : ¬ (N : Int) ≤ (top : Int) := by omega
        go_wp2_with fail
        go_ret
        exact ⟨ret_bool (by rw [hbig.out (by omega)]), rfl⟩
    · obtain rfl : k = n := by omega
      have hall : Hid (decide (k + sumL ls ≤ top) = decide ((N : Int) ≤ (top : Int))) := Go.Lib.hid (by
        have := HNN.out
        rw [List.take_of_length_le (by rw [HN.out]; exact Nat.le_refl _)] at this
        rw [this]
        rw [decide_eq_decide]
        omega)
      go_wp2_with fail
      go_ret
      exact ⟨ret_bool (by rw [hall.out]; first | rfl | simp), rfl⟩

end Go.Proofs.YtgbmclgnbbhcbaaGreat

/- Pick, against the reference: what the law's own functions do: known, few, and its function. -/
namespace Go.Proofs.YtgbmclgnbbhcbaaGreat
open Go.RowKit Go.Sort Go.Lib
set_option maxRecDepth 100000
set_option linter.unusedVariables false
set_option linter.unusedSimpArgs false

theorem infoKn : (Tryz.prog.info? 55).map (fun i => (i.zero, i.size, i.bytes)) = some (some (.agg #[.string ⟨#[]⟩, .slice none 0 0]), 2, 40) := by kernel_rfl
theorem eiKn : EI Tryz.prog 35 55 2 40 := ei_of Tryz.underlying35 infoKn rfl (by decide)
theorem knC_snoc (l : List Kn) (k : Kn) : (l ++ [k]).flatMap knC = l.flatMap knC ++ [.string (mk k.nm), .slice k.a k.zs.length k.c] := by simp [knC]
/-- a list, told anew -/
def RetKns (w : World) (l : List Kn) (e : Ending) (w' : World) : Prop := ∃ v, e = .returned v ∧ Kns w' v l ∧ Below w.heap.size w w'
set_option maxHeartbeats 4000000 in
theorem lknown_any (l : List Kn) (a : Option Addr) (c : Nat) (w : World) (hl : Kns w (.slice a l.length c) l) (hlen : l.length ≤ 1000) :
    Calls Tryz.prog 9 #[.slice a l.length c] w (RetKns w l) := by
  have mixed : Tryz.prog.follows .mixedOrders = true := by kernel_rfl
  have HB := Go.Lib.hid (Below.refl w.heap.size w)
  have hkk := hl.2
  generalize hN : l.length = N at *
  have HL := Go.Lib.hid hl
  have HN := Go.Lib.hid hN
  have HKKN := Go.Lib.hid hkk
  clear hl hN hkk
  go_enter Tryz.func9, Tryz.ntmps9
  go_wp2_with fail
  go_loopw [3, 4] (fun v i wr => ∃ k : Nat, i = .int .i64 k ∧ k ≤ N ∧ wr.ownsRow w.heap.size 55 2 v k ((l.take k).flatMap knC) ∧ Below w.heap.size w wr) (fun _ i _ => N - (intOf i).toNat)
  case atStart => exact ⟨0, rfl, Nat.zero_le _, World.ownsRow_nil _ _ _ _, HB.out⟩
  case round =>
    clear HB
    obtain ⟨k, rfl, hk, hown, hb⟩ := hrel
    by_cases hlt : k < N
    · have hlt2 : (k : Int) < (N : Int) := by omega
      obtain ⟨b, off, rfl, hbb, hcell⟩ := Kns.at (show Kns w (.slice a N c) l from HL.out) (by rw [HN.out]; omega)
      obtain ⟨d0, d1, _⟩ := hcell k (by rw [HN.out]; exact hlt)
      have htk : (l.take (k + 1)).flatMap knC = (l.take k).flatMap knC ++ [.string (mk (l.getD k k0).nm), .slice (l.getD k k0).a (l.getD k k0).zs.length (l.getD k k0).c] := by
        rw [List.take_succ_eq_append_getElem (by rw [HN.out]; exact hlt), knC_snoc, List.getD_eq_getElem?_getD, List.getElem?_eq_getElem (by rw [HN.out]; exact hlt)]
        rfl
      clear hcell
      generalize l.getD k k0 = x at *
      obtain ⟨nm, xa, xc, zs⟩ := x
      simp only at d0 d1 htk
      generalize zs.length = Z at *
      have D0 : ∀ z : Subtype (Below w.heap.size w), z.1.cell? ⟨b, off + k * 2, none⟩ = some (.string (mk nm)) := fun z => (z.2.cell (p := ⟨b, off + k * 2, none⟩) hbb).trans d0
      have D1 : ∀ z : Subtype (Below w.heap.size w), z.1.cell? ⟨b, off + k * 2 + 1, none⟩ = some (.slice xa Z xc) := fun z => (z.2.cell (p := ⟨b, off + k * 2 + 1, none⟩) hbb).trans d1
      have hne : Nonempty (Subtype (Below w.heap.size w)) := ⟨⟨w, Below.refl _ _⟩⟩
      have hownA := (owns_below hown (Below.refl _ _).drew).alloc (.cells #[.string ⟨nm.toArray⟩, .slice xa Z xc] 55)
      have hbA := hb.drew.alloc hb.size (.cells #[.string ⟨nm.toArray⟩, .slice xa Z xc] 55)
      have hsl1 : SlC (wr.drew.alloc (.cells #[.string ⟨nm.toArray⟩, .slice xa Z xc] 55)) 2 (.slice (some ⟨wr.heap.size, 0, none⟩) 1 1) 1 [.string (mk nm), .slice xa Z xc] := slc_new wr.drew 2 1 55 [.string (mk nm), .slice xa Z xc] rfl (by decide)
      have hone : ∀ u ∈ [Value.string (mk nm), .slice xa Z xc], u.oneCell' = true := fun u hu => by
        simp only [List.mem_cons, List.not_mem_nil, or_false] at hu
        rcases hu with rfl | rfl <;> rfl
      have HTK := Go.Lib.hid htk
      have HOA := Go.Lib.hid hownA
      have HBA := Go.Lib.hid hbA
      have HSL1 := Go.Lib.hid hsl1
      have HONE := Go.Lib.hid hone
      have HBQ := Go.Lib.hid hb
      clear htk hownA hbA hsl1 hone hb
      clear d0 d1 hown
      go_wp2_with fail
      refine Go.Mix.wp_region_mix (Es := [12, 13]) (Below w.heap.size w) mixed (by kernel_rfl) (show Below w.heap.size w (World.drew _) from HBQ.out.drew) (fun _ => ?_)
      iterate 12 (refine Go.Mix.mix_step rfl (fun K hK => ?_); have HKK := Go.Lib.hid hK; clear hK; go_simp; refine HKK.out _ _ ?_; clear HKK K)
      refine Go.Mix.mix_eff rfl (fun K hK => ?_)
      have HKK := Go.Lib.hid hK
      clear hK
      go_simp
      refine HKK.out _ _ HBA.out ?_
      clear HKK K
      refine mix_app eiKn (.tmp 11) (.tmp 23) rfl rfl rfl w.heap.size rfl rfl HOA.out HSL1.out HONE.out (by unfold maxLen; omega) (by omega) HBA.out.size (fun v5 W5 hown5 hg5 => ?_)
      have hb5 := below_app HBA.out HOA.out hg5 (Nat.le_refl _) HBA.out.size
      refine ⟨hb5, ?_⟩
      have HB5 := Go.Lib.hid hb5
      have HO5 := Go.Lib.hid hown5
      clear hb5 hown5
      clear hg5
      iterate 1 (refine Go.Mix.mix_step rfl (fun K hK => ?_); have HKK := Go.Lib.hid hK; clear hK; go_simp; refine HKK.out _ _ ?_; clear HKK K)
      refine Go.Mix.mix_nil ?_
      go_wp2_with fail
      go_roundw
      case rel => exact ⟨k + 1, by go_num, by omega, by rw [HTK.out]; exact HO5.out, HB5.out⟩
      case measure => simp [intOf]; omega
    · obtain rfl : k = N := by omega
      have hall : l.take k = l := List.take_of_length_le (by rw [HN.out]; exact Nat.le_refl _)
      rw [hall] at hown
      have HOWN := Go.Lib.hid hown
      have HBQ := Go.Lib.hid hb
      clear hown hb
      clear hall
      go_wp2_with fail
      go_ret
      refine ⟨_, rfl, ⟨?_, fun k hk => SlC.below (HKKN.out k hk) HBQ.out (Nat.le_refl _)⟩, HBQ.out⟩
      rw [HN.out]
      exact SlC.of_owns HOWN.out
theorem tellT_any (l : List Kn) (b : Nat) (a : Option Addr) (c : Nat) (n : List UInt8) (w : World) (hbx : w.heap[b]? = some (.cells #[.slice a l.length c] 27 (0, 0))) (hl : Kns w (.slice a l.length c) l) (hlen : l.length ≤ 30) (hz : ∀ k ∈ l, k.zs.length ≤ 20 ∧ k.nm.length ≤ maxLen) (hn : n.length ≤ maxLen) :
    TellsA Tryz.prog 7 #[.pointer (some ⟨b, 0, none⟩)] n (ofN l n) w := by
  intro W hW
  have hbx2 := (hW.block b (Array.getElem?_eq_some_iff.1 hbx).1).trans hbx
  have c0 : W.cell? ⟨b, 0, none⟩ = some (.slice a l.length c) := by simp [World.cell?, hbx2]
  have hk := lknown_any l a c W (hl.below hW) (by omega)
  have hof := fun W2 a2 c2 h => refOf_any l n a2 c2 W2 h (by omega) (fun k hk => ⟨by have := (hz k hk).1; omega, (hz k hk).2⟩) hn
  clear hW hl hbx hz
  generalize hN : l.length = N at *
  have HK := Go.Lib.hid hk
  have HOF := Go.Lib.hid hof
  have HN := Go.Lib.hid hN
  have HBX := Go.Lib.hid hbx2
  clear hk hof hN hbx2
  show Calls _ _ #[.string (mk n), .pointer (some ⟨b, 0, none⟩)] _ _
  go_enter Tryz.func7, Tryz.ntmps7
  go_wp2_with fail
  refine HK.out.mono ?_; rintro e W1 ⟨v1, rfl, hk1, hb1⟩
  have hsv := SlC.slice hk1.1
  rw [HN.out] at hsv
  obtain ⟨a2, c2, rfl, _, _⟩ := hsv
  have ho := HOF.out W1 a2 c2 hk1
  have HO := Go.Lib.hid ho
  have HB1 := Go.Lib.hid hb1
  clear ho hb1
  clear hk1
  go_wp2_with fail
  refine HO.out.mono ?_; rintro e W2 ⟨v2, rfl, ho2, hb2⟩
  have hb3 := HB1.out.trans (hb2.mono HB1.out.size)
  have HO2 := Go.Lib.hid ho2
  have HB3 := Go.Lib.hid hb3
  clear ho2 hb3
  clear hb2
  go_wp2_with fail
  go_ret
  refine ⟨_, rfl, ?_, HB3.out⟩
  unfold Ints
  exact SlC.of_owns HO2.out
def FewE (w : World) (l : List Kn) (rs : List Rc.RR) (e : Ending) (w' : World) : Prop := ∃ b, e = .returned (.bool b) ∧ (b = true → l.length ≤ 30 ∧ rs.length ≤ 40 ∧ ∀ k ∈ l, k.zs.length ≤ 20) ∧ Below w.heap.size w w'
set_option maxHeartbeats 4000000 in
theorem few_any (kn : List UInt8) (kt kd : Int) (zn : List UInt8) (rs : List Rc.RR) (a : Option Addr) (cap : Nat) (l : List Kn) (al : Option Addr) (cl : Nat) (w : World) (hst : RRs w (.slice a rs.length cap) rs) (hok : ∀ r ∈ rs, RROk r) (hl : Kns w (.slice al l.length cl) l) (hnm : ∀ k ∈ l, k.nm.length ≤ maxLen) :
    Calls Tryz.prog 4 #[setV kn kt (.slice a rs.length cap) kd zn, .slice al l.length cl] w (FewE w l rs) := by
  obtain ⟨X, hX⟩ : ∃ X, w.alloc (.cells (setC kn kt (.slice a rs.length cap) kd zn) 26) = X := ⟨_, rfl⟩
  have gX : X.heap[w.heap.size]? = some (.cells (setC kn kt (.slice a rs.length cap) kd zn) 26 (0, 0)) := by rw [← hX]; exact World.alloc_heap_new _ _
  have hbX : Below w.heap.size w X := by rw [← hX]; exact (Below.refl _ w).alloc (Nat.le_refl _) _
  have c2 : X.cell? ⟨w.heap.size, 2, none⟩ = some (.slice a rs.length cap) := row_cell gX 2 _ rfl
  have hwX : w.heap.size < X.heap.size := (Array.getElem?_eq_some_iff.1 gX).1
  obtain ⟨hn1, hc1⟩ := slc_bounds hl.1
  obtain ⟨hn2, hc2⟩ := slc_bounds hst
  have hrec := fun W h => Records_any rs a cap 4000 W h (by decide) hok
  have hall : (∀ j, j < l.length → (l.getD j k0).zs.length ≤ 20) → ∀ k ∈ l, k.zs.length ≤ 20 := fun h k hk => by
    obtain ⟨j, hj, rfl⟩ := List.getElem_of_mem hk
    have := h j hj
    rwa [List.getD_eq_getElem?_getD, List.getElem?_eq_getElem hj] at this
  unfold maxLen at hc1 hc2
  generalize hN : rs.length = N at *
  generalize hM : l.length = M at *
  have HST := Go.Lib.hid hst
  have HBX := Go.Lib.hid hbX
  have HN := Go.Lib.hid hN
  have HM := Go.Lib.hid hM
  have HREC := Go.Lib.hid hrec
  have HALL := Go.Lib.hid hall
  have HL := Go.Lib.hid hl
  clear hst hbX hN hM hrec hall hl
  simp only [setC] at hX
  go_enter Tryz.func4, Tryz.ntmps4
  go_wp2_with fail
  clear hX gX
  go_loopw [5] (fun i wr => wr = X ∧ ∃ k : Nat, i = .int .i64 k ∧ k ≤ M ∧ k ≤ 40 ∧ ∀ j, j < k → (l.getD j k0).zs.length ≤ 20) (fun i _ => 40 - (intOf i).toNat)
  case atStart => exact ⟨rfl, 0, rfl, Nat.zero_le _, by omega, fun j hj => by omega⟩
  case round =>
    obtain ⟨rfl, k, rfl, hk, hk40, ha⟩ := hrel
    by_cases hlt : k < M
    · have hlt2 : (k : Int) < (M : Int) := by omega
      by_cases h40 : k < 40
      · have h402 : (k : Int) < 40 := by omega
        obtain ⟨b, off, rfl, hbb, hcell⟩ := Kns.at ((show Kns w (.slice al M cl) l from HL.out).below HBX.out) (by rw [HM.out]; omega)
        obtain ⟨d0, d1, _⟩ := hcell k (by rw [HM.out]; exact hlt)
        have hnk := hnm (l.getD k k0) (by rw [List.getD_eq_getElem?_getD, List.getElem?_eq_getElem (by rw [HM.out]; exact hlt)]; exact List.getElem_mem _)
        obtain ⟨x, hx⟩ : ∃ x, l.getD k k0 = x := ⟨_, rfl⟩
        rw [hx] at d0 d1 hnk
        obtain ⟨nm, xa, xc, zs⟩ := x
        simp only at d0 d1 hnk
        obtain ⟨Z, hZ⟩ : ∃ Z, zs.length = Z := ⟨_, rfl⟩
        rw [hZ] at d1
        have HA := Go.Lib.hid ha
        have HX := Go.Lib.hid hx
        have HZ := Go.Lib.hid hZ
        clear ha hx hZ
        clear hcell
        by_cases hn3 : 300 < nm.length
        · have q1 : (300 : Int) < ((mk nm).size : Int) := by rw [size_mk]; omega
          go_wp2_with fail
          go_ret
          exact ⟨false, rfl, (fun h => by cases h), HBX.out⟩
        · have q1 : ¬ (300 : Int) < ((mk nm).size : Int) := by rw [size_mk]; omega
          by_cases hz3 : 20 < Z
          · have q2 : (20 : Int) < (Z : Int) := by omega
            go_wp2_with fail
            go_ret
            exact ⟨false, rfl, (fun h => by cases h), HBX.out⟩
          · have q2 : ¬ (20 : Int) < (Z : Int) := by omega
            go_wp2_with fail
            go_roundw
            case rel =>
              refine ⟨by first | rfl | trivial, k + 1, by go_num, by omega, by omega, fun j hj => ?_⟩
              rcases Nat.lt_or_ge j k with h | h
              · exact HA.out j h
              · obtain rfl : j = k := by omega
                rw [HX.out]
                show zs.length ≤ 20
                rw [HZ.out]
                omega
            case measure => simp [intOf]; omega
      · obtain rfl : k = 40 := by omega
        have h402 : ¬ ((40 : Nat) : Int) < 40 := by omega
        have hM30 : ¬ (M : Int) ≤ 30 := by omega
        have HA := Go.Lib.hid ha
        clear ha
        go_wp2_with fail
        go_ret
        exact ⟨false, rfl, (fun h => by cases h), HBX.out⟩
    · have hlt2 : ¬ (k : Int) < (M : Int) := by omega
      have hzz := HALL.out fun j hj => ha j (by omega)
      have HZZ := Go.Lib.hid hzz
      have HA := Go.Lib.hid ha
      clear hzz ha
      by_cases hM30 : M ≤ 30
      · have hM2 : (M : Int) ≤ 30 := by omega
        by_cases hN40 : N ≤ 40
        · have hN2 : (N : Int) ≤ 40 := by omega
          have hr := HREC.out wr (by have h := HST.out.below HBX.out (Nat.le_refl _); exact h)
          generalize recordsB rs 4000 = rb at *
          have HR := Go.Lib.hid hr
          clear hr
          go_wp2_with fail
          refine HR.out.mono ?_; rintro e W2 ⟨rfl, hb2⟩
          have hb3 := HBX.out.trans (hb2.mono HBX.out.size)
          have HB3 := Go.Lib.hid hb3
          clear hb3
          clear hb2
          go_wp2_with fail
          go_ret
          exact ⟨_, rfl, fun _ => ⟨by rw [HM.out]; exact hM30, by rw [HN.out]; exact hN40, HZZ.out⟩, HB3.out⟩
        · have hN2 : ¬ (N : Int) ≤ 40 := by omega
          go_wp2_with fail
          go_ret
          exact ⟨false, rfl, (fun h => by cases h), HBX.out⟩
      · have hM2 : ¬ (M : Int) ≤ 30 := by omega
        go_wp2_with fail
        go_ret
        exact ⟨false, rfl, (fun h => by cases h), HBX.out⟩
end Go.Proofs.YtgbmclgnbbhcbaaGreat

/- Arguments opened: names with addresses, a set. No conditions. -/
namespace Go.Proofs.YtgbmclgnbbhcbaaGreat
set_option maxRecDepth 100000
open Go.RowKit Go.ChangeShapes Go.WideShapes Go.Deep
set_option linter.unusedVariables false

def SvFit (s : Sv) : Prop := s.1.length ≤ maxLen ∧ Fits s.2
def enSv (s : Sv) : List Value := [.string (mk s.1), .int .i64 s.2]
theorem two_l {α : Type} {l : List α} (h : l.length = 2) : ∃ a b, l = [a, b] := by
  match l, h with
  | [a, b], _ => exact ⟨a, b, rfl⟩
def KnFit (w : World) (k : Kn) : Prop := KnAt w k ∧ k.nm.length ≤ maxLen
section
variable {H : Type} {enc : TypeId × Value → H} {w : World} {base b0 : Nat} {spare : Nat → Bool} {held : Bool}
theorem sv_elem {n : Nat} {cs : List Value} {y : DataW H × List MemPlace} (h : DataW.trod enc Tryz.prog w base spare held n 40 cs = some y) : ∃ r, SvFit r ∧ cs = enSv r := by
  obtain ⟨hl, n, hf⟩ := openE Tryz.underlying40 (by kernel_rfl) (by kernel_rfl) h
  obtain ⟨u0, y0, e0, h0⟩ := hf 0 _ rfl
  obtain ⟨u1, y1, e1, h1⟩ := hf 1 _ rfl
  obtain ⟨a, b, rfl⟩ := two_l (show cs.length = 2 from hl)
  obtain rfl : a = u0 := Option.some.inj e0
  obtain rfl : b = u1 := Option.some.inj e1
  obtain ⟨s, rfl, hs⟩ := tStr h0
  obtain ⟨i, rfl, hi⟩ := tInt h1
  exact ⟨(s, i), ⟨hs, hi⟩, rfl⟩
theorem open_Svs {v : Value} {d : DataW H} {p : List MemPlace} (hv : Value.okWide Tryz.prog w .any b0 28 v) (h : DataW.Trod enc Tryz.prog w base (fun _ => true) held 28 v d p) :
    ∃ a l cap, v = .slice a (l : List Sv).length cap ∧ Svs w v l ∧ ∀ s ∈ l, SvFit s := by
  obtain ⟨a, len, cap, rfl⟩ := okWide_slice Tryz.underlying28 hv
  obtain ⟨fuel, hd⟩ := h
  exact open_slc 2 (by omega) enSv (fun _ => rfl) SvFit Tryz.underlying28 (by kernel_rfl) (fun _ _ _ h => sv_elem h) hd
/-- a list of ints, within -/
theorem tInts {n : Nat} {u : Value} {y : DataW H × List MemPlace} (h : DataW.trod enc Tryz.prog w base (fun _ => true) held n 33 [u] = some y) : ∃ a zs c, u = .slice a (zs : List Int).length c ∧ Ints w u zs := by
  obtain ⟨a, l, cap, h1, h2, _⟩ := open_slc 1 (by omega) (fun z : Int => [Value.int .i64 z]) (fun _ => rfl) (fun _ => True) Tryz.underlying33 (by kernel_rfl) (fun n cs y h => by
    obtain ⟨z, rfl, _⟩ := DataW.trod_int Tryz.underlying3 h
    exact ⟨z, trivial, rfl⟩) h
  refine ⟨a, l, cap, h1, ?_⟩
  have e : l.flatMap (fun z => [Value.int .i64 z]) = l.map (Value.int .i64) := by
    clear h1 h2
    induction l with
    | nil => rfl
    | cons x l ih => rw [List.flatMap_cons, List.map_cons, ih (fun _ _ => trivial)]; rfl
  rw [e] at h2
  exact h2
theorem kn_elem {n : Nat} {cs : List Value} {y : DataW H × List MemPlace} (h : DataW.trod enc Tryz.prog w base (fun _ => true) held n 50 cs = some y) : ∃ k, KnFit w k ∧ cs = knC k := by
  obtain ⟨hl, n, hf⟩ := openE Tryz.underlying50 (by kernel_rfl) (by kernel_rfl) h
  obtain ⟨u0, y0, e0, h0⟩ := hf 0 _ rfl
  obtain ⟨u1, y1, e1, h1⟩ := hf 1 _ rfl
  obtain ⟨a, b, rfl⟩ := two_l (show cs.length = 2 from hl)
  obtain rfl : a = u0 := Option.some.inj e0
  obtain rfl : b = u1 := Option.some.inj e1
  obtain ⟨s, rfl, hs⟩ := tStr h0
  obtain ⟨a, zs, c, rfl, hi⟩ := tInts h1
  exact ⟨⟨s, a, c, zs⟩, ⟨hi, hs⟩, rfl⟩
theorem open_Kns {v : Value} {d : DataW H} {p : List MemPlace} (hv : Value.okWide Tryz.prog w .any b0 27 v) (h : DataW.Trod enc Tryz.prog w base (fun _ => true) held 27 v d p) :
    ∃ a l cap, v = .slice a (l : List Kn).length cap ∧ Kns w v l ∧ ∀ k ∈ l, k.nm.length ≤ maxLen := by
  obtain ⟨a, len, cap, rfl⟩ := okWide_slice Tryz.underlying27 hv
  obtain ⟨fuel, hd⟩ := h
  obtain ⟨a, l, cap, h1, h2, h3⟩ := open_slc 2 (by omega) knC (fun _ => rfl) (KnFit w) Tryz.underlying27 (by kernel_rfl) (fun _ _ _ h => kn_elem h) hd
  exact ⟨a, l, cap, h1, ⟨h2, fun k hk => (h3 k hk).1⟩, fun k hk => (h3 k hk).2⟩
theorem five_l {α : Type} {l : List α} (h : l.length = 5) : ∃ a b c d e, l = [a, b, c, d, e] := by
  match l, h with
  | [a, b, c, d, e], _ => exact ⟨a, b, c, d, e, rfl⟩
theorem key_elem {n : Nat} {cs : List Value} {y : DataW H × List MemPlace} (h : DataW.trod enc Tryz.prog w base spare held n 23 cs = some y) : ∃ (s : List UInt8) (i : Int), cs = [.string (mk s), .int .i64 i] := by
  obtain ⟨hl, n, hf⟩ := openE Tryz.underlying23 (by kernel_rfl) (by kernel_rfl) h
  obtain ⟨u0, y0, e0, h0⟩ := hf 0 _ rfl
  obtain ⟨u1, y1, e1, h1⟩ := hf 1 _ rfl
  obtain ⟨a, b, rfl⟩ := two_l (show cs.length = 2 from hl)
  obtain rfl : a = u0 := Option.some.inj e0
  obtain rfl : b = u1 := Option.some.inj e1
  obtain ⟨s, rfl, hs⟩ := tStr h0
  obtain ⟨i, rfl, hi⟩ := tInt h1
  exact ⟨s, i, rfl⟩
theorem open_Set {v : Value} {d : DataW H} {p : List MemPlace} (hv : Value.okWide Tryz.prog w .any b0 26 v) (h : DataW.Trod enc Tryz.prog w base (fun _ => true) held 26 v d p) :
    ∃ kn kt kd zn a rs c, v = setV kn kt (.slice a (rs : List Rc.RR).length c) kd zn ∧ RRs w (.slice a rs.length c) rs ∧ ∀ r ∈ rs, RROk r := by
  obtain ⟨cs, rfl, hsz⟩ := okWide_struct Tryz.underlying26 hv
  obtain ⟨l⟩ := cs
  obtain ⟨fuel, hf⟩ := h
  have hcells : (Value.agg (Array.mk l)).cells.toList = l := rfl
  rw [hcells] at hf
  obtain ⟨xs, n, _, _, hl, hlen, hg⟩ := DataW.trod_struct Tryz.underlying26 hf
  have hl : l.length = 5 := hl.trans (by kernel_rfl)
  have g : ∀ (i : Nat) (f : Field) (o k : Nat), (Tryz.prog.underlying 26).bind (fun d => match d with | .struct fs => fs[i]? | _ => none) = some f → f.offset = o → Tryz.prog.cellsOf f.type = k → ∃ y, DataW.trod enc Tryz.prog w base (fun _ => true) held n f.type ((l.drop o).take k) = some y := fun i f o k hf ho hk => by
    rw [Tryz.underlying26] at hf
    have h1 := hg i f hf
    rw [ho, hk] at h1
    have hi : i < xs.length := by rw [hlen]; exact (Array.getElem?_eq_some_iff.1 hf).1
    rw [List.getElem?_eq_getElem hi] at h1
    exact ⟨_, h1⟩
  obtain ⟨y0, h0⟩ := g 0 _ 0 2 rfl rfl (by kernel_rfl)
  obtain ⟨y1, h1⟩ := g 1 _ 2 1 rfl rfl (by kernel_rfl)
  obtain ⟨y2, h2⟩ := g 2 _ 3 1 rfl rfl (by kernel_rfl)
  obtain ⟨y3, h3⟩ := g 3 _ 4 1 rfl rfl (by kernel_rfl)
  obtain ⟨c0, c1, c2, c3, c4, rfl⟩ := five_l hl
  obtain ⟨kn, kt, e0⟩ := key_elem (show DataW.trod enc Tryz.prog w base (fun _ => true) held n 23 [c0, c1] = some y0 from h0)
  obtain ⟨a, rs, c, rfl, hrs, hfit⟩ := openRRs (show DataW.trod enc Tryz.prog w base (fun _ => true) held n 24 [c2] = some y1 from h1)
  obtain ⟨kd, rfl, _⟩ := tInt (show DataW.trod enc Tryz.prog w base (fun _ => true) held n 3 [c3] = some y2 from h2)
  obtain ⟨zn, rfl, _⟩ := tStr (show DataW.trod enc Tryz.prog w base (fun _ => true) held n 9 [c4] = some y3 from h3)
  simp only [List.cons.injEq, and_true] at e0
  obtain ⟨rfl, rfl⟩ := e0
  exact ⟨kn, kt, kd, zn, a, rs, c, rfl, hrs, fun r hr => (hfit r hr).1⟩
end
end Go.Proofs.YtgbmclgnbbhcbaaGreat

