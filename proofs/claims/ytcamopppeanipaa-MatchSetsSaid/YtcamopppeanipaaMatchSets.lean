/- MatchSets: the sets of any records are one to a key, none empty, each of its key's records and no others, as many as are unlike; whoever stops early saw a beginning. For every input; no conditions. -/
import Derived.Test.YtcamopppeanipaaMgF
import Derived.Test.YtcamopppeanipaaRpC
import Derived.Test.YtcamopppeanipaaOpnM
import Derived.Test.YtcamopppeanipaaMgG
namespace Go.Proofs.Ytcamopppeanipaa.matchSets
open Go.ChangeShapes Go.WideShapes Go.ChangeAt Go.RowKit
open Go.ChangeMaps (open_string shut_string)
set_option linter.unusedVariables false

set_option maxRecDepth 100000 in
set_option maxHeartbeats 16000000 in
theorem t1 (stop : Int) (la : Option Addr) (ln lc : Nat) (w : World)
    (HAW : Hid (∀ W, Calls Try.prog 10 #[] W fun e w' => e = .returned (.bool true) ∧ Below W.heap.size W w'))
    (HRC : Hid (Calls Try.prog 9 #[.slice la ln lc, .int .i64 3000] w fun e w' => e = .returned (.bool false) ∧ Below w.heap.size w w')) :
    Calls Try.prog 5 #[.slice la ln lc, .int .i64 stop] w fun e w' => e = .returned (.bool true) ∧ Below w.heap.size w w' := by
  have HB := Go.Lib.hid (Below.refl w.heap.size w)
  go_enter Try.func5, Try.ntmps5
  go_wp2_with fail
  refine (HRC.out).mono ?_; rintro e wb1 ⟨rfl, hx⟩
  have hb := HB.out.trans (hx.mono HB.out.size)
  clear HB
  have HB := Go.Lib.hid hb
  clear hx hb
  go_wp2_with fail
  refine (HAW.out _).mono ?_; rintro e wb2 ⟨rfl, hx⟩
  have hb := HB.out.trans (hx.mono HB.out.size)
  clear HB
  have HB := Go.Lib.hid hb
  clear hx hb
  go_wp2_with fail
  go_ret
  exact ⟨rfl, HB.out⟩

set_option maxRecDepth 100000 in
set_option maxHeartbeats 32000000 in
theorem t2 (stop : Int) (la : Option Addr) (lc : Nat) (l : List Rc.RR) (M N S : Nat) (gs : List Gr) (w : World) (hst : RRs w (.slice la M lc) l) (hlm : l.length = M) (hm : M ≤ 100000) (hok : ∀ r ∈ l, RROk r)
    (hgn : gs.length = N) (hap : Apart gs) (hfa : ∀ g ∈ gs, 0 < g.l.length ∧ ∀ r ∈ g.l, r.cl = 1 ∧ r.ty = g.ty ∧ Nm.foldN r.name = g.name ∧ RROk r) (hsg : sumG gs = S) (hS : S ≤ M) (hnm : N ≤ M) (hgs : groupsN l = gs)
    (HAW : Hid (∀ W, Calls Try.prog 10 #[] W fun e w' => e = .returned (.bool true) ∧ Below W.heap.size W w'))
    (HRC : Hid (Calls Try.prog 9 #[.slice la M lc, .int .i64 3000] w fun e w' => e = .returned (.bool true) ∧ Below w.heap.size w w'))
    (HGR : Hid (∀ W (q : Int), Below w.heap.size w W → Calls Try.prog 21 #[.slice la M lc, .int .i64 q] W fun e w' => ∃ v, e = .returned v ∧ GrpV w' v (walkG q gs) ∧ Below W.heap.size W w'))
    (HRN : Hid (∀ W, Calls Try.prog 25 #[.int .i64 stop, .int .i64 ((N : Int) + 1)] W fun e w' => e = .returned (.int .i64 (stop % ((N : Int) + 1))) ∧ W = w')) :
    Calls Try.prog 5 #[.slice la M lc, .int .i64 stop] w fun e w' => e = .returned (.bool true) ∧ Below w.heap.size w w' := by
  have HB := Go.Lib.hid (Below.refl w.heap.size w)
  have HST := Go.Lib.hid hst
  have HOK := Go.Lib.hid hok
  have HLM := Go.Lib.hid hlm
  have HGN := Go.Lib.hid hgn
  have HAP := Go.Lib.hid hap
  have HFA := Go.Lib.hid hfa
  have HSG := Go.Lib.hid hsg
  have HGS := Go.Lib.hid hgs
  clear hst hok hlm hgn hap hfa hsg hgs
  go_enter Try.func5, Try.ntmps5
  go_wp2_with fail
  refine (HRC.out).mono ?_; rintro e wb3 ⟨rfl, hx⟩
  have hb := HB.out.trans (hx.mono HB.out.size)
  clear HB
  have HB := Go.Lib.hid hb
  clear hx hb
  go_wp2_with fail
  refine (HGR.out _ (-1) HB.out).mono ?_; rintro e w2 ⟨v, rfl, hgv, hx⟩
  have hb := HB.out.trans (hx.mono HB.out.size)
  rw [show walkG (-1) gs = gs from if_neg (by omega)] at hgv
  obtain ⟨ga, gc, hv, hgc1, hgc2⟩ := hgv.slice
  rw [HGN.out] at hv hgc1
  subst hv
  clear HB hx
  unfold maxLen at hgc2
  have HB2 := Go.Lib.hid hb
  have HGV := Go.Lib.hid hgv
  clear hb hgv
  go_wp2_with fail
  go_loopw [6, 7] (fun n i wr => ∃ k s : Nat, i = .int .i64 k ∧ k ≤ N ∧ n = .int .i64 s ∧ s = sumG (gs.take k) ∧ Below w2.heap.size w2 wr) (fun _ i _ => N - (intOf i).toNat)
  case atStart => exact ⟨0, 0, rfl, by omega, rfl, by simp [sumG], Below.refl _ _⟩
  case round =>
    obtain ⟨k, s, rfl, hk, rfl, hs, hbr⟩ := hrel
    generalize wr = w3 at *
    have HB := Go.Lib.hid hbr
    clear hbr
    by_cases hlt : k < N
    · have hgw := HGV.out.below HB.out (Nat.le_refl _)
      obtain ⟨hz1, b, off, rfl, hbw, hcell⟩ := GrpV.at hgw (by rw [HGN.out]; omega)
      clear hz1
      obtain ⟨a', c', e0, e1, e2, hrr⟩ := hcell k (by rw [HGN.out]; exact hlt)
      have hgm := HFA.out _ (getD_mem' (d := g0) (by rw [HGN.out]; exact hlt : k < gs.length))
      have hsn := sumG_take (gs := gs) (k := k) (by rw [HGN.out]; exact hlt)
      have hsl := sumG_take_le gs (k + 1)
      rw [HSG.out, hsn] at hsl
      rw [← hs] at hsn hsl
      obtain ⟨g, hg⟩ : ∃ g, gs.getD k g0 = g := ⟨_, rfl⟩
      rw [hg] at e0 e1 e2 hrr hgm hsn hsl
      obtain ⟨gn, gt, gl⟩ := g
      simp only at e0 e1 e2 hrr hgm hsn hsl
      obtain ⟨hpos, hrec⟩ := hgm
      have hbnd := slc_bounds hrr
      obtain ⟨hb1, hb2⟩ := hbnd
      unfold maxLen at hb2
      generalize hnl : gl.length = nl at *
      have q0 : ¬ (nl : Int) = 0 := by omega
      have q1 : ((nl : Int) == 0) = false := beq_eq_false_iff_ne.2 q0
      have HCELL := Go.Lib.hid hcell
      have HRR := Go.Lib.hid hrr
      have HREC := Go.Lib.hid hrec
      have HSN := Go.Lib.hid hsn
      have HGK := Go.Lib.hid hg
      have HNL := Go.Lib.hid hnl
      clear hcell hrr hrec hsn hg hnl
      have HS0 := Go.Lib.hid hs
      clear hgw hs
      go_wp2_with fail
      go_loopw [8] (fun j wq => ∃ jn : Nat, j = .int .i64 jn ∧ jn ≤ k ∧ Below w3.heap.size w3 wq) (fun j _ => k - (intOf j).toNat)
      case atStart => exact ⟨0, rfl, by omega, Below.refl _ _⟩
      case round =>
        obtain ⟨jn, rfl, hjn, hbq⟩ := hrel
        have c0 := (hbq.cell (p := ⟨b, off + k * 3, none⟩) hbw).trans e0
        have c1 := (hbq.cell (p := ⟨b, off + k * 3 + 1, none⟩) hbw).trans e1
        have c2 := (hbq.cell (p := ⟨b, off + k * 3 + 2, none⟩) hbw).trans e2
        have hbw2 := Nat.lt_of_lt_of_le hbw hbq.size
        clear e0 e1 e2
        by_cases hjl : jn < k
        · obtain ⟨y1, y2, d0, d1, y3, y4⟩ := HCELL.out jn (by rw [HGN.out]; omega)
          clear y3 y4
          have hjN : jn < N := by omega
          have d0 := (hbq.cell (p := ⟨b, off + jn * 3, none⟩) hbw).trans d0
          have d1 := (hbq.cell (p := ⟨b, off + jn * 3 + 1, none⟩) hbw).trans d1
          have hne : ¬ ((gs.getD jn g0).name = gn ∧ (gs.getD jn g0).ty = gt) := by
            have h := HAP.out jn k (by rw [HGN.out]; omega) (by rw [HGN.out]; exact hlt) (by omega)
            rw [HGK.out] at h
            exact h
          obtain ⟨x, hx⟩ : ∃ x, gs.getD jn g0 = x := ⟨_, rfl⟩
          rw [hx] at d0 d1 hne
          obtain ⟨xn, xt, xl⟩ := x
          simp only at d0 d1 hne
          have C0 := BelowC.cell (W := wr) c0 hbw2
          have C1 := BelowC.cell (W := wr) c1 hbw2
          have D0 := BelowC.cell (W := wr) d0 hbw2
          have D1 := BelowC.cell (W := wr) d1 hbw2
          have hnn : Nonempty (Subtype (Below wr.heap.size wr)) := ⟨⟨wr, Below.refl _ _⟩⟩
          have HJL := Go.Lib.hid hjl
          have HBQ := Go.Lib.hid hbq
          clear hbq
          clear c0 c1 c2 d0 d1 hx
          by_cases hab : xn = gn
          · have htt : ¬ xt = gt := fun h => hne ⟨hab, h⟩
            have htb := beq_eq_false_iff_ne.2 htt
            subst hab
            clear hne
            go_wp2_with fail
            refine Go.Mix.wp_region_mix (Es := []) (Below wr.heap.size wr) mixed (by kernel_rfl) (Below.refl _ _).drew (fun _ => ?_)
            iterate 11 (refine Go.Mix.mix_step rfl (fun K hK => ?_); have HKK := Go.Lib.hid hK; clear hK; go_simp; refine HKK.out _ _ ?_; clear HKK K)
            refine Go.Mix.mix_nil ?_
            go_wp2_with fail
            go_roundw
            case rel => exact ⟨jn + 1, by go_num, HJL.out, HBQ.out.drew⟩
            case measure => have := HJL.out; simp [intOf]; omega
          · have hne1 : ¬ (mk xn).toList = (mk gn).toList := ne_mk hab
            have hne2 := beq_mk_false hab
            have hne3 : ¬ mk xn = mk gn := fun e => hab (by rw [← bl_mk xn, ← bl_mk gn, e])
            clear hne
            go_wp2_with fail
            refine Go.Mix.wp_region_mix (Es := []) (Below wr.heap.size wr) mixed (by kernel_rfl) (Below.refl _ _).drew (fun _ => ?_)
            iterate 11 (refine Go.Mix.mix_step rfl (fun K hK => ?_); have HKK := Go.Lib.hid hK; clear hK; go_simp; refine HKK.out _ _ ?_; clear HKK K)
            refine Go.Mix.mix_nil ?_
            go_wp2_with fail
            go_roundw
            case rel => exact ⟨jn + 1, by go_num, HJL.out, HBQ.out.drew⟩
            case measure => have := HJL.out; simp [intOf]; omega
        · obtain rfl : k = jn := by omega
          have HRR2 := Go.Lib.hid (HRR.out.below hbq (Nat.le_refl _))
          have hbx := HB.out.trans (hbq.mono HB.out.size)
          generalize wr = w4 at *
          have hs4 : s ≤ 100000 := by omega
          have HBX := Go.Lib.hid hbx
          clear hbx
          clear hbq HRR HB hbw HCELL hjl hjn
          go_wp2_with fail
          go_loopw [6, 9] (fun n j wq => ∃ jn sn : Nat, j = .int .i64 jn ∧ jn ≤ nl ∧ n = .int .i64 sn ∧ sn = s + jn ∧ Below w4.heap.size w4 wq) (fun _ j _ => nl - (intOf j).toNat)
          case atStart => exact ⟨0, s, rfl, by omega, rfl, by omega, Below.refl _ _⟩
          case round =>
            obtain ⟨jn, sn, rfl, hjn, rfl, hsnj, hbq⟩ := hrel
            have d0 := (hbq.cell (p := ⟨b, off + k * 3, none⟩) hbw2).trans c0
            have d1 := (hbq.cell (p := ⟨b, off + k * 3 + 1, none⟩) hbw2).trans c1
            have d2 := (hbq.cell (p := ⟨b, off + k * 3 + 2, none⟩) hbw2).trans c2
            have hbw4 := Nat.lt_of_lt_of_le hbw2 hbq.size
            have hsn4 : sn ≤ 100000 := by omega
            clear c0 c1 c2
            by_cases hjl : jn < nl
            · obtain ⟨b2, off2, rfl, hb2w, hcell2⟩ := RRs.at (HRR2.out.below hbq (Nat.le_refl _)) (by rw [HNL.out]; exact hpos)
              obtain ⟨f0, f1, f2, f3, f4⟩ := hcell2 jn (by rw [HNL.out]; exact hjl)
              obtain ⟨h1, h2, h3, hrok⟩ := HREC.out _ (getD_mem' (d := r0) (by rw [HNL.out]; exact hjl : jn < gl.length))
              generalize gl.getD jn r0 = r at *
              obtain ⟨rn, rty, rcl, rttl, rd⟩ := r
              simp only at f0 f1 f2 f3 f4 h1 h2 h3
              subst h1 h2 h3
              have hrb := World.alloc_heap_new wr (.cells #[.string (mk rn), .int .i64 rty, .int .i64 1, .int .i64 rttl, .string (mk rd)] 49)
              have hWB : Below wr.heap.size wr (wr.alloc (.cells #[.string (mk rn), .int .i64 rty, .int .i64 1, .int .i64 rttl, .string (mk rd)] 49)) := (Below.refl _ _).alloc (Nat.le_refl _) _
              have hfo := fun w => refFold_any (mk rn) w (by rw [size_mk]; exact hrok.1)
              rw [bl_mk] at hfo
              have HSNJ := Go.Lib.hid hsnj
              have HJL := Go.Lib.hid hjl
              have HRB := Go.Lib.hid hrb
              have HWB := Go.Lib.hid hWB
              have HFO := Go.Lib.hid hfo
              clear hrb hWB hfo
              clear hcell2 hsnj hrok
              go_wp2_with fail
              generalize wr.alloc (.cells #[.string (mk rn), .int .i64 rty, .int .i64 1, .int .i64 rttl, .string (mk rd)] 49) = X at *
              have hg := cell_of_heap HRB.out
              have hlX := (Array.getElem?_eq_some_iff.1 HRB.out).1
              have hbX := Nat.lt_of_lt_of_le hbw4 HWB.out.size
              have R0 := BelowC.cell (W := X) (show X.cell? ⟨wr.heap.size, 0, none⟩ = some (.string (mk rn)) from hg 0) hlX
              have R1 := BelowC.cell (W := X) (show X.cell? ⟨wr.heap.size, 1, none⟩ = some (.int .i64 rty) from hg 1) hlX
              have R2 := BelowC.cell (W := X) (show X.cell? ⟨wr.heap.size, 2, none⟩ = some (.int .i64 1) from hg 2) hlX
              have D0 := BelowC.cell (W := X) ((HWB.out.cell (p := ⟨b, off + k * 3, none⟩) hbw4).trans d0) hbX
              have D1 := BelowC.cell (W := X) ((HWB.out.cell (p := ⟨b, off + k * 3 + 1, none⟩) hbw4).trans d1) hbX
              have D2 := BelowC.cell (W := X) ((HWB.out.cell (p := ⟨b, off + k * 3 + 2, none⟩) hbw4).trans d2) hbX
              have hnn : Nonempty (Subtype (Below X.heap.size X)) := ⟨⟨X, Below.refl _ _⟩⟩
              have HBC := Go.Lib.hid (show Below X.heap.size X X.drew from (Below.refl X.heap.size X).drew)
              have hbq2 := hbq.trans (HWB.out.mono hbq.size)
              have HBQ := Go.Lib.hid hbq2
              clear hbq2
              clear hg d0 d1 d2 f0 f1 f2 f3 f4 hbq HRB HWB
              refine Go.Mix.wp_region_mix (Es := [17]) (Below X.heap.size X) mixed (by kernel_rfl) (Below.refl _ _).drew (fun _ => ?_)
              iterate 17 (refine Go.Mix.mix_step rfl (fun K hK => ?_); have HKK := Go.Lib.hid hK; clear hK; go_simp; refine HKK.out _ _ ?_; clear HKK K)
              refine Go.Mix.mix_eff rfl (fun K hK => ?_)
              have HKK := Go.Lib.hid hK
              clear hK
              go_simp
              refine (HFO.out _).mono ?_; rintro e wb4 ⟨rfl, hx⟩
              have hb := HBC.out.trans (hx.mono HBC.out.size)
              clear HBC
              have HBC := Go.Lib.hid hb
              clear hx hb
              go_simp
              refine HKK.out _ _ HBC.out ?_
              clear HKK K
              iterate 8 (refine Go.Mix.mix_step rfl (fun K hK => ?_); have HKK := Go.Lib.hid hK; clear hK; go_simp; refine HKK.out _ _ ?_; clear HKK K)
              refine Go.Mix.mix_nil ?_
              have hbn := HBQ.out.trans (HBC.out.mono HBQ.out.size)
              have HBN := Go.Lib.hid hbn
              clear hbn
              go_wp2_with fail
              go_roundw
              case rel => exact ⟨jn + 1, sn + 1, by go_num, HJL.out, by go_num, by have := HSNJ.out; omega, HBN.out⟩
              case measure => have := HJL.out; simp [intOf]; omega
            · obtain rfl : nl = jn := by omega
              have hb6 := HBX.out.trans (hbq.mono HBX.out.size)
              have HSNJ := Go.Lib.hid hsnj
              have HLT := Go.Lib.hid hlt
              have HB6 := Go.Lib.hid hb6
              clear hb6
              clear hbq HBX hsnj
              go_wp2_with fail
              go_roundw
              case rel => exact ⟨k + 1, sn, by go_num, HLT.out, rfl, by rw [HSN.out]; exact HSNJ.out, HB6.out⟩
              case measure => have := HLT.out; simp [intOf]; omega
    · obtain rfl : N = k := by omega
      have hb5 := HB2.out.trans (HB.out.mono HB2.out.size)
      have hgv5 := HGV.out.below HB.out (Nat.le_refl _)
      have hsS : s = S := by rw [hs, ← HGN.out, List.take_length, HSG.out]
      subst hsS
      have hst5 := HST.out.below hb5 (Nat.le_refl _)
      have HB5 := Go.Lib.hid hb5
      have HGV5 := Go.Lib.hid hgv5
      have HST5 := Go.Lib.hid hst5
      clear hb5 hgv5 hst5
      clear hs HB HGV HB2 hk hlt HST
      go_wp2_with fail
      go_loopw [11, 12] (fun u i wq => ∃ k1 u1 : Nat, i = .int .i64 k1 ∧ k1 ≤ M ∧ u = .int .i64 u1 ∧ u1 = sumG (groupsN (l.take k1)) ∧ Below w3.heap.size w3 wq) (fun _ i _ => M - (intOf i).toNat)
      case atStart => exact ⟨0, 0, rfl, by omega, rfl, rfl, Below.refl _ _⟩
      case round =>
        obtain ⟨k1, u1, rfl, hk, rfl, hu, hbr⟩ := hrel
        generalize wr = w6 at *
        by_cases hlt : k1 < M
        · obtain ⟨b, off, rfl, hbw, hcell⟩ := RRs.at (HST5.out.below hbr (Nat.le_refl _)) (by rw [HLM.out]; omega)
          obtain ⟨f0, f1, f2, f3, f4⟩ := hcell k1 (by rw [HLM.out]; exact hlt)
          obtain ⟨hsn, hmem⟩ := rr_step HLM.out hlt
          have hrok := HOK.out _ hmem
          have hnx := sumG_next (l.take k1) (l.getD k1 r0)
          have hul := sumG_le (l.take k1)
          rw [List.length_take] at hul
          rw [← hsn, ← hu] at hnx
          rw [← hu] at hul
          have hu4 : u1 ≤ 100000 := by omega
          obtain ⟨r, hr⟩ : ∃ r, l.getD k1 r0 = r := ⟨_, rfl⟩
          rw [hr] at f0 f1 f2 f3 f4 hrok hnx
          have HLT := Go.Lib.hid hlt
          have HB := Go.Lib.hid hbr
          have HCELL := Go.Lib.hid hcell
          have HU := Go.Lib.hid hu
          have HNX := Go.Lib.hid hnx
          have HRK := Go.Lib.hid hr
          have HROK := Go.Lib.hid hrok
          clear hbr hcell hu hnx hr hrok
          clear hsn hmem hul
          obtain ⟨rn, rty, rcl, rttl, rd⟩ := r
          simp only at f0 f1 f2 f3 f4
          go_wp2_with fail
          go_loopw [13, 14] (fun m j wq => ∃ (jn : Nat) (mb : Bool), j = .int .i64 jn ∧ jn ≤ k1 ∧ m = .bool mb ∧ mb = metN (l.take jn) ⟨rn, rty, rcl, rttl, rd⟩ ∧ Below w6.heap.size w6 wq) (fun _ j _ => k1 - (intOf j).toNat)
          case atStart => exact ⟨0, (rcl != 1), rfl, by omega, by first | rfl | simp, by simp [metN], Below.refl _ _⟩
          case round =>
            obtain ⟨jn, mb, rfl, hjn, rfl, hmb, hbq⟩ := hrel
            have HBN := Go.Lib.hid (HB.out.trans (hbq.mono HB.out.size))
            by_cases hjl : jn < k1
            · obtain ⟨g0', g1', g2', g3', g4'⟩ := HCELL.out jn (by rw [HLM.out]; omega)
              obtain ⟨hsn, hmem⟩ := rr_step HLM.out (show jn < M by omega)
              have hxok := HOK.out _ hmem
              have hms := metN_snoc (l.take jn) (l.getD jn r0) ⟨rn, rty, rcl, rttl, rd⟩
              rw [← hsn, ← hmb] at hms
              generalize l.getD jn r0 = x at *
              obtain ⟨xn, xty, xcl, xttl, xd⟩ := x
              simp only at g0' g1' g2' g3' g4'
              have hbw2 := Nat.lt_of_lt_of_le hbw hbq.size
              have X0 := BelowC.cell (W := wr) ((hbq.cell (p := ⟨b, off + jn * 5, none⟩) hbw).trans g0') hbw2
              have X1 := BelowC.cell (W := wr) ((hbq.cell (p := ⟨b, off + jn * 5 + 1, none⟩) hbw).trans g1') hbw2
              have X2 := BelowC.cell (W := wr) ((hbq.cell (p := ⟨b, off + jn * 5 + 2, none⟩) hbw).trans g2') hbw2
              have X3 := BelowC.cell (W := wr) ((hbq.cell (p := ⟨b, off + jn * 5 + 3, none⟩) hbw).trans g3') hbw2
              have X4 := BelowC.cell (W := wr) ((hbq.cell (p := ⟨b, off + jn * 5 + 4, none⟩) hbw).trans g4') hbw2
              have R0 := BelowC.cell (W := wr) ((hbq.cell (p := ⟨b, off + k1 * 5, none⟩) hbw).trans f0) hbw2
              have R1 := BelowC.cell (W := wr) ((hbq.cell (p := ⟨b, off + k1 * 5 + 1, none⟩) hbw).trans f1) hbw2
              have R2 := BelowC.cell (W := wr) ((hbq.cell (p := ⟨b, off + k1 * 5 + 2, none⟩) hbw).trans f2) hbw2
              have R3 := BelowC.cell (W := wr) ((hbq.cell (p := ⟨b, off + k1 * 5 + 3, none⟩) hbw).trans f3) hbw2
              have R4 := BelowC.cell (W := wr) ((hbq.cell (p := ⟨b, off + k1 * 5 + 4, none⟩) hbw).trans f4) hbw2
              have hnn : Nonempty (Subtype (Below wr.heap.size wr)) := ⟨⟨wr, Below.refl _ _⟩⟩
              have HBC := Go.Lib.hid (show Below wr.heap.size wr wr.drew from (Below.refl wr.heap.size wr).drew)
              have hsm := fun (W : World) => refSameRR_any ⟨xn, xty, xcl, xttl, xd⟩ ⟨rn, rty, rcl, rttl, rd⟩ W hxok HROK.out
              have HJL := Go.Lib.hid hjl
              have hjM : jn < M := by omega
              have HBQ := Go.Lib.hid hbq
              have HSM := Go.Lib.hid hsm
              have HMS := Go.Lib.hid hms
              clear hbq hsm hms
              clear f0 f1 f2 f3 f4 g0' g1' g2' g3' g4' hsn hmem hmb hxok
              cases mb with
              | true =>
                go_wp2_with fail
                refine Go.Mix.wp_region_mix (Es := [10]) (Below wr.heap.size wr) mixed (by kernel_rfl) (Below.refl _ _).drew (fun _ => ?_)
                iterate 10 (refine Go.Mix.mix_step rfl (fun K hK => ?_); have HKK := Go.Lib.hid hK; clear hK; go_simp; refine HKK.out _ _ ?_; clear HKK K)
                refine Go.Mix.mix_eff rfl (fun K hK => ?_)
                have HKK := Go.Lib.hid hK
                clear hK
                go_simp
                refine HKK.out _ _ HBC.out ?_
                clear HKK K
                iterate 2 (refine Go.Mix.mix_step rfl (fun K hK => ?_); have HKK := Go.Lib.hid hK; clear hK; go_simp; refine HKK.out _ _ ?_; clear HKK K)
                refine Go.Mix.mix_nil ?_
                have hbn := HBQ.out.trans (HBC.out.mono HBQ.out.size)
                have HBNN := Go.Lib.hid hbn
                clear hbn
                go_wp2_with fail
                go_roundw
                case rel => exact ⟨jn + 1, true, by go_num, HJL.out, rfl, by rw [HMS.out]; rfl, HBNN.out⟩
                case measure => have := HJL.out; simp [intOf]; omega
              | false =>
                go_wp2_with fail
                refine Go.Mix.wp_region_mix (Es := [10]) (Below wr.heap.size wr) mixed (by kernel_rfl) (Below.refl _ _).drew (fun _ => ?_)
                iterate 10 (refine Go.Mix.mix_step rfl (fun K hK => ?_); have HKK := Go.Lib.hid hK; clear hK; go_simp; refine HKK.out _ _ ?_; clear HKK K)
                refine Go.Mix.mix_eff rfl (fun K hK => ?_)
                have HKK := Go.Lib.hid hK
                clear hK
                go_simp
                refine (HSM.out _).mono ?_; rintro e wb5 ⟨rfl, hx⟩
                have hb := HBC.out.trans (hx.mono HBC.out.size)
                clear HBC
                have HBC := Go.Lib.hid hb
                clear hx hb
                go_simp
                refine HKK.out _ _ HBC.out ?_
                clear HKK K
                iterate 2 (refine Go.Mix.mix_step rfl (fun K hK => ?_); have HKK := Go.Lib.hid hK; clear hK; go_simp; refine HKK.out _ _ ?_; clear HKK K)
                refine Go.Mix.mix_nil ?_
                have hbn := HBQ.out.trans (HBC.out.mono HBQ.out.size)
                have HBNN := Go.Lib.hid hbn
                clear hbn
                go_wp2_with fail
                go_roundw
                case rel => exact ⟨jn + 1, _, by go_num, HJL.out, rfl, by rw [HMS.out]; rfl, HBNN.out⟩
                case measure => have := HJL.out; simp [intOf]; omega
            · obtain rfl : k1 = jn := by omega
              have hnx := HNX.out
              rw [← hmb] at hnx
              have HNX2 := Go.Lib.hid hnx
              clear hnx
              clear hmb hbq f0 f1 f2 f3 f4
              cases mb with
              | true =>
                go_wp2_with fail
                go_roundw
                case rel => exact ⟨k1 + 1, u1, by go_num, HLT.out, rfl, by rw [HNX2.out]; rfl, HBN.out⟩
                case measure => have := HLT.out; simp [intOf]; omega
              | false =>
                go_wp2_with fail
                go_roundw
                case rel => exact ⟨k1 + 1, u1 + 1, by go_num, HLT.out, by go_num, by rw [HNX2.out]; rfl, HBN.out⟩
                case measure => have := HLT.out; simp [intOf]; omega
        · obtain rfl : M = k1 := by omega
          have huS : u1 = s := by rw [hu, ← HLM.out, List.take_length, HGS.out, HSG.out]
          subst huS
          have hb7 := HB5.out.trans (hbr.mono HB5.out.size)
          have hgv7 := HGV5.out.below hbr (Nat.le_refl _)
          have hr0 : 0 ≤ stop % ((N : Int) + 1) := Int.emod_nonneg _ (by omega)
          have hr1 : stop % ((N : Int) + 1) < (N : Int) + 1 := Int.emod_lt_of_pos _ (by omega)
          have hrn := HRN.out
          generalize stop % ((N : Int) + 1) = qi at *
          obtain ⟨q, rfl⟩ : ∃ q : Nat, qi = q := ⟨qi.toNat, by omega⟩
          have hqN : q ≤ N := by omega
          have hnn : Nonempty (Subtype (Below w6.heap.size w6)) := ⟨⟨w6, Below.refl _ _⟩⟩
          have HBC := Go.Lib.hid (show Below w6.heap.size w6 w6.drew from (Below.refl w6.heap.size w6).drew)
          have HB7 := Go.Lib.hid hb7
          have HGV7 := Go.Lib.hid hgv7
          have HRN2 := Go.Lib.hid hrn
          clear hb7 hgv7 hrn
          clear hu HST5 HGV5 HB5 hr0 hr1 hk hlt HRN hbr
          go_wp2_with fail
          refine (HRN2.out _).mono ?_; rintro e _ ⟨rfl, rfl⟩
          by_cases hq0 : q = 0
          · subst hq0
            go_wp2_with fail
            refine Go.Mix.wp_region_mix (Es := [9, 13, 17]) (Below w6.heap.size w6) mixed (by kernel_rfl) (Below.refl _ _).drew (fun _ => ?_)
            iterate 9 (refine Go.Mix.mix_step rfl (fun K hK => ?_); have HKK := Go.Lib.hid hK; clear hK; go_simp; refine HKK.out _ _ ?_; clear HKK K)
            refine Go.Mix.mix_eff rfl (fun K hK => ?_)
            have HKK := Go.Lib.hid hK
            clear hK
            go_simp
            refine HKK.out _ _ HBC.out ?_
            clear HKK K
            iterate 3 (refine Go.Mix.mix_step rfl (fun K hK => ?_); have HKK := Go.Lib.hid hK; clear hK; go_simp; refine HKK.out _ _ ?_; clear HKK K)
            refine Go.Mix.mix_eff rfl (fun K hK => ?_)
            have HKK := Go.Lib.hid hK
            clear hK
            go_simp
            refine HKK.out _ _ HBC.out ?_
            clear HKK K
            iterate 3 (refine Go.Mix.mix_step rfl (fun K hK => ?_); have HKK := Go.Lib.hid hK; clear hK; go_simp; refine HKK.out _ _ ?_; clear HKK K)
            refine Go.Mix.mix_eff rfl (fun K hK => ?_)
            have HKK := Go.Lib.hid hK
            clear hK
            go_simp
            refine (HAW.out _).mono ?_; rintro e wb6 ⟨rfl, hx⟩
            have hb := HBC.out.trans (hx.mono HBC.out.size)
            clear HBC
            have HBC := Go.Lib.hid hb
            clear hx hb
            go_simp
            refine HKK.out _ _ HBC.out ?_
            clear HKK K
            iterate 2 (refine Go.Mix.mix_step rfl (fun K hK => ?_); have HKK := Go.Lib.hid hK; clear hK; go_simp; refine HKK.out _ _ ?_; clear HKK K)
            refine Go.Mix.mix_nil ?_
            have hbn := HB7.out.trans (HBC.out.mono HB7.out.size)
            have HBNN := Go.Lib.hid hbn
            clear hbn
            go_wp2_with fail
            go_ret
            exact ⟨rfl, HBNN.out⟩
          · have q1 : ¬ (q : Int) = 0 := by omega
            have q2 : ((q : Int) == 0) = false := beq_eq_false_iff_ne.2 q1
            have hqg : q ≤ gc := by omega
            have hwk : walkG (q : Int) gs = gs.take q := by
              unfold walkG
              rw [if_pos ⟨by omega, by rw [HGN.out]; omega⟩]
              simp
            have hlen : (gs.take q).length = q := by rw [List.length_take, HGN.out]; omega
            have hgr := fun (W : World) (h : Below w6.heap.size w6 W) => HGR.out W (q : Int) (HB7.out.trans (h.mono HB7.out.size))
            rw [hwk] at hgr
            have hgt := GrpV.take HGV7.out (q := q) (by rw [HGN.out]; exact hqN) (by omega)
            have HGRQ := Go.Lib.hid hgr
            have HGT := Go.Lib.hid hgt
            have HLEN := Go.Lib.hid hlen
            clear hgr hgt hlen
            clear hwk
            go_wp2_with fail
            refine Go.Mix.wp_region_mix (Es := [9, 13, 17]) (Below w6.heap.size w6) mixed (by kernel_rfl) (Below.refl _ _).drew (fun _ => ?_)
            iterate 9 (refine Go.Mix.mix_step rfl (fun K hK => ?_); have HKK := Go.Lib.hid hK; clear hK; go_simp; refine HKK.out _ _ ?_; clear HKK K)
            refine Go.Mix.mix_eff rfl (fun K hK => ?_)
            have HKK := Go.Lib.hid hK
            clear hK
            go_simp
            refine (HGRQ.out _ HBC.out).mono ?_; rintro e wn ⟨v1, rfl, hgv, hx⟩
            have hb := HBC.out.trans (hx.mono HBC.out.size)
            obtain ⟨ga1, gc1, hv1, _, _⟩ := hgv.slice
            rw [HLEN.out] at hv1
            subst hv1
            have HG1 := Go.Lib.hid hgv
            clear HBC hgv
            have HBC := Go.Lib.hid hb
            clear hx hb
            go_simp
            refine HKK.out _ _ HBC.out ?_
            clear HKK K
            iterate 3 (refine Go.Mix.mix_step rfl (fun K hK => ?_); have HKK := Go.Lib.hid hK; clear hK; go_simp; refine HKK.out _ _ ?_; clear HKK K)
            have hsame := fun W (h1 : GrpV W (.slice ga1 q gc1) (gs.take q)) (h2 : GrpV W (.slice ga q gc) (gs.take q)) => (by have h := lawSame_same (gs.take q) ga1 ga gc1 gc W (by rw [HLEN.out]; exact h1) (by rw [HLEN.out]; exact h2); rw [HLEN.out] at h; exact h : Calls Try.prog 20 #[.slice ga1 q gc1, .slice ga q gc] W fun e w' => e = .returned (.bool true) ∧ Below W.heap.size W w')
            have hfin := hsame _ HG1.out (HGT.out.below HBC.out (Nat.le_refl _))
            have HFIN := Go.Lib.hid hfin
            clear hfin
            clear hsame
            refine Go.Mix.mix_eff rfl (fun K hK => ?_)
            have HKK := Go.Lib.hid hK
            clear hK
            go_simp
            refine (HFIN.out).mono ?_; rintro e wb7 ⟨rfl, hx⟩
            have hb := HBC.out.trans (hx.mono HBC.out.size)
            clear HBC
            have HBC := Go.Lib.hid hb
            clear hx hb
            go_simp
            refine HKK.out _ _ HBC.out ?_
            clear HKK K
            iterate 3 (refine Go.Mix.mix_step rfl (fun K hK => ?_); have HKK := Go.Lib.hid hK; clear hK; go_simp; refine HKK.out _ _ ?_; clear HKK K)
            refine Go.Mix.mix_eff rfl (fun K hK => ?_)
            have HKK := Go.Lib.hid hK
            clear hK
            go_simp
            refine (HAW.out _).mono ?_; rintro e wb8 ⟨rfl, hx⟩
            have hb := HBC.out.trans (hx.mono HBC.out.size)
            clear HBC
            have HBC := Go.Lib.hid hb
            clear hx hb
            go_simp
            refine HKK.out _ _ HBC.out ?_
            clear HKK K
            iterate 2 (refine Go.Mix.mix_step rfl (fun K hK => ?_); have HKK := Go.Lib.hid hK; clear hK; go_simp; refine HKK.out _ _ ?_; clear HKK K)
            refine Go.Mix.mix_nil ?_
            have hbn := HB7.out.trans (HBC.out.mono HB7.out.size)
            have HBNN := Go.Lib.hid hbn
            clear hbn
            go_wp2_with fail
            go_ret
            exact ⟨rfl, HBNN.out⟩

theorem walk (la : Option Addr) (l : List Rc.RR) (lc : Nat) (stop : Int) (w : World) (hl : RRs w (.slice la l.length lc) l) (hlf : ∀ r ∈ l, RRFit r) (hs : Fits stop) :
    Calls Try.prog 5 #[.slice la l.length lc, .int .i64 stop] w fun e w' => e = .returned (.bool true) ∧ Below w.heap.size w w' := by
  have hrok : ∀ r ∈ l, RROk r := fun r hr => (hlf r hr).1
  have haw := Go.Lib.hid awake5_any
  have hrc := fun (b : Bool) (hb : recordsB l 3000 = b) => Go.Lib.hid (hb ▸ Records_any l la lc 3000 w hl (by decide) hrok)
  cases hb : recordsB l 3000 with
  | false => exact t1 stop la l.length lc w haw (hrc _ hb)
  | true =>
    have hll : l.length ≤ 100000 := by have := (recordsB_true hb).1; omega
    have hgl := groupsN_length l
    exact t2 stop la lc l l.length (groupsN l).length (sumG (groupsN l)) (groupsN l) w hl rfl hll hrok rfl (groupsN_apart l) (groupsN_facts l hrok) rfl (sumG_le l) hgl rfl haw (hrc _ hb)
      (Go.Lib.hid fun W q h => lawGroups_any la lc l q W (SlC.below hl h (Nat.le_refl _)) (by omega) hrok)
      (Go.Lib.hid fun W => Round_any stop _ W (by omega) (by omega))

set_option maxRecDepth 100000 in
theorem lifted (os : Os) (started : os.Started) (H : Type) (enc : TypeId × Value → H) :
    ReturnsInHanded {} Try.checked os 5 .any (Rows.matchSetsSpec.pre6 enc Try.prog Try.f5 Rows.matchSetsRow.domain false) (Rows.matchSetsSpec.post enc Try.prog Try.f5 false true false false) := by
  refine returnsInHanded_of_change (C := Try.checked) own started (by kernel_rfl) Try.func5
    (ChangeSpec.witness6 (enc := enc) (C := Try.checked) false ⟨#[], #[.slice none 0 0, .int .i64 0], []⟩ 8 (by kernel_rfl) (by kernel_rfl) (by kernel_rfl) (by kernel_rfl)) ?_
  intro W base args ds gs before hval0 hW hcnd _
  have hval : ∀ (j : Nat) t v, Try.f5.params[j]? = some t → args[j]? = some v → Value.okWide Try.prog W .any base t v := hval0
  refine law_post enc 2 (by kernel_rfl) rfl rfl (by kernel_rfl) (fun ds h => match ds, h with | [_, _], _ => rfl) hW ?_
  obtain ⟨p, q, hA0, hV, rfl, _, _⟩ := hW
  have hA : DataW.TrodAll enc Try.prog W 0 (fun _ => true) true Try.f5.params.toList args.toList ds p := hA0
  rw [Try.params5] at hA hval
  obtain ⟨v0, vs0, d0, ds0, p0, q0, hargs, rfl, rfl, h0, r0⟩ := trodAll_cons hA
  obtain ⟨v1, vs1, d1, ds1, p1, q1, rfl, rfl, rfl, h1, r1⟩ := trodAll_cons r0
  obtain ⟨rfl, rfl, rfl⟩ := trodAll_nil r1
  obtain rfl : args = #[v0, v1] := by cases args; simp_all
  obtain ⟨a0, z0, c0, rfl, l0, w0⟩ := open_RRs (hval 0 25 v0 rfl rfl) h0
  obtain ⟨a1, rfl, rfl, rfl, w1⟩ := open_int Try.underlying3 (hval 1 3 v1 rfl rfl) h1
  exact walk a0 z0 c0 a1 W l0 w0 (fits_of_wf w1)

theorem over : Rows.matchSetsRow.holds Try.pinned (OpenSpec.ofChange Rows.matchSetsSpec) :=
  OpenClaim.holds_of_wide 5 Try.f5 rfl rfl rfl rfl rfl rfl rfl ⟨rfl, rfl, rfl, rfl, rfl⟩ rfl rfl rfl rfl rfl (by kernel_rfl) Try.func5 (by kernel_rfl)
    (of_decide_eq_true (by kernel_rfl)) (by unfold Func.isWrapper; first | (rw [if_pos (by decide +kernel)]; kernel_rfl) | (rw [if_neg (by decide +kernel)]; exact ⟨rfl, rfl⟩))
    (fun os started H enc _ => lifted os started H enc)

/-- the statement -/
theorem proved : Rows.MatchSetsSaid := over
#print axioms proved
end Go.Proofs.Ytcamopppeanipaa.matchSets

