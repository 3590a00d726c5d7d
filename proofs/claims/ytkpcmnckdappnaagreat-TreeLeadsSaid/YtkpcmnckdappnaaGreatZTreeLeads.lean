/- TreeLeads: from the root on each referral leads to a zone that is closer to the name, until one answers; what it answers is what is true there. For every input; no conditions. -/
import Derived.Test.YtkpcmnckdappnaaGreatG9
import Derived.Test.YtkpcmnckdappnaaGreatG11
namespace Go.Proofs.YtkpcmnckdappnaaGreat.treeLeads
open Go.ChangeShapes Go.WideShapes Go.ChangeAt Go.RowKit Go.Sort Go.Lib
open Go.ChangeMaps (open_string shut_string)
set_option maxRecDepth 100000
set_option linter.unusedVariables false
set_option linter.unusedSimpArgs false

theorem rUnd (a b : List UInt8) (w : World) (ha : a.length ≤ maxLen) (hb : b.length ≤ maxLen) : Calls Tryz.prog 15 #[.string (mk a), .string (mk b)] w fun e w' => e = .returned (.bool (Nm.underN a b)) ∧ Below w.heap.size w w' := by
  have h := refUnder_any (mk a) (mk b) w (by rw [size_mk]; exact ha) (by rw [size_mk]; exact hb)
  simp only [bl_mk] at h
  exact h
theorem rSam (a b : List UInt8) (w : World) (ha : a.length ≤ maxLen) (hb : b.length ≤ maxLen) : Calls Tryz.prog 16 #[.string (mk a), .string (mk b)] w fun e w' => e = .returned (.bool (Nm.sameN a b)) ∧ Below w.heap.size w w' := by
  have h := refSame_any (mk a) (mk b) w (by rw [size_mk]; exact ha) (by rw [size_mk]; exact hb)
  simp only [bl_mk] at h
  exact h
theorem rFol (a : List UInt8) (w : World) (ha : a.length ≤ maxLen) : Calls Tryz.prog 17 #[.string (mk a)] w fun e w' => e = .returned (.string (mk (Nm.foldN a))) ∧ Below w.heap.size w w' := by
  have h := refFold_any (mk a) w (by rw [size_mk]; exact ha)
  simp only [bl_mk] at h
  exact h
set_option maxHeartbeats 64000000 in
theorem walk (k q : Int) (w : World) (hk : Fits k) (hq : Fits q) : Calls Tryz.prog 3 #[.int .i64 k, .int .i64 q] w fun e w' => e = .returned (.bool true) ∧ Below w.heap.size w w' := by
  have mixed : Tryz.prog.follows .mixedOrders = true := by kernel_rfl
  unfold Fits at hq
  have haw := fun W => awake_any W
  have hask := fun W => asked_any q W (by omega) (by omega)
  have hzo := zones_any k w
  have hkk : (k % 4).toNat < 4 := by have := Int.emod_lt_of_pos k (show (0 : Int) < 4 by decide); have := Int.emod_nonneg k (show (4 : Int) ≠ 0 by decide); omega
  generalize (k % 4).toNat = kk at *
  obtain ⟨jj, hjj, hqn⟩ : ∃ jj, jj < 12 ∧ (askQ q).name = askN12.getD jj [] := ⟨(q % 12).toNat, by have := Int.emod_lt_of_pos q (show (0 : Int) < 12 by decide); have := Int.emod_nonneg q (show (12 : Int) ≠ 0 by decide); omega, rfl⟩
  obtain ⟨tt, htt, hqt⟩ : ∃ tt, tt < 9 ∧ (askQ q).ty = askT9.getD tt 0 := ⟨((q.tdiv 12) % 9).toNat, by have := Int.emod_lt_of_pos (q.tdiv 12) (show (0 : Int) < 9 by decide); have := Int.emod_nonneg (q.tdiv 12) (show (9 : Int) ≠ 0 by decide); omega, rfl⟩
  have hgd := leads_all kk hkk jj hjj tt htt
  rw [← hqn, ← hqt] at hgd
  have hnl : (askQ q).name.length ≤ 1000 := by
    rw [hqn]
    have : ∀ j, j < 12 → (askN12.getD j []).length ≤ 1000 := by decide
    exact this jj hjj
  clear hqn hjj hqt htt hq
  generalize askQ q = Q at *
  obtain ⟨qn, qt, qc⟩ := Q
  simp only at hgd hnl hask
  have hnM : qn.length ≤ maxLen := by unfold maxLen; omega
  have hnz := fun B g z0 z1 z2 z3 W => New_Z4 kk hkk B g z0 z1 z2 z3 W
  clear hkk hnl
  have HAW := Go.Lib.hid haw
  have HASK := Go.Lib.hid hask
  have HZO := Go.Lib.hid hzo
  have HNZ := Go.Lib.hid hnz
  have HGD := Go.Lib.hid hgd
  clear haw hask hzo hnz hgd
  go_enter Tryz.func3, Tryz.ntmps3
  go_wp2_with fail
  refine HZO.out.mono ?_; rintro e W1 ⟨g, y0, y1, y2, y3, rfl, hp, hz4, _, _, _, hb1⟩
  have hnz := HNZ.out _ g y0 y1 y2 y3 W1 hz4 hp
  clear hz4 hp
  have HNZ1 := Go.Lib.hid hnz
  have HB1 := Go.Lib.hid hb1
  clear hnz hb1
  go_wp2_with fail
  refine HNZ1.out.mono ?_; rintro e W2 ⟨hb2, tb, T2, rfl, hT2, ht⟩
  have hb2' := HB1.out.trans (hb2.mono HB1.out.size)
  clear hb2
  have HB2 := Go.Lib.hid hb2'
  have HT2 := Go.Lib.hid hT2
  have HTR2 := Go.Lib.hid ht
  clear hb2' hT2 ht
  go_wp2_with fail
  refine (HASK.out W2).mono ?_; rintro e W3 ⟨rfl, hx3⟩
  obtain ⟨X, hX⟩ : ∃ X, W3.alloc (.cells #[.string (mk qn), .int .i64 qt, .int .i64 qc] 29) = X := ⟨_, rfl⟩
  have gX : X.heap[W3.heap.size]? = some (.cells #[.string (mk qn), .int .i64 qt, .int .i64 qc] 29 (0, 0)) := by rw [← hX]; exact World.alloc_heap_new _ _
  have hbX : Below W2.heap.size W2 X := hx3.trans (by rw [← hX]; exact (Below.refl _ W3).alloc hx3.size _)
  have htX := HTR2.out.below hbX
  have hbwX := HB2.out.trans (hbX.mono HB2.out.size)
  clear hx3 hbX HTR2 HB1 HB2 HNZ HNZ1 HZO HASK
  have GX := Go.Lib.hid gX
  have HTX := Go.Lib.hid htX
  have HBX := Go.Lib.hid hbwX
  clear gX htX hbwX
  go_wp2_with fail
  clear hX
  go_loopw [8, 9] (fun v8 v9 wr => ∃ (i : Nat) (zone : List UInt8), v9 = .int .i64 i ∧ i ≤ 6 ∧ v8 = .string (mk zone) ∧ zone.length ≤ maxLen ∧ goodG (zonesZ kk) qn qt (6 - i) zone = true ∧ Below X.heap.size X wr) (fun _ v9 _ => 6 - (intOf v9).toNat)
  case atStart => exact ⟨0, [0], rfl, by decide, rfl, by decide, HGD.out, Below.refl _ _⟩
  case round =>
    obtain ⟨i, zone, rfl, hi6, rfl, hzl, hgo, hbr⟩ := hrel
    clear HGD
    by_cases hi : i < 6
    · obtain ⟨f, hf⟩ : ∃ f, 6 - i = f + 1 := ⟨6 - i - 1, by omega⟩
      rw [hf] at hgo
      have hi2 : (i : Int) < 6 := by omega
      have w1 : IntKind.i64.wrap ((i : Int) + 1) = (i : Int) + 1 := wrapi (by omega) (by omega)
      have htr := HTX.out.below hbr
      have gr := heap_later hbr GX.out
      have k0 : wr.cell? ⟨W3.heap.size, 0, none⟩ = some (.string (mk qn)) := row_cell gr 0 _ rfl
      have k1 : wr.cell? ⟨W3.heap.size, 1, none⟩ = some (.int .i64 qt) := row_cell gr 1 _ rfl
      have k2 : wr.cell? ⟨W3.heap.size, 2, none⟩ = some (.int .i64 qc) := row_cell gr 2 _ rfl
      have hse := Serve_any tb T2 zone ⟨qn, qt, qc⟩ wr htr.t hzl hnM
      rw [HT2.out] at hse
      simp only at hse
      have hga := goodG_auth (T := zonesZ kk) (n := qn) (t := qt) (f := f) (zone := zone) hgo
      have hgr := goodG_ref (T := zonesZ kk) (n := qn) (t := qt) (f := f) (zone := zone) hgo
      generalize serveP (zonesZ kk) zone qn qt = S at *
      obtain ⟨sc, sa, san, ssv, sad⟩ := S
      simp only at hga hgr
      clear hgo gr
      have HBR := Go.Lib.hid hbr
      have HTR := Go.Lib.hid htr
      have HSE := Go.Lib.hid hse
      have HGA := Go.Lib.hid hga
      have HGR := Go.Lib.hid hgr
      have HFF := Go.Lib.hid hf
      clear hbr htr hse hga hgr hf
      go_wp2_with fail
      refine HSE.out.mono ?_; rintro e W6 ⟨qq, aa, ss, dd, rfl, hm, hx⟩
      have hq : SlT W6 29 3 qq 1 (encQn [⟨qn, qt, qc⟩]) := hm.qs
      have ha : SlT W6 43 5 aa san.length (encR san) := hm.an
      have hs : SlT W6 43 5 ss ssv.length (encR ssv) := hm.sv
      have hd : SlT W6 43 5 dd sad.length (encR sad) := hm.ad
      obtain ⟨aq, cq, rfl, _, _⟩ := hq.1.slice
      obtain ⟨an, cn, rfl, _, _⟩ := ha.1.slice
      obtain ⟨asl, cs, rfl, _, _⟩ := hs.1.slice
      obtain ⟨ad, cd, rfl, _, _⟩ := hd.1.slice
      have hb6 := HBR.out.trans (hx.mono HBR.out.size)
      have ht6 := HTR.out.below hx
      have hMV : MV (sayN ⟨qn, qt, qc⟩ ⟨sc, sa, san, ssv, sad⟩) (.slice aq 1 cq) (.slice an san.length cn) (.slice asl ssv.length cs) (.slice ad sad.length cd) = .agg (sayC sa sc (.slice aq 1 cq) (.slice an san.length cn) (.slice asl ssv.length cs) (.slice ad sad.length cd)) := rfl
      rw [hMV]
      obtain ⟨Y, hY⟩ : ∃ Y, W6.alloc (.cells (sayC sa sc (.slice aq 1 cq) (.slice an san.length cn) (.slice asl ssv.length cs) (.slice ad sad.length cd)) 34) = Y := ⟨_, rfl⟩
      have gY : Y.heap[W6.heap.size]? = some (.cells (sayC sa sc (.slice aq 1 cq) (.slice an san.length cn) (.slice asl ssv.length cs) (.slice ad sad.length cd)) 34 (0, 0)) := by rw [← hY]; exact World.alloc_heap_new _ _
      have hbY : Below W6.heap.size W6 Y := by rw [← hY]; exact (Below.refl _ W6).alloc (Nat.le_refl _) _
      have hone : (sayC sa sc (.slice aq 1 cq) (.slice an san.length cn) (.slice asl ssv.length cs) (.slice ad sad.length cd)).all (·.oneCell') = true := by simp [Value.oneCell']
      have htY := ht6.below hbY
      have hbrY := hb6.trans (hbY.mono hb6.size)
      have haY : RRs Y (.slice an san.length cn) san := ha.1.below hbY (Nat.le_refl _)
      have hsY : RRs Y (.slice asl ssv.length cs) ssv := hs.1.below hbY (Nat.le_refl _)
      have g2 := heap_later hbrY GX.out
      have k0 : Y.cell? ⟨W3.heap.size, 0, none⟩ = some (.string (mk qn)) := row_cell g2 0 _ rfl
      have k1 : Y.cell? ⟨W3.heap.size, 1, none⟩ = some (.int .i64 qt) := row_cell g2 1 _ rfl
      have k2 : Y.cell? ⟨W3.heap.size, 2, none⟩ = some (.int .i64 qc) := row_cell g2 2 _ rfl
      have m3 : Y.cell? ⟨W6.heap.size, 3, none⟩ = some (.bool sa) := row_cell gY 3 _ rfl
      have hga := HGA.out
      have hgr := HGR.out
      clear hx hm hq ha hs hd hMV hb6 ht6 hbY g2 HBR HTR HGA HGR
      generalize hna : san.length = na at *
      generalize hns : ssv.length = ns at *
      generalize hnd : sad.length = nd at *
      have HONE := Go.Lib.hid hone
      have GY := Go.Lib.hid gY
      have HTY := Go.Lib.hid htY
      have HBY := Go.Lib.hid hbrY
      have HAY := Go.Lib.hid haY
      have HSY := Go.Lib.hid hsY
      have HNA := Go.Lib.hid hna
      have HNS := Go.Lib.hid hns
      clear hone gY htY hbrY haY hsY hna hns
      clear hnd
      cases sa with
      | true =>
        obtain ⟨hbe, hlo⟩ := hga rfl
        clear hga hgr
        have hlk := Lookup_any tb T2 ⟨qn, qt, qc⟩ Y HTY.out hnM
        rw [HT2.out] at hlk
        simp only at hlk
        generalize lookP (zonesZ kk) qn qt = L at *
        obtain ⟨lc, ll⟩ := L
        simp only at hlo hlk
        have HLK := Go.Lib.hid hlk
        have HBE := Go.Lib.hid hbe
        have HLO := Go.Lib.hid hlo
        clear hlk hbe hlo
        go_wp2_with (first | (refine wpList_store_row rfl 34 (.tmp 10) (.tmp 37) rfl W6.heap.size _ rfl rfl _ _ (World.alloc_heap_new _ _) infoMsg rfl HONE.out ?_; rw [World.setRow_alloc_new, hY]))
        clear hY
        refine HLK.out.mono ?_; rintro e W7 ⟨v7, rfl, hv7, hx⟩
        obtain ⟨al, cl, rfl, _, _⟩ := hv7.slice
        have ht7 := HTY.out.below hx
        have hb7 := HBY.out.trans (hx.mono HBY.out.size)
        have g7 := heap_later hx GY.out
        have ha7 := HAY.out.below hx (Nat.le_refl _)
        have k0 : W7.cell? ⟨W3.heap.size, 0, none⟩ = some (.string (mk qn)) := row_cell (heap_later hb7 GX.out) 0 _ rfl
        have hb := Best_any tb T2 qn W7 ht7 hnM
        rw [HT2.out, HBE.out] at hb
        simp only at hb
        clear hx k1 k2 m3 HTY HBY GY HAY HSY
        have HT7 := Go.Lib.hid ht7
        have HB7 := Go.Lib.hid hb7
        have G7 := Go.Lib.hid g7
        have HA7 := Go.Lib.hid ha7
        have HV7 := Go.Lib.hid hv7
        have HBB := Go.Lib.hid hb
        clear ht7 hb7 g7 ha7 hv7 hb
        go_wp2_with fail
        refine HBB.out.mono ?_; rintro e W8 ⟨rfl, hx⟩
        have hb8 := HB7.out.trans (hx.mono HB7.out.size)
        have hbw8 := HBX.out.trans (hb8.mono HBX.out.size)
        have g8 := heap_later hx G7.out
        have ha8 := HA7.out.below hx (Nat.le_refl _)
        have hv8 := HV7.out.below hx (Nat.le_refl _)
        have hbq : ((mk zone).toList != (mk zone).toList) = false := bne_mk_false rfl
        clear hx k0 HB7 G7 HA7 HV7
        have hlo := HLO.out
        clear HLO
        by_cases hc2 : lc = 2
        · subst hc2
          clear hlo
          have HB8 := Go.Lib.hid hb8
          have G8 := Go.Lib.hid g8
          have HA8 := Go.Lib.hid ha8
          have HV8 := Go.Lib.hid hv8
          have HBW8 := Go.Lib.hid hbw8
          clear hb8 g8 ha8 hv8 hbw8
          go_wp2_with fail
          refine (HAW.out _).mono ?_; rintro e W9 ⟨rfl, hx⟩
          have hbw9 := HBW8.out.trans (hx.mono HBW8.out.size)
          clear hx
          have HBW9 := Go.Lib.hid hbw9
          clear hbw9
          go_wp2_with fail
          go_ret
          exact ⟨rfl, HBW9.out⟩
        · have hc2b : (lc == 2) = false := beq_eq_false_iff_ne.2 hc2
          obtain ⟨l1, l2, l3⟩ := hlo.resolve_left hc2
          clear hlo hc2
          obtain ⟨_, hcap, hcm⟩ := SlC.cap hv8
          generalize hnl' : ll.length = nl at *
          have hnn : na ≤ nl := l1
          have hy8 : RRs W8 (.slice al na cl) san := by
            have h := RRs_take (L := ll) (k := na) (by rw [hnl']; exact hv8) (by rw [hnl']; exact hnn)
            rw [← l2] at h
            exact h
          have hrr := fun W (h : Below W8.heap.size W8 W) => RRs_same san an al cn cl W (by rw [HNA.out]; exact ha8.below h (Nat.le_refl _)) (by rw [HNA.out]; exact hy8.below h (Nat.le_refl _))
          rw [HNA.out] at hrr
          have q1 : (na : Int) ≤ (nl : Int) := by omega
          have q2 : (na : Int) ≤ (cl : Int) := by omega
          have hgl := (Array.getElem?_eq_some_iff.1 g8).1
          have D0 := BelowC.cell (W := W8) (row_cell g8 9 (.slice an na cn) rfl) hgl
          have D1 := BelowC.cell (W := W8) (row_cell g8 7 (.int .i64 sc) rfl) hgl
          have hne : Nonempty (Subtype (Below W8.heap.size W8)) := ⟨⟨W8, Below.refl _ _⟩⟩
          have HBC := Go.Lib.hid (show Below W8.heap.size W8 W8.drew from (Below.refl W8.heap.size W8).drew)
          clear l1 l2 hy8 hv8 ha8 g8 hb8 hnl'
          have HRR := Go.Lib.hid hrr
          have HBW8 := Go.Lib.hid hbw8
          clear hrr hbw8
          by_cases hcl : sc = lc
          · have hcb : (sc == lc) = true := beq_iff_eq.2 hcl
            clear l3 hcl
            go_wp2_with fail
            refine Go.Mix.wp_region_mix (Es := [14, 28]) (Below W8.heap.size W8) mixed (by kernel_rfl) (Below.refl _ _).drew (fun _ => ?_)
            iterate 14 (refine Go.Mix.mix_step rfl (fun K hK => ?_); have HKK := Go.Lib.hid hK; clear hK; go_simp; refine HKK.out _ _ ?_; clear HKK K)
            refine Go.Mix.mix_eff rfl (fun K hK => ?_)
            have HKK := Go.Lib.hid hK
            clear hK
            go_simp
            refine (HRR.out _ HBC.out).mono ?_; rintro e wb1 ⟨rfl, hx⟩
            have hb := HBC.out.trans (hx.mono HBC.out.size)
            clear HBC
            have HBC := Go.Lib.hid hb
            clear hx hb
            go_simp
            refine HKK.out _ _ HBC.out ?_
            clear HKK K
            iterate 13 (refine Go.Mix.mix_step rfl (fun K hK => ?_); have HKK := Go.Lib.hid hK; clear hK; go_simp; refine HKK.out _ _ ?_; clear HKK K)
            refine Go.Mix.mix_eff rfl (fun K hK => ?_)
            have HKK := Go.Lib.hid hK
            clear hK
            go_simp
            refine (HAW.out _).mono ?_; rintro e wb2 ⟨rfl, hx⟩
            have hb := HBC.out.trans (hx.mono HBC.out.size)
            clear HBC
            have HBC := Go.Lib.hid hb
            clear hx hb
            go_simp
            refine HKK.out _ _ HBC.out ?_
            clear HKK K
            iterate 2 (refine Go.Mix.mix_step rfl (fun K hK => ?_); have HKK := Go.Lib.hid hK; clear hK; go_simp; refine HKK.out _ _ ?_; clear HKK K)
            refine Go.Mix.mix_nil ?_
            clear D0 D1 hne
            have hbw9 := HBW8.out.trans (HBC.out.mono HBW8.out.size)
            clear HBC
            have HBW9 := Go.Lib.hid hbw9
            clear hbw9
            go_wp2_with fail
            go_ret
            exact ⟨rfl, HBW9.out⟩
          · have hcb : (sc == lc) = false := beq_eq_false_iff_ne.2 hcl
            have hs0 : sc = 0 := l3.resolve_left hcl
            clear l3 hcl
            subst hs0
            go_wp2_with fail
            refine Go.Mix.wp_region_mix (Es := [14, 28]) (Below W8.heap.size W8) mixed (by kernel_rfl) (Below.refl _ _).drew (fun _ => ?_)
            iterate 14 (refine Go.Mix.mix_step rfl (fun K hK => ?_); have HKK := Go.Lib.hid hK; clear hK; go_simp; refine HKK.out _ _ ?_; clear HKK K)
            refine Go.Mix.mix_eff rfl (fun K hK => ?_)
            have HKK := Go.Lib.hid hK
            clear hK
            go_simp
            refine (HRR.out _ HBC.out).mono ?_; rintro e wb3 ⟨rfl, hx⟩
            have hb := HBC.out.trans (hx.mono HBC.out.size)
            clear HBC
            have HBC := Go.Lib.hid hb
            clear hx hb
            go_simp
            refine HKK.out _ _ HBC.out ?_
            clear HKK K
            iterate 13 (refine Go.Mix.mix_step rfl (fun K hK => ?_); have HKK := Go.Lib.hid hK; clear hK; go_simp; refine HKK.out _ _ ?_; clear HKK K)
            refine Go.Mix.mix_eff rfl (fun K hK => ?_)
            have HKK := Go.Lib.hid hK
            clear hK
            go_simp
            refine (HAW.out _).mono ?_; rintro e wb4 ⟨rfl, hx⟩
            have hb := HBC.out.trans (hx.mono HBC.out.size)
            clear HBC
            have HBC := Go.Lib.hid hb
            clear hx hb
            go_simp
            refine HKK.out _ _ HBC.out ?_
            clear HKK K
            iterate 2 (refine Go.Mix.mix_step rfl (fun K hK => ?_); have HKK := Go.Lib.hid hK; clear hK; go_simp; refine HKK.out _ _ ?_; clear HKK K)
            refine Go.Mix.mix_nil ?_
            clear D0 D1 hne
            have hbw9 := HBW8.out.trans (HBC.out.mono HBW8.out.size)
            clear HBC
            have HBW9 := Go.Lib.hid hbw9
            clear hbw9
            go_wp2_with fail
            go_ret
            exact ⟨rfl, HBW9.out⟩
      | false =>
        obtain ⟨hc0, hs0, ha0, u1, u2, u3, hgn⟩ := hgr rfl
        clear hga hgr
        subst hc0
        subst ha0
        obtain ⟨x, xs, rfl⟩ : ∃ x xs, ssv = x :: xs := by
          cases ssv with
          | nil => rw [← HNS.out] at hs0; simp at hs0
          | cons x xs => exact ⟨x, xs, rfl⟩
        have hsY : RRs Y (.slice asl (x :: xs).length cs) (x :: xs) := by rw [HNS.out]; exact HSY.out
        obtain ⟨bs, os, rfl, hbs, hc⟩ := RRs.at hsY (by simp)
        have d0 := (hc 0 (by simp)).1
        simp only [List.getD_cons_zero, Nat.zero_mul, Nat.add_zero] at d0 u1 u2 u3 hgn
        have hns1 : ¬ ns = 0 := by omega
        have hns0 : ((ns : Int) == 0) = false := beq_eq_false_iff_ne.2 (by omega)
        have hns2 : (0 : Int) < (ns : Int) := by omega
        have hxl : x.name.length ≤ maxLen := by have := under_len u1; unfold maxLen; omega
        generalize x.name = xn at *
        have m7 : Y.cell? ⟨W6.heap.size, 7, none⟩ = some (.int .i64 0) := row_cell GY.out 7 _ rfl
        have m9 : Y.cell? ⟨W6.heap.size, 9, none⟩ = some (.slice an 0 cn) := row_cell GY.out 9 _ rfl
        have m10 : Y.cell? ⟨W6.heap.size, 10, none⟩ = some (.slice (some ⟨bs, os, none⟩) ns cs) := row_cell GY.out 10 _ rfl
        have hu1 := fun W => rUnd xn zone W hxl hzl
        have hu2 := fun W => rSam xn zone W hxl hzl
        have hu3 := fun W => rUnd qn xn W hnM hxl
        have hfo := fun W => rFol xn W hxl
        have hfl : (Nm.foldN xn).length ≤ maxLen := by rw [Nm.foldN_length]; exact hxl
        rw [u1] at hu1
        rw [u2] at hu2
        rw [u3] at hu3
        have HB0 := HBY
        clear u1 u2 u3 hc hsY k1 k2 hs0 hns1
        generalize Nm.foldN xn = fx at *
        have HU1 := Go.Lib.hid hu1
        have HU2 := Go.Lib.hid hu2
        have HU3 := Go.Lib.hid hu3
        have HFO := Go.Lib.hid hfo
        have HGN := Go.Lib.hid hgn
        have HFL := Go.Lib.hid hfl
        clear hu1 hu2 hu3 hfo hgn hfl
        go_wp2_with (first | (refine wpList_store_row rfl 34 (.tmp 10) (.tmp 37) rfl W6.heap.size _ rfl rfl _ _ (World.alloc_heap_new _ _) infoMsg rfl HONE.out ?_; rw [World.setRow_alloc_new, hY]))
        clear hY
        refine (HU1.out _).mono ?_; rintro e W7 ⟨rfl, hx⟩
        have hb7 := HBY.out.trans (hx.mono HBY.out.size)
        clear hx HBY m3 m7 m9 m10 d0 k0
        have HB7 := Go.Lib.hid hb7
        clear hb7
        go_wp2_with fail
        refine (HU2.out _).mono ?_; rintro e W8 ⟨rfl, hx⟩
        have hb8 := HB7.out.trans (hx.mono HB7.out.size)
        have k0 : W8.cell? ⟨W3.heap.size, 0, none⟩ = some (.string (mk qn)) := row_cell (heap_later hb8 GX.out) 0 _ rfl
        clear hx HB7
        have HB8 := Go.Lib.hid hb8
        clear hb8
        go_wp2_with fail
        refine (HU3.out _).mono ?_; rintro e W9 ⟨rfl, hx⟩
        have hb9 := HB8.out.trans (hx.mono HB8.out.size)
        clear hx HB8 k0
        have HB9 := Go.Lib.hid hb9
        clear hb9
        go_wp2_with fail
        refine (HFO.out _).mono ?_; rintro e WA ⟨rfl, hx⟩
        have hbA := HB9.out.trans (hx.mono HB9.out.size)
        clear hx HB9
        have HBA := Go.Lib.hid hbA
        clear hbA
        go_wp2_with fail
        go_roundw
        case rel => exact ⟨i + 1, fx, by go_num, by omega, rfl, HFL.out, by rw [show 6 - (i + 1) = f by have := HFF.out; omega]; exact HGN.out, HBA.out⟩
        case measure => simp [intOf]; omega
    · obtain rfl : i = 6 := by omega
      rw [goodG_0] at hgo
      cases hgo
set_option maxRecDepth 100000 in
theorem lifted (os : Os) (started : os.Started) (H : Type) (enc : TypeId × Value → H) :
    ReturnsInHanded {} Tryz.checked os 3 .any (Rows.treeLeadsSpec.pre6 enc Tryz.prog Tryz.f3 Rows.treeLeadsRow.domain false) (Rows.treeLeadsSpec.post enc Tryz.prog Tryz.f3 false true false false) := by
  refine returnsInHanded_of_change (C := Tryz.checked) own started (by kernel_rfl) Tryz.func3
    (ChangeSpec.witness6 (enc := enc) (C := Tryz.checked) false ⟨#[], #[.int .i64 0, .int .i64 0], []⟩ 8 (by kernel_rfl) (by kernel_rfl) (by kernel_rfl) (by kernel_rfl)) ?_
  intro W base args ds gs before hval0 hW hcnd _
  have hval : ∀ (j : Nat) t v, Tryz.f3.params[j]? = some t → args[j]? = some v → Value.okWide Tryz.prog W .any base t v := hval0
  refine law_post enc 2 (by kernel_rfl) rfl rfl (by kernel_rfl) (fun ds h => match ds, h with | [_, _], _ => rfl) hW ?_
  obtain ⟨p, q, hA0, hV, rfl, _, _⟩ := hW
  have hA : DataW.TrodAll enc Tryz.prog W 0 (fun _ => true) true Tryz.f3.params.toList args.toList ds p := hA0
  rw [Tryz.params3] at hA hval
  obtain ⟨v0, vs0, d0, ds0, p0, q0, hargs, rfl, rfl, h0, r0⟩ := trodAll_cons hA
  obtain ⟨v1, vs1, d1, ds1, p1, q1, rfl, rfl, rfl, h1, r1⟩ := trodAll_cons r0
  obtain ⟨rfl, rfl, rfl⟩ := trodAll_nil r1
  obtain rfl : args = #[v0, v1] := by cases args; simp_all
  obtain ⟨a0, rfl, rfl, rfl, w0⟩ := open_int Tryz.underlying3 (hval 0 3 v0 rfl rfl) h0
  obtain ⟨a1, rfl, rfl, rfl, w1⟩ := open_int Tryz.underlying3 (hval 1 3 v1 rfl rfl) h1
  exact walk a0 a1 W (fits_of_wf w0) (fits_of_wf w1)

theorem over : Rows.treeLeadsRow.holds Tryz.pinned (OpenSpec.ofChange Rows.treeLeadsSpec) :=
  OpenClaim.holds_of_wide 3 Tryz.f3 rfl rfl rfl rfl rfl rfl rfl ⟨rfl, rfl, rfl, rfl, rfl⟩ rfl rfl rfl rfl rfl (by kernel_rfl) Tryz.func3 (by kernel_rfl)
    (of_decide_eq_true (by kernel_rfl)) (by unfold Func.isWrapper; first | (rw [if_pos (by decide +kernel)]; kernel_rfl) | (rw [if_neg (by decide +kernel)]; exact ⟨rfl, rfl⟩))
    (fun os started H enc _ => lifted os started H enc)

/-- the statement -/
theorem proved : Rows.TreeLeadsSaid := over
#print axioms proved
end Go.Proofs.YtkpcmnckdappnaaGreat.treeLeads
