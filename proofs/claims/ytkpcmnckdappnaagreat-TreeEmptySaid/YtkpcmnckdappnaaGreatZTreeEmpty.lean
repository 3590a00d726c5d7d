/- TreeEmpty: a name that has nothing itself, but something under it, is one; a name that has nothing under it is none; each with the zone's SOA. For every input; no conditions. -/
import Derived.Test.YtkpcmnckdappnaaGreatG1
import Derived.Test.YtkpcmnckdappnaaGreatG9
import Derived.Test.YtkpcmnckdappnaaGreatG12
namespace Go.Proofs.YtkpcmnckdappnaaGreat.treeEmpty
open Go.ChangeShapes Go.WideShapes Go.ChangeAt Go.RowKit Go.Sort Go.Lib
open Go.ChangeMaps (open_string shut_string)
set_option maxRecDepth 100000
set_option linter.unusedVariables false
set_option linter.unusedSimpArgs false

theorem cat_mk' (a b : List UInt8) : mk a ++ mk b = mk (a ++ b) := by apply bl_inj; rw [bl_append, bl_mk, bl_mk, bl_mk]
theorem rPar (a : List UInt8) (w : World) : Calls Tryz.prog 22 #[.string (mk a)] w fun e w' => e = .returned (.string (mk (Nm.parentN a))) ∧ Below w.heap.size w w' := by
  have h := refParent_any (mk a) w
  simp only [bl_mk] at h
  exact h
set_option maxHeartbeats 64000000 in
theorem walk (k q : Int) (w : World) (hk : Fits k) (hq : Fits q) : Calls Tryz.prog 5 #[.int .i64 k, .int .i64 q] w fun e w' => e = .returned (.bool true) ∧ Below w.heap.size w w' := by
  have mixed : Tryz.prog.follows .mixedOrders = true := by kernel_rfl
  have haw := fun W => awake_any W
  have HAW := Go.Lib.hid haw
  clear haw
  by_cases hin : 1 ≤ q ∧ q ≤ 5
  · obtain ⟨hq1, hq5⟩ := hin
    have hzo := fun W => zones_any k W
    have hkk : (k % 4).toNat < 4 := by have := Int.emod_lt_of_pos k (show (0 : Int) < 4 by decide); have := Int.emod_nonneg k (show (4 : Int) ≠ 0 by decide); omega
    generalize (k % 4).toNat = kk at *
    obtain ⟨m, rfl⟩ : ∃ m : Nat, q = m := ⟨q.toNat, by omega⟩
    have hm0 : 0 < m := by omega
    have hm6 : m < 6 := by omega
    have c1 : ¬ (m : Int) < 1 := by omega
    have c2 : ¬ (5 : Int) < (m : Int) := by omega
    have hadr := fun W => adr_any (nN m) 9 W (by rw [nN_len]; unfold maxLen; omega)
    obtain ⟨⟨n13, t13, c13, l13, d13⟩, hr13⟩ : ∃ r, adrP (nN m) 9 = r := ⟨_, rfl⟩
    rw [hr13] at hadr
    simp only [rrV] at hadr
    clear hq1 hq5 hq
    have HZO := Go.Lib.hid hzo
    have HADR := Go.Lib.hid hadr
    have HR13 := Go.Lib.hid hr13
    clear hzo hadr hr13
    go_enter Tryz.func5, Tryz.ntmps5
    go_wp2_with fail
    go_loopw [5, 6] (fun v5 v6 wr => ∃ i : Nat, v6 = .int .i64 i ∧ i ≤ m ∧ v5 = .string (mk (nN i)) ∧ wr = w) (fun _ v6 _ => m - (intOf v6).toNat)
    case atStart => exact ⟨0, rfl, by omega, rfl, rfl⟩
    case round =>
      obtain ⟨i, rfl, him, rfl, rfl⟩ := hrel
      by_cases hi : i < m
      · have hi2 : (i : Int) < (m : Int) := by omega
        have w1 : IntKind.i64.wrap ((i : Int) + 1) = (i : Int) + 1 := wrapi (by omega) (by omega)
        have hcat : (⟨#[1, 100]⟩ : ByteArray) ++ mk (nN i) = mk (nN (i + 1)) := cat_mk' [1, 100] (nN i)
        have hs1 : (mk (nN i)).size = 3 + 2 * i := by rw [size_mk, nN_len]
        have hs2 : (⟨#[1, 100]⟩ : ByteArray).size = 2 := rfl
        have hs3 : ¬ 9223372036854775807 < 2 + (3 + 2 * i) := by omega
        go_wp2_with fail
        go_roundw
        case rel => exact ⟨i + 1, by go_num, by omega, congrArg Value.string hcat, by first | rfl | trivial⟩
        case measure => simp [intOf]; omega
      · obtain rfl : i = m := by omega
        have hi2 : ¬ (i : Int) < (i : Int) := by omega
        have hzo := HZO.out wr
        have HZO1 := Go.Lib.hid hzo
        clear hzo
        go_wp2_with fail
        refine HZO1.out.mono ?_; rintro e W1 ⟨g, y0, y1, y2, y3, rfl, hp, hz4, _, hr1, _, hb1⟩
        obtain ⟨nm1, ra1, rc1, rs1, sa1, sc1, sv1⟩ := y1
        have hy1 : (zonesZ kk).getD 1 z0 = (⟨nm1, ra1, rc1, rs1, sa1, sc1, sv1⟩ : Zn).p := by rw [← hp]; rfl
        have hl6 : rs1.length = 6 := by have h := em_len kk hkk; rw [hy1] at h; exact h
        have hem : emZ kk i = [y0.p, ⟨nm1, rs1 ++ [⟨n13, t13, c13, l13, d13⟩], sv1⟩, y2.p, y3.p] := by unfold emZ; rw [hy1, HR13.out, ← hp]; rfl
        simp only at hr1
        rw [hl6] at hr1
        subst hr1
        have hgl := (Array.getElem?_eq_some_iff.1 hz4.row).1
        have hsn := encR_snoc rs1 ⟨n13, t13, c13, l13, d13⟩
        have hne : Nonempty (Subtype (KeepB g W1)) := ⟨⟨W1, rfl⟩⟩
        have D7 : ∀ y : Subtype (KeepB g W1), y.1.cell? ⟨g, 4, none⟩ = some (.slice ra1 6 6) := fun y => by have h := row_cell (y.2.trans hz4.row) 4 (.slice ra1 rs1.length 6) rfl; rw [hl6] at h; exact h
        clear hp hy1
        have HZ4 := Go.Lib.hid hz4
        have HB1 := Go.Lib.hid hb1
        have HL6 := Go.Lib.hid hl6
        have HEM := Go.Lib.hid hem
        have HSN := Go.Lib.hid hsn
        clear hz4 hb1 hl6 hem hsn
        go_wp2_with fail
        refine Go.Mix.wp_region_mixT (Es := [6, 7, 8]) 11 (KeepB g W1) mixed (by kernel_rfl) rfl ?_
        iterate 6 (refine Go.Mix.mixT_step rfl (fun K hK => ?_); have HKK := Go.Lib.hid hK; clear hK; go_simp; refine HKK.out _ _ ?_; clear HKK K)
        refine Go.Mix.mixT_eff rfl (fun K hK => ?_)
        have HKK := Go.Lib.hid hK
        clear hK
        go_simp
        refine (HADR.out W1.drew).mono ?_; rintro e W5 ⟨rfl, hx5⟩
        have hb5 : Below W1.heap.size W1 W5 := (Below.refl _ W1).drew.trans hx5
        have k5 : KeepB g W1 W5 := hb5.block _ hgl
        clear hx5
        have HB5 := Go.Lib.hid hb5
        have HK5 := Go.Lib.hid k5
        clear hb5 k5
        go_simp
        refine HKK.out _ _ HK5.out ?_
        clear HKK K
        refine Go.Mix.mixT_eff rfl (fun K hK => ?_)
        have HKK := Go.Lib.hid hK
        clear hK
        go_simp
        have hal : Below W5.heap.size W5 (W5.alloc (.cells #[.string (mk n13), .int .i64 t13, .int .i64 c13, .int .i64 l13, .string (mk d13)] 43)) := (Below.refl _ W5).alloc (Nat.le_refl _) _
        have hb6 := HB5.out.trans (hal.mono HB5.out.size)
        have k6 : KeepB g W1 (W5.alloc (.cells #[.string (mk n13), .int .i64 t13, .int .i64 c13, .int .i64 l13, .string (mk d13)] 43)) := hb6.block _ hgl
        have hnc := new_cells W5 [.string (mk n13), .int .i64 t13, .int .i64 c13, .int .i64 l13, .string (mk d13)] 43
        have HB6 := Go.Lib.hid hb6
        have HK6 := Go.Lib.hid k6
        have HNC := Go.Lib.hid hnc
        clear hb6 k6 hnc
        clear hal
        refine HKK.out _ _ HK6.out ?_
        clear HKK K
        refine mixT_appF eiRR (.tmp 36) (.tmp 39) rfl rfl rfl (m := 1) rfl rfl (by have h := (HZ4.out.below HB6.out).a1.rs.1; simp only at h; rw [HL6.out] at h; exact h) (by decide) (by decide) (news := [.string (mk n13), .int .i64 t13, .int .i64 c13, .int .i64 l13, .string (mk d13)]) rfl HNC.out (by decide) (by decide) ?_
        intro v7 W7 own7 hx7
        obtain ⟨a7, q7, rfl, _, _⟩ := (SlC.of_owns own7).slice
        have hb7 := HB6.out.trans (hx7.mono HB6.out.size)
        have k7 : KeepB g W1 W7 := hb7.block _ hgl
        refine ⟨k7, ?_⟩
        have hz7 := HZ4.out.below hb7
        have c7' : W7.cell? ⟨g, 4, none⟩ = some (.slice ra1 6 6) := by have h := row_cell hz7.row 4 (.slice ra1 rs1.length 6) rfl; rw [HL6.out] at h; exact h
        have f7 := frozen_of_row W7 g 4 _ _ hz7.row
        rw [← HSN.out] at own7
        have hln : (rs1 ++ [(⟨n13, t13, c13, l13, d13⟩ : Rc.RR)]).length = 6 + 1 := by rw [List.length_append, HL6.out]; rfl
        have hz8 := setR1e hz7 a7 q7 (6 + 1) (rs1 ++ [⟨n13, t13, c13, l13, d13⟩]) hln (SlT.of_owns own7)
        have hb8' := (HB1.out.trans (hb7.mono HB1.out.size)).setCell (p := ⟨g, 4, none⟩) HZ4.out.le (.slice a7 (6 + 1) q7)
        clear k7 own7 hx7 hz7 hln
        have HB7 := Go.Lib.hid hb7
        have HZ8 := Go.Lib.hid hz8
        have HB8' := Go.Lib.hid hb8'
        clear hb7 hz8 hb8'
        iterate 2 (refine Go.Mix.mixT_step rfl (fun K hK => ?_); have HKK := Go.Lib.hid hK; clear hK; go_simp; refine HKK.out _ _ ?_; clear HKK K)
        refine Go.Mix.mixT_last rfl (fun K hK => ?_)
        have HKK := Go.Lib.hid hK
        clear hK
        go_simp
        refine HKK.out _ _ ?_
        clear HKK K D7 hne c7' f7
        have hnew := New_of [y0, ⟨nm1, a7, q7, rs1 ++ [⟨n13, t13, c13, l13, d13⟩], sa1, sc1, sv1⟩, y2, y3] (some ⟨g, 0, none⟩) 4 _ (emZ kk i) HZ8.out.zns (by rw [HEM.out]; rfl) (show 4 ≤ 1000 by decide) (em_ok kk hkk i hm6) (em_new kk hkk i hm6 hm0) (em_val kk hkk i hm6) (em_nod kk hkk i hm6)
        clear HZ8 HEM HSN HL6 HZ4 HB1 HB7 HB5 HB6 HK5 HK6 HNC HADR HR13
        have HNEW := Go.Lib.hid hnew
        clear hnew
        go_wp2_with fail
        refine HNEW.out.mono ?_; rintro e Y ⟨hbn, tb, T, rfl, hT, ht⟩
        have hbY := HB8'.out.trans (hbn.mono HB8'.out.size)
        clear hbn HNEW HB8'
        have HT := Go.Lib.hid hT
        have HTR := Go.Lib.hid ht
        have HBY := Go.Lib.hid hbY
        clear hT ht hbY
        go_wp2_with fail
        go_loopw [10] (fun v10 wr => ∃ j : Nat, v10 = .string (mk (nN j)) ∧ j ≤ i ∧ Below Y.heap.size Y wr) (fun v10 _ => strLen v10)
        case atStart => exact ⟨i, rfl, Nat.le_refl _, Below.refl _ _⟩
        case round =>
          obtain ⟨j, rfl, hji, hbr⟩ := hrel
          cases j with
          | zero =>
            have hq0 : (mk (nN 0)).toList = [1, 97, 0] := by rw [toList_bl, bl_mk]; rfl
            have hbw := HBY.out.trans (hbr.mono HBY.out.size)
            clear hbr
            have HBW := Go.Lib.hid hbw
            clear hbw
            go_wp2_with fail
            refine (HAW.out _).mono ?_; rintro e W9 ⟨rfl, hx⟩
            have hbw9 := HBW.out.trans (hx.mono HBW.out.size)
            clear hx
            have HBW9 := Go.Lib.hid hbw9
            clear hbw9
            go_wp2_with fail
            go_ret
            exact ⟨rfl, HBW9.out⟩
          | succ j =>
            have hne0 : ¬ (mk (nN (j + 1))).toList = [1, 97, 0] := by
              rw [toList_bl, bl_mk]
              intro e
              have := congrArg List.length e
              rw [nN_len] at this
              simp at this
            have hneB : ((mk (nN (j + 1))).toList == [1, 97, 0]) = false := beq_eq_false_iff_ne.2 hne0
            have hpar : Nm.parentN (nN (j + 1)) = nN j := nN_parent j (by omega)
            have hsl : (nN (j + 1)).length = 3 + 2 * (j + 1) := nN_len _
            have hsl0 : (nN j).length = 3 + 2 * j := nN_len _
            have heq : (nN (j + 1) = nN i) ↔ j + 1 = i := ⟨nN_inj, fun h => by rw [h]⟩
            have hall := em_all kk hkk i hm6 (j + 1) (by omega) hji
            by_cases hji2 : j + 1 = i
            · have hpt := em_parts (want := 1) (by rw [if_pos hji2]) hall
              have hnb : ((mk (nN (j + 1))).toList == (mk (nN i)).toList) = true := beq_mk_true (by rw [hji2])
              clear hji2 heq hall
              generalize nN i = nm at *
              generalize hsn : nN (j + 1) = sn at *
              obtain ⟨p1, p2, p3, p4, p5, p6, p7, p8, p9, p10⟩ := hpt
              have hsM : sn.length ≤ maxLen := by unfold maxLen; omega
              have hsM2 : ([1, 101] ++ sn : List UInt8).length ≤ maxLen := by rw [List.length_append]; unfold maxLen; simp; omega
              have htr := HTR.out.below hbr
              have hse1 := Serve_any tb T [1, 97, 0] ⟨sn, 1, 1⟩ wr htr.t (by decide) hsM
              have hse2 := fun W (h : Below wr.heap.size wr W) => Serve_any tb T [1, 97, 0] ⟨[1, 101] ++ sn, 1, 1⟩ W (htr.t.below h) (by decide) hsM2
              have hlk := fun W (h : Below wr.heap.size wr W) => Lookup_any tb T ⟨sn, 1, 1⟩ W (htr.below h) hsM
              rw [HT.out] at hse1
              simp only [HT.out] at hse2 hlk
              simp only at hse1
              generalize serveP (emZ kk i) [1, 97, 0] sn 1 = S1 at *
              generalize serveP (emZ kk i) [1, 97, 0] ([1, 101] ++ sn) 1 = S2 at *
              generalize lookP (emZ kk i) sn 1 = L at *
              obtain ⟨c1', au1, an1, sv1', ad1⟩ := S1
              obtain ⟨c2', au2, an2, sv2', ad2⟩ := S2
              obtain ⟨lc, ll⟩ := L
              simp only at p1 p2 p3 p4 p5 p6 p7 p8 p9 p10 hlk
              subst p1 p4 p6 p9 p10
              have hcat : (⟨#[1, 101]⟩ : ByteArray) ++ mk sn = mk ([1, 101] ++ sn) := cat_mk' [1, 101] sn
              have hs1 : (mk sn).size = 3 + 2 * (j + 1) := by rw [size_mk, hsl]
              have hs2 : (⟨#[1, 101]⟩ : ByteArray).size = 2 := rfl
              have hs3 : ¬ 9223372036854775807 < 2 + (3 + 2 * (j + 1)) := by omega
              have hprf := rPar sn
              rw [hpar] at hprf
              clear htr hpar hsl hsM hsM2
              have HSE1 := Go.Lib.hid hse1
              have HSE2 := Go.Lib.hid hse2
              have HLK := Go.Lib.hid hlk
              have HBR := Go.Lib.hid hbr
              have P2 := Go.Lib.hid p2
              have P3 := Go.Lib.hid p3
              have P5 := Go.Lib.hid p5
              have P7 := Go.Lib.hid p7
              have P8 := Go.Lib.hid p8
              have HPR := Go.Lib.hid hprf
              have HSN := Go.Lib.hid hsn
              have HSL0 := Go.Lib.hid hsl0
              clear hse1 hse2 hlk hbr p2 p3 p5 p7 p8 hprf hsn hsl0
              generalize hsq : ([1, 101] ++ sn : List UInt8) = sq at *
              go_wp2_with fail
              refine HSE1.out.mono ?_; rintro e W6 ⟨qq, aa, ss, dd, rfl, hm, hx⟩
              have hqq : SlT W6 29 3 qq 1 (encQn [⟨sn, 1, 1⟩]) := hm.qs
              have haa : SlT W6 43 5 aa an1.length (encR an1) := hm.an
              have hss : SlT W6 43 5 ss sv1'.length (encR sv1') := hm.sv
              have hdd : SlT W6 43 5 dd ad1.length (encR ad1) := hm.ad
              rw [P2.out] at haa
              rw [P3.out] at hss
              obtain ⟨aq, cq, rfl, _, _⟩ := hqq.1.slice
              obtain ⟨an, cn, rfl, _, _⟩ := haa.1.slice
              obtain ⟨asl, cs, rfl, _, _⟩ := hss.1.slice
              obtain ⟨ad, cd, rfl, _, _⟩ := hdd.1.slice
              have hMV : MV (sayN ⟨sn, 1, 1⟩ ⟨0, true, an1, sv1', ad1⟩) (.slice aq 1 cq) (.slice an 1 cn) (.slice asl 0 cs) (.slice ad ad1.length cd) = .agg (sayC true 0 (.slice aq 1 cq) (.slice an 1 cn) (.slice asl 0 cs) (.slice ad ad1.length cd)) := rfl
              rw [hMV]
              have hb6 := hx
              obtain ⟨Y1, hY1⟩ : ∃ Y, W6.alloc (.cells (sayC true 0 (.slice aq 1 cq) (.slice an 1 cn) (.slice asl 0 cs) (.slice ad ad1.length cd)) 34) = Y := ⟨_, rfl⟩
              have gY1 : Y1.heap[W6.heap.size]? = some (.cells (sayC true 0 (.slice aq 1 cq) (.slice an 1 cn) (.slice asl 0 cs) (.slice ad ad1.length cd)) 34 (0, 0)) := by rw [← hY1]; exact World.alloc_heap_new _ _
              have hbY1 : Below wr.heap.size wr Y1 := hb6.trans (by rw [← hY1]; exact (Below.refl _ W6).alloc hb6.size _)
              have hone1 : (sayC true 0 (.slice aq 1 cq) (.slice an 1 cn) (.slice asl 0 cs) (.slice ad ad1.length cd)).all (·.oneCell') = true := by simp [Value.oneCell']
              clear hx hm hqq haa hss hdd hMV hb6
              have GY1 := Go.Lib.hid gY1
              have HBY1 := Go.Lib.hid hbY1
              have HONE1 := Go.Lib.hid hone1
              clear gY1 hbY1 hone1
              go_wp2_with (first | (refine wpList_store_row rfl 34 (.tmp 11) (.tmp 62) rfl W6.heap.size _ rfl rfl _ _ (World.alloc_heap_new _ _) infoMsg rfl HONE1.out ?_; rw [World.setRow_alloc_new, hY1]))
              clear hY1
              refine (HSE2.out Y1 HBY1.out).mono ?_; rintro e W7 ⟨qq, aa, ss, dd, rfl, hm, hx⟩
              have hqq : SlT W7 29 3 qq 1 (encQn [⟨sq, 1, 1⟩]) := hm.qs
              have haa : SlT W7 43 5 aa an2.length (encR an2) := hm.an
              have hss : SlT W7 43 5 ss sv2'.length (encR sv2') := hm.sv
              have hdd : SlT W7 43 5 dd ad2.length (encR ad2) := hm.ad
              obtain ⟨x, rfl⟩ : ∃ x, sv2' = [x] := List.length_eq_one_iff.1 P7.out
              have hx6 : x.ty = 6 := P8.out
              obtain ⟨aq2, cq2, rfl, _, _⟩ := hqq.1.slice
              obtain ⟨an2', cn2, rfl, _, _⟩ := haa.1.slice
              obtain ⟨asl2, cs2, rfl, _, _⟩ := hss.1.slice
              obtain ⟨ad2', cd2, rfl, _, _⟩ := hdd.1.slice
              have hsv : RRs W7 (.slice asl2 [x].length cs2) [x] := hss.1
              obtain ⟨bs, os, rfl, hbs, hc⟩ := RRs.at hsv (by simp)
              have d1 := (hc 0 (by simp)).2.1
              simp only [List.getD_cons_zero, Nat.zero_mul, Nat.add_zero, hx6] at d1
              have hMV : MV (sayN ⟨sq, 1, 1⟩ ⟨3, true, an2, [x], ad2⟩) (.slice aq2 1 cq2) (.slice an2' an2.length cn2) (.slice (some ⟨bs, os, none⟩) [x].length cs2) (.slice ad2' ad2.length cd2) = .agg (sayC true 3 (.slice aq2 1 cq2) (.slice an2' an2.length cn2) (.slice (some ⟨bs, os, none⟩) 1 cs2) (.slice ad2' ad2.length cd2)) := rfl
              rw [hMV]
              have hb7 := HBY1.out.trans (hx.mono HBY1.out.size)
              have g17 := heap_later hx GY1.out
              obtain ⟨Y2, hY2⟩ : ∃ Y, W7.alloc (.cells (sayC true 3 (.slice aq2 1 cq2) (.slice an2' an2.length cn2) (.slice (some ⟨bs, os, none⟩) 1 cs2) (.slice ad2' ad2.length cd2)) 34) = Y := ⟨_, rfl⟩
              have gY2 : Y2.heap[W7.heap.size]? = some (.cells (sayC true 3 (.slice aq2 1 cq2) (.slice an2' an2.length cn2) (.slice (some ⟨bs, os, none⟩) 1 cs2) (.slice ad2' ad2.length cd2)) 34 (0, 0)) := by rw [← hY2]; exact World.alloc_heap_new _ _
              have hal : Below W7.heap.size W7 Y2 := by rw [← hY2]; exact (Below.refl _ W7).alloc (Nat.le_refl _) _
              have hbY2 := hb7.trans (hal.mono hb7.size)
              have g12 := heap_later hal g17
              have d1' := (hal.cell (p := ⟨bs, os + 1, none⟩) hbs).trans d1
              have hbs2 := Nat.lt_of_lt_of_le hbs hal.size
              have hone2 : (sayC true 3 (.slice aq2 1 cq2) (.slice an2' an2.length cn2) (.slice (some ⟨bs, os, none⟩) 1 cs2) (.slice ad2' ad2.length cd2)).all (·.oneCell') = true := by simp [Value.oneCell']
              clear hx hm hqq haa hss hdd hMV hb7 g17 hal hc hsv d1 hbs hx6
              have GY2 := Go.Lib.hid gY2
              have HBY2 := Go.Lib.hid hbY2
              have HONE2 := Go.Lib.hid hone2
              have G12 := Go.Lib.hid g12
              have D1 := Go.Lib.hid d1'
              clear gY2 hbY2 hone2 g12 d1'
              go_wp2_with (first | (refine wpList_store_row rfl 34 (.tmp 12) (.tmp 67) rfl W7.heap.size _ rfl rfl _ _ (World.alloc_heap_new _ _) infoMsg rfl HONE2.out ?_; rw [World.setRow_alloc_new, hY2]))
              clear hY2
              refine (HLK.out Y2 HBY2.out).mono ?_; rintro e W8 ⟨v8, rfl, hv8, hx⟩
              obtain ⟨al, cl, rfl, _, _⟩ := hv8.slice
              rw [P5.out]
              have hb8 := HBY2.out.trans (hx.mono HBY2.out.size)
              have g18 := heap_later hx G12.out
              have g28 := heap_later hx GY2.out
              have d18 := (hx.cell (p := ⟨bs, os + 1, none⟩) hbs2).trans D1.out
              have e7 : W8.cell? ⟨W6.heap.size, 7, none⟩ = some (.int .i64 0) := row_cell g18 7 _ rfl
              have e9 : W8.cell? ⟨W6.heap.size, 9, none⟩ = some (.slice an 1 cn) := row_cell g18 9 _ rfl
              have e10 : W8.cell? ⟨W6.heap.size, 10, none⟩ = some (.slice asl 0 cs) := row_cell g18 10 _ rfl
              have e3 : W8.cell? ⟨W6.heap.size, 3, none⟩ = some (.bool true) := row_cell g18 3 _ rfl
              have o7 : W8.cell? ⟨W7.heap.size, 7, none⟩ = some (.int .i64 3) := row_cell g28 7 _ rfl
              have o10 : W8.cell? ⟨W7.heap.size, 10, none⟩ = some (.slice (some ⟨bs, os, none⟩) 1 cs2) := row_cell g28 10 _ rfl
              have o3 : W8.cell? ⟨W7.heap.size, 3, none⟩ = some (.bool true) := row_cell g28 3 _ rfl
              have hbr8 := HBR.out.trans (hb8.mono HBR.out.size)
              clear hx hv8 g18 g28 hb8
              have HBR8 := Go.Lib.hid hbr8
              clear hbr8
              go_wp2_with fail
              refine (HPR.out _).mono ?_; rintro e W9 ⟨rfl, hx⟩
              have hbr9 := HBR8.out.trans (hx.mono HBR8.out.size)
              clear hx
              have HBR9 := Go.Lib.hid hbr9
              clear hbr9
              go_wp2_with fail
              go_roundw
              case rel => exact ⟨j, rfl, by omega, HBR9.out⟩
              case measure =>
                rw [strLen_mk, strLen_mk, HSL0.out, ← HSN.out, nN_len]
                omega
            · have hpt := em_parts (want := 0) (by rw [if_neg hji2]) hall
              have hnn : ¬ nN (j + 1) = nN i := fun h => hji2 (heq.1 h)
              have hnb : ((mk (nN (j + 1))).toList == (mk (nN i)).toList) = false := beq_mk_false hnn
              clear heq hall hnn
              generalize nN i = nm at *
              generalize hsn : nN (j + 1) = sn at *
              obtain ⟨p1, p2, p3, p4, p5, p6, p7, p8, p9, p10⟩ := hpt
              have hsM : sn.length ≤ maxLen := by unfold maxLen; omega
              have hsM2 : ([1, 101] ++ sn : List UInt8).length ≤ maxLen := by rw [List.length_append]; unfold maxLen; simp; omega
              have htr := HTR.out.below hbr
              have hse1 := Serve_any tb T [1, 97, 0] ⟨sn, 1, 1⟩ wr htr.t (by decide) hsM
              have hse2 := fun W (h : Below wr.heap.size wr W) => Serve_any tb T [1, 97, 0] ⟨[1, 101] ++ sn, 1, 1⟩ W (htr.t.below h) (by decide) hsM2
              have hlk := fun W (h : Below wr.heap.size wr W) => Lookup_any tb T ⟨sn, 1, 1⟩ W (htr.below h) hsM
              rw [HT.out] at hse1
              simp only [HT.out] at hse2 hlk
              simp only at hse1
              generalize serveP (emZ kk i) [1, 97, 0] sn 1 = S1 at *
              generalize serveP (emZ kk i) [1, 97, 0] ([1, 101] ++ sn) 1 = S2 at *
              generalize lookP (emZ kk i) sn 1 = L at *
              obtain ⟨c1', au1, an1, sv1', ad1⟩ := S1
              obtain ⟨c2', au2, an2, sv2', ad2⟩ := S2
              obtain ⟨lc, ll⟩ := L
              simp only at p1 p2 p3 p4 p5 p6 p7 p8 p9 p10 hlk
              subst p1 p4 p6 p9 p10
              have hcat : (⟨#[1, 101]⟩ : ByteArray) ++ mk sn = mk ([1, 101] ++ sn) := cat_mk' [1, 101] sn
              have hs1 : (mk sn).size = 3 + 2 * (j + 1) := by rw [size_mk, hsl]
              have hs2 : (⟨#[1, 101]⟩ : ByteArray).size = 2 := rfl
              have hs3 : ¬ 9223372036854775807 < 2 + (3 + 2 * (j + 1)) := by omega
              have hprf := rPar sn
              rw [hpar] at hprf
              clear htr hpar hsl hsM hsM2
              have HSE1 := Go.Lib.hid hse1
              have HSE2 := Go.Lib.hid hse2
              have HLK := Go.Lib.hid hlk
              have HBR := Go.Lib.hid hbr
              have P2 := Go.Lib.hid p2
              have P3 := Go.Lib.hid p3
              have P5 := Go.Lib.hid p5
              have P7 := Go.Lib.hid p7
              have P8 := Go.Lib.hid p8
              have HPR := Go.Lib.hid hprf
              have HSN := Go.Lib.hid hsn
              have HSL0 := Go.Lib.hid hsl0
              clear hse1 hse2 hlk hbr p2 p3 p5 p7 p8 hprf hsn hsl0
              generalize hsq : ([1, 101] ++ sn : List UInt8) = sq at *
              go_wp2_with fail
              refine HSE1.out.mono ?_; rintro e W6 ⟨qq, aa, ss, dd, rfl, hm, hx⟩
              have hqq : SlT W6 29 3 qq 1 (encQn [⟨sn, 1, 1⟩]) := hm.qs
              have haa : SlT W6 43 5 aa an1.length (encR an1) := hm.an
              have hss : SlT W6 43 5 ss sv1'.length (encR sv1') := hm.sv
              have hdd : SlT W6 43 5 dd ad1.length (encR ad1) := hm.ad
              rw [P2.out] at haa
              rw [P3.out] at hss
              obtain ⟨aq, cq, rfl, _, _⟩ := hqq.1.slice
              obtain ⟨an, cn, rfl, _, _⟩ := haa.1.slice
              obtain ⟨asl, cs, rfl, _, _⟩ := hss.1.slice
              obtain ⟨ad, cd, rfl, _, _⟩ := hdd.1.slice
              have hMV : MV (sayN ⟨sn, 1, 1⟩ ⟨0, true, an1, sv1', ad1⟩) (.slice aq 1 cq) (.slice an 0 cn) (.slice asl 1 cs) (.slice ad ad1.length cd) = .agg (sayC true 0 (.slice aq 1 cq) (.slice an 0 cn) (.slice asl 1 cs) (.slice ad ad1.length cd)) := rfl
              rw [hMV]
              have hb6 := hx
              obtain ⟨Y1, hY1⟩ : ∃ Y, W6.alloc (.cells (sayC true 0 (.slice aq 1 cq) (.slice an 0 cn) (.slice asl 1 cs) (.slice ad ad1.length cd)) 34) = Y := ⟨_, rfl⟩
              have gY1 : Y1.heap[W6.heap.size]? = some (.cells (sayC true 0 (.slice aq 1 cq) (.slice an 0 cn) (.slice asl 1 cs) (.slice ad ad1.length cd)) 34 (0, 0)) := by rw [← hY1]; exact World.alloc_heap_new _ _
              have hbY1 : Below wr.heap.size wr Y1 := hb6.trans (by rw [← hY1]; exact (Below.refl _ W6).alloc hb6.size _)
              have hone1 : (sayC true 0 (.slice aq 1 cq) (.slice an 0 cn) (.slice asl 1 cs) (.slice ad ad1.length cd)).all (·.oneCell') = true := by simp [Value.oneCell']
              clear hx hm hqq haa hss hdd hMV hb6
              have GY1 := Go.Lib.hid gY1
              have HBY1 := Go.Lib.hid hbY1
              have HONE1 := Go.Lib.hid hone1
              clear gY1 hbY1 hone1
              go_wp2_with (first | (refine wpList_store_row rfl 34 (.tmp 11) (.tmp 62) rfl W6.heap.size _ rfl rfl _ _ (World.alloc_heap_new _ _) infoMsg rfl HONE1.out ?_; rw [World.setRow_alloc_new, hY1]))
              clear hY1
              refine (HSE2.out Y1 HBY1.out).mono ?_; rintro e W7 ⟨qq, aa, ss, dd, rfl, hm, hx⟩
              have hqq : SlT W7 29 3 qq 1 (encQn [⟨sq, 1, 1⟩]) := hm.qs
              have haa : SlT W7 43 5 aa an2.length (encR an2) := hm.an
              have hss : SlT W7 43 5 ss sv2'.length (encR sv2') := hm.sv
              have hdd : SlT W7 43 5 dd ad2.length (encR ad2) := hm.ad
              obtain ⟨x, rfl⟩ : ∃ x, sv2' = [x] := List.length_eq_one_iff.1 P7.out
              have hx6 : x.ty = 6 := P8.out
              obtain ⟨aq2, cq2, rfl, _, _⟩ := hqq.1.slice
              obtain ⟨an2', cn2, rfl, _, _⟩ := haa.1.slice
              obtain ⟨asl2, cs2, rfl, _, _⟩ := hss.1.slice
              obtain ⟨ad2', cd2, rfl, _, _⟩ := hdd.1.slice
              have hsv : RRs W7 (.slice asl2 [x].length cs2) [x] := hss.1
              obtain ⟨bs, os, rfl, hbs, hc⟩ := RRs.at hsv (by simp)
              have d1 := (hc 0 (by simp)).2.1
              simp only [List.getD_cons_zero, Nat.zero_mul, Nat.add_zero, hx6] at d1
              have hMV : MV (sayN ⟨sq, 1, 1⟩ ⟨3, true, an2, [x], ad2⟩) (.slice aq2 1 cq2) (.slice an2' an2.length cn2) (.slice (some ⟨bs, os, none⟩) [x].length cs2) (.slice ad2' ad2.length cd2) = .agg (sayC true 3 (.slice aq2 1 cq2) (.slice an2' an2.length cn2) (.slice (some ⟨bs, os, none⟩) 1 cs2) (.slice ad2' ad2.length cd2)) := rfl
              rw [hMV]
              have hb7 := HBY1.out.trans (hx.mono HBY1.out.size)
              have g17 := heap_later hx GY1.out
              obtain ⟨Y2, hY2⟩ : ∃ Y, W7.alloc (.cells (sayC true 3 (.slice aq2 1 cq2) (.slice an2' an2.length cn2) (.slice (some ⟨bs, os, none⟩) 1 cs2) (.slice ad2' ad2.length cd2)) 34) = Y := ⟨_, rfl⟩
              have gY2 : Y2.heap[W7.heap.size]? = some (.cells (sayC true 3 (.slice aq2 1 cq2) (.slice an2' an2.length cn2) (.slice (some ⟨bs, os, none⟩) 1 cs2) (.slice ad2' ad2.length cd2)) 34 (0, 0)) := by rw [← hY2]; exact World.alloc_heap_new _ _
              have hal : Below W7.heap.size W7 Y2 := by rw [← hY2]; exact (Below.refl _ W7).alloc (Nat.le_refl _) _
              have hbY2 := hb7.trans (hal.mono hb7.size)
              have g12 := heap_later hal g17
              have d1' := (hal.cell (p := ⟨bs, os + 1, none⟩) hbs).trans d1
              have hbs2 := Nat.lt_of_lt_of_le hbs hal.size
              have hone2 : (sayC true 3 (.slice aq2 1 cq2) (.slice an2' an2.length cn2) (.slice (some ⟨bs, os, none⟩) 1 cs2) (.slice ad2' ad2.length cd2)).all (·.oneCell') = true := by simp [Value.oneCell']
              clear hx hm hqq haa hss hdd hMV hb7 g17 hal hc hsv d1 hbs hx6
              have GY2 := Go.Lib.hid gY2
              have HBY2 := Go.Lib.hid hbY2
              have HONE2 := Go.Lib.hid hone2
              have G12 := Go.Lib.hid g12
              have D1 := Go.Lib.hid d1'
              clear gY2 hbY2 hone2 g12 d1'
              go_wp2_with (first | (refine wpList_store_row rfl 34 (.tmp 12) (.tmp 67) rfl W7.heap.size _ rfl rfl _ _ (World.alloc_heap_new _ _) infoMsg rfl HONE2.out ?_; rw [World.setRow_alloc_new, hY2]))
              clear hY2
              refine (HLK.out Y2 HBY2.out).mono ?_; rintro e W8 ⟨v8, rfl, hv8, hx⟩
              obtain ⟨al, cl, rfl, _, _⟩ := hv8.slice
              rw [P5.out]
              have hb8 := HBY2.out.trans (hx.mono HBY2.out.size)
              have g18 := heap_later hx G12.out
              have g28 := heap_later hx GY2.out
              have d18 := (hx.cell (p := ⟨bs, os + 1, none⟩) hbs2).trans D1.out
              have e7 : W8.cell? ⟨W6.heap.size, 7, none⟩ = some (.int .i64 0) := row_cell g18 7 _ rfl
              have e9 : W8.cell? ⟨W6.heap.size, 9, none⟩ = some (.slice an 0 cn) := row_cell g18 9 _ rfl
              have e10 : W8.cell? ⟨W6.heap.size, 10, none⟩ = some (.slice asl 1 cs) := row_cell g18 10 _ rfl
              have e3 : W8.cell? ⟨W6.heap.size, 3, none⟩ = some (.bool true) := row_cell g18 3 _ rfl
              have o7 : W8.cell? ⟨W7.heap.size, 7, none⟩ = some (.int .i64 3) := row_cell g28 7 _ rfl
              have o10 : W8.cell? ⟨W7.heap.size, 10, none⟩ = some (.slice (some ⟨bs, os, none⟩) 1 cs2) := row_cell g28 10 _ rfl
              have o3 : W8.cell? ⟨W7.heap.size, 3, none⟩ = some (.bool true) := row_cell g28 3 _ rfl
              have hbr8 := HBR.out.trans (hb8.mono HBR.out.size)
              clear hx hv8 g18 g28 hb8
              have HBR8 := Go.Lib.hid hbr8
              clear hbr8
              go_wp2_with fail
              refine (HPR.out _).mono ?_; rintro e W9 ⟨rfl, hx⟩
              have hbr9 := HBR8.out.trans (hx.mono HBR8.out.size)
              clear hx
              have HBR9 := Go.Lib.hid hbr9
              clear hbr9
              go_wp2_with fail
              go_roundw
              case rel => exact ⟨j, rfl, by omega, HBR9.out⟩
              case measure =>
                rw [strLen_mk, strLen_mk, HSL0.out, ← HSN.out, nN_len]
                omega
  · by_cases h1 : q < 1
    · go_enter Tryz.func5, Tryz.ntmps5
      go_wp2_with fail
      refine (HAW.out _).mono ?_; rintro e W9 ⟨rfl, hx⟩
      have HX := Go.Lib.hid hx
      clear hx
      go_wp2_with fail
      go_ret
      exact ⟨rfl, HX.out⟩
    · have h5 : (5 : Int) < q := by omega
      clear hin
      go_enter Tryz.func5, Tryz.ntmps5
      go_wp2_with fail
      refine (HAW.out _).mono ?_; rintro e W9 ⟨rfl, hx⟩
      have HX := Go.Lib.hid hx
      clear hx
      go_wp2_with fail
      go_ret
      exact ⟨rfl, HX.out⟩
set_option maxRecDepth 100000 in
theorem lifted (os : Os) (started : os.Started) (H : Type) (enc : TypeId × Value → H) :
    ReturnsInHanded {} Tryz.checked os 5 .any (Rows.treeEmptySpec.pre6 enc Tryz.prog Tryz.f5 Rows.treeEmptyRow.domain false) (Rows.treeEmptySpec.post enc Tryz.prog Tryz.f5 false true false false) := by
  refine returnsInHanded_of_change (C := Tryz.checked) own started (by kernel_rfl) Tryz.func5
    (ChangeSpec.witness6 (enc := enc) (C := Tryz.checked) false ⟨#[], #[.int .i64 0, .int .i64 0], []⟩ 8 (by kernel_rfl) (by kernel_rfl) (by kernel_rfl) (by kernel_rfl)) ?_
  intro W base args ds gs before hval0 hW hcnd _
  have hval : ∀ (j : Nat) t v, Tryz.f5.params[j]? = some t → args[j]? = some v → Value.okWide Tryz.prog W .any base t v := hval0
  refine law_post enc 2 (by kernel_rfl) rfl rfl (by kernel_rfl) (fun ds h => match ds, h with | [_, _], _ => rfl) hW ?_
  obtain ⟨p, q, hA0, hV, rfl, _, _⟩ := hW
  have hA : DataW.TrodAll enc Tryz.prog W 0 (fun _ => true) true Tryz.f5.params.toList args.toList ds p := hA0
  rw [Tryz.params5] at hA hval
  obtain ⟨v0, vs0, d0, ds0, p0, q0, hargs, rfl, rfl, h0, r0⟩ := trodAll_cons hA
  obtain ⟨v1, vs1, d1, ds1, p1, q1, rfl, rfl, rfl, h1, r1⟩ := trodAll_cons r0
  obtain ⟨rfl, rfl, rfl⟩ := trodAll_nil r1
  obtain rfl : args = #[v0, v1] := by cases args; simp_all
  obtain ⟨a0, rfl, rfl, rfl, w0⟩ := open_int Tryz.underlying3 (hval 0 3 v0 rfl rfl) h0
  obtain ⟨a1, rfl, rfl, rfl, w1⟩ := open_int Tryz.underlying3 (hval 1 3 v1 rfl rfl) h1
  exact walk a0 a1 W (fits_of_wf w0) (fits_of_wf w1)

theorem over : Rows.treeEmptyRow.holds Tryz.pinned (OpenSpec.ofChange Rows.treeEmptySpec) :=
  OpenClaim.holds_of_wide 5 Tryz.f5 rfl rfl rfl rfl rfl rfl rfl ⟨rfl, rfl, rfl, rfl, rfl⟩ rfl rfl rfl rfl rfl (by kernel_rfl) Tryz.func5 (by kernel_rfl)
    (of_decide_eq_true (by kernel_rfl)) (by unfold Func.isWrapper; first | (rw [if_pos (by decide +kernel)]; kernel_rfl) | (rw [if_neg (by decide +kernel)]; exact ⟨rfl, rfl⟩))
    (fun os started H enc _ => lifted os started H enc)

/-- the statement -/
theorem proved : Rows.TreeEmptySaid := over
#print axioms proved
end Go.Proofs.YtkpcmnckdappnaaGreat.treeEmpty
