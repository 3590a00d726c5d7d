/- Merged texts of the seat, in their order: RfM. -/
import Derived.Test.YthfhmbooeemaaaaG4
import Derived.Test.YthfhmbooeemaaaaG14
/- Message: the reference's Decode: its sections. -/
namespace Go.Proofs.Ythfhmbooeemaaaa
open Go.RowKit
set_option maxRecDepth 100000
set_option linter.unusedVariables false

set_option maxHeartbeats 32000000 in
theorem refDecode_rest (sa : Option Addr) (cap : Nat) (zs : List UInt8) (w : World) (hz : Byts w (.slice sa zs.length cap) zs) (hn : 12 ≤ zs.length) (hl : zs.length ≤ 1099511627776) (hf : ¬ (4096 < zs.length ∨ (bits .and .i64 (n2 zs 2) 112 != 0) = true)) (h4 : ¬ 4 < n2 zs 4) (ql : List Qn) (k1 : Nat) (hrun : runQ zs (n2 zs 4) ([], 12) = some (ql, k1)) :
    Calls Try.prog 13 #[.slice sa zs.length cap] w (RefEnd w (refDec zs)) := by
  have mixed : Try.prog.follows .mixedOrders = true := by kernel_rfl
  have hF := refDec_some hn hf h4 hrun
  generalize refDec zs = F at *
  have hcapN : zs.length ≤ cap := by
    obtain ⟨_, _, _, e, h2, _⟩ := hz
    cases e
    exact h2
  have HCAP := Go.Lib.hid hcapN
  have HHN := Go.Lib.hid hn
  clear hcapN
  have t1 : ¬ (zs.length : Int) < 12 := by omega
  obtain ⟨gb, off, rfl, hgw, hcell⟩ := Byts.at hz (by omega)
  obtain ⟨X, hXe⟩ : ∃ X, w.alloc (.cells #[.int .i64 0, .bool false, .int .i64 0, .bool false, .bool false, .bool false, .bool false, .int .i64 0, .slice none 0 0, .slice none 0 0, .slice none 0 0, .slice none 0 0, .bool false, .int .i64 0] 27) = X := ⟨_, rfl⟩
  have gX : X.heap[w.heap.size]? = some (.cells (MC mZ nilS nilS nilS nilS) 27 (0, 0)) := by rw [← hXe]; exact heap_alloc_new _ _
  have hbX : Below w.heap.size w X := by rw [← hXe]; exact (Below.refl _ w).alloc (Nat.le_refl _) _
  have hgX : gb < X.heap.size := Nat.lt_of_lt_of_le hgw hbX.size
  have Y : ∀ j, j < 12 → ∀ x : Subtype (Below X.heap.size X), x.1.cell? ⟨gb, off + j, none⟩ = some (.int .u8 ((zs.getD j 0).toNat : Int)) := fun j hj => BelowC.cell (W := X) ((hbX.cell (p := ⟨gb, off + j, none⟩) hgw).trans (hcell j (by omega))) hgX
  have Y0 : ∀ x : Subtype (Below X.heap.size X), x.1.cell? ⟨gb, off, none⟩ = some (.int .u8 ((zs.getD 0 0).toNat : Int)) := Y 0 (by omega)
  have Y1 := Y 1 (by omega)
  have Y2 := Y 2 (by omega)
  have Y3 := Y 3 (by omega)
  have o0 := or2 (zs.getD 0 0) (zs.getD 1 0)
  have o2 := or2 (zs.getD 2 0) (zs.getD 3 0)
  have l0 := (zs.getD 0 0).toNat_lt
  have l1 := (zs.getD 1 0).toNat_lt
  have l2 := (zs.getD 2 0).toNat_lt
  have l3 := (zs.getD 3 0).toNat_lt
  have hn0 : n2 zs 0 = (zs.getD 0 0).toNat * 256 + (zs.getD 1 0).toNat := rfl
  have hn2 : n2 zs 2 = (zs.getD 2 0).toNat * 256 + (zs.getD 3 0).toNat := rfl
  have p0 : 0 < zs.length := by omega
  have p1 : (1 : Int) < (zs.length : Int) := by omega
  have p2 : (2 : Int) < (zs.length : Int) := by omega
  have p3 : (3 : Int) < (zs.length : Int) := by omega
  have hne : Nonempty (Subtype (Below X.heap.size X)) := ⟨⟨X, Below.refl _ _⟩⟩
  generalize zs.getD 0 0 = a0 at *
  generalize zs.getD 1 0 = a1 at *
  generalize zs.getD 2 0 = a2 at *
  generalize zs.getD 3 0 = a3 at *
  have q4 : IntKind.i64.wrap ((a0.toNat : Int) * 256) = (a0.toNat : Int) * 256 := wrapi (by omega) (by omega)
  have q5 : IntKind.i64.wrap (a0.toNat : Int) = (a0.toNat : Int) := wrapi (by omega) (by omega)
  have q6 : IntKind.i64.wrap (a1.toNat : Int) = (a1.toNat : Int) := wrapi (by omega) (by omega)
  have r4 : IntKind.i64.wrap ((a2.toNat : Int) * 256) = (a2.toNat : Int) * 256 := wrapi (by omega) (by omega)
  have r5 : IntKind.i64.wrap (a2.toNat : Int) = (a2.toNat : Int) := wrapi (by omega) (by omega)
  have r6 : IntKind.i64.wrap (a3.toNat : Int) = (a3.toNat : Int) := wrapi (by omega) (by omega)
  rw [← hn0] at o0
  rw [← hn2] at o2
  have b0 := n2_le zs 0
  have b2 := n2_le zs 2
  clear hn0 hn2
  generalize n2 zs 0 = i0 at *
  generalize n2 zs 2 = f0 at *
  have GX := Go.Lib.hid gX
  have HBX := Go.Lib.hid hbX
  have HZ := Go.Lib.hid hz
  have HFB := Go.Lib.hid hf
  have HF := Go.Lib.hid hF
  clear gX hbX hz hf hF
  clear Y hcell
  go_enter Try.func13, Try.ntmps13
  go_wp2_with fail
  refine Go.Mix.wp_region_mixT (Es := []) 10 (Below X.heap.size X) mixed (by kernel_rfl) (Below.refl _ _).drew ?_
  iterate 10 (refine Go.Mix.mixT_step rfl (fun K hK => ?_); have HKK := Go.Lib.hid hK; clear hK; go_simp; refine HKK.out _ _ ?_; clear HKK K)
  refine Go.Mix.mixT_last rfl (fun K hK => ?_)
  have HKK := Go.Lib.hid hK
  clear hK
  go_simp
  refine HKK.out _ _ ?_
  clear HKK K
  go_wp2_with fail
  refine Go.Mix.wp_region_mixT (Es := [35]) 36 (Below X.heap.size X) mixed (by kernel_rfl) (Below.refl _ _).drew.drew ?_
  iterate 35 (refine Go.Mix.mixT_step rfl (fun K hK => ?_); have HKK := Go.Lib.hid hK; clear hK; go_simp; refine HKK.out _ _ ?_; clear HKK K)
  refine Go.Mix.mixT_eff rfl (fun K hK => ?_)
  have HKK := Go.Lib.hid hK
  clear hK
  go_simp
  refine HKK.out _ _ (((Below.refl _ _).drew.drew).alloc (by simp) _) ?_
  clear HKK K
  refine Go.Mix.mixT_last rfl (fun K hK => ?_)
  have HKK := Go.Lib.hid hK
  clear hK
  go_simp
  refine HKK.out _ _ ?_
  clear HKK K
  obtain ⟨HM, hHM⟩ : ∃ m, m = headM (i0 : Int) (f0 : Int) := ⟨_, rfl⟩
  obtain ⟨V, hV⟩ : ∃ V, (X.alloc (.cells (MC (headM (i0 : Int) (f0 : Int)) nilS nilS nilS nilS) 27)).drew.drew = V := ⟨_, rfl⟩
  show Exit.then _ _ _ _ (X.alloc (.cells (MC (headM (i0 : Int) (f0 : Int)) nilS nilS nilS nilS) 27)).drew.drew
  rw [hV]
  rw [← hHM] at hV HF
  have gV : V.heap[X.heap.size]? = some (.cells (MC HM nilS nilS nilS nilS) 27 (0, 0)) := by rw [← hV]; exact heap_alloc_new _ _
  have hbV : Below X.heap.size X V := by rw [← hV]; exact ((Below.refl _ X).alloc (Nat.le_refl _) _).drew.drew
  have gz : V.heap[w.heap.size]? = some (.cells (MC mZ nilS nilS nilS nilS) 27 (0, 0)) := (hbV.block _ (Array.getElem?_eq_some_iff.1 GX.out).1).trans GX.out
  have hone := msg_one HM (q := nilS) (a := nilS) (s := nilS) (d := nilS) ⟨rfl, rfl, rfl, rfl⟩
  obtain ⟨fs, hu⟩ := undMsg
  obtain ⟨O, hO⟩ : ∃ O, V.alloc (.cells (MC HM nilS nilS nilS nilS) 27) = O := ⟨_, rfl⟩
  have gO : O.heap[V.heap.size]? = some (.cells (MC HM nilS nilS nilS nilS) 27 (0, 0)) := by rw [← hO]; exact heap_alloc_new _ _
  have hbO : Below V.heap.size V O := by rw [← hO]; exact (Below.refl _ V).alloc (Nat.le_refl _) _
  have gzO := (hbO.block _ (Array.getElem?_eq_some_iff.1 gz).1).trans gz
  have hbb := HBX.out.trans ((hbV.trans (hbO.mono hbV.size)).mono HBX.out.size)
  have u1 : ¬ (4096 : Int) < (zs.length : Int) := fun h => HFB.out (.inl (by omega))
  have u2 : (bits .and .i64 ((f0 : Int) / 16) 7 != 0) = false := by
    rw [flag7 f0 (by omega)]
    cases hb : (bits .and .i64 (f0 : Int) 112 != 0) with
    | false => rfl
    | true => exact absurd (.inr hb) HFB.out
  have htw := refTwo_any (some ⟨gb, off, none⟩) cap zs 4 O (HZ.out.below hbb (Nat.le_refl _)) (by decide) hl
  rw [refTwo_n2 (show 4 + 2 ≤ zs.length by omega)] at htw
  have u3 : ¬ (4 : Int) < ((n2 zs 4 : Nat) : Int) := by omega
  have hX6 : w.heap.size < X.heap.size := by rw [← hXe]; simp
  have hX7 : X.heap.size < V.heap.size := (Array.getElem?_eq_some_iff.1 gV).1
  have hOs : V.heap.size + 1 = O.heap.size := by rw [← hO]; simp
  have hc0 := n2_le zs 4
  generalize n2 zs 4 = c0 at *
  have HC0 := Go.Lib.hid hc0
  have GV := Go.Lib.hid gV
  have HBV := Go.Lib.hid hbV
  have GZ := Go.Lib.hid gz
  have HU := Go.Lib.hid hu
  have GO := Go.Lib.hid gO
  have GZO := Go.Lib.hid gzO
  have HBB := Go.Lib.hid hbb
  have HHM := Go.Lib.hid hHM
  have HTW := Go.Lib.hid htw
  have HX6 := Go.Lib.hid hX6
  have HX7 := Go.Lib.hid hX7
  have HOS := Go.Lib.hid hOs
  have HRUN := Go.Lib.hid hrun
  clear gV hbV gz hu gO gzO hbb hHM htw hX6 hX7 hOs hrun
  clear hV hXe Y0 Y1 Y2 Y3 hbO h4
  simp only [MC] at hO
  obtain ⟨k7, hk7⟩ : ∃ k, bits .and .i64 ((f0 : Int) / 16) 7 = k := ⟨_, rfl⟩
  rw [hk7] at u2
  go_wp2_with (first | (refine wpList_load_rowG rfl 27 (.tmp 6) rfl X.heap.size rfl _ _ (0, 0) _ GV.out HU.out rfl infoMsg ?_))
  refine HTW.out.mono ?_; rintro e O2 ⟨rfl, hx2⟩
  have hdq0 : DQ w X.heap.size V.heap.size HM [] nilS O2 := by
    have hd : DQ w X.heap.size V.heap.size HM [] nilS O := ⟨HBB.out, GZO.out, ((by rw [← hO]; exact heap_old GV.out _) : O.heap[X.heap.size]? = _), GO.out, World.ownsRow_nil _ _ _ _⟩
    exact hd.below hx2
  have hos2 : V.heap.size + 1 ≤ O2.heap.size := by have := hx2.size; have := HOS.out; omega
  have HDQ0 := Go.Lib.hid hdq0
  have HOS2 := Go.Lib.hid hos2
  clear hdq0 hos2
  clear hx2 hO GV GZ GO GZO HBV HTW
  go_wp2_with fail
  have hl5 : zs.length ≤ 4096 := by omega
  clear u1 u2 u3 o0 o2 p1 p2 p3 q4 q5 q6 r4 r5 r6 hk7
  go_loopw [10, 11] (fun a i wr => ∃ (j k : Nat) (l : List Qn) (qv : Value), a = .int .i64 (k : Int) ∧ i = .int .i64 (j : Int) ∧ j ≤ c0 ∧ l.length = j ∧ k ≤ zs.length ∧ runQ zs (c0 - j) (l, k) = some (ql, k1) ∧ DQ w X.heap.size V.heap.size HM l qv wr ∧ V.heap.size + 1 ≤ wr.heap.size) (fun _ i _ => c0 - (intOf i).toNat)
  case atStart => exact ⟨0, 12, [], _, rfl, rfl, Nat.zero_le _, rfl, hn, HRUN.out, HDQ0.out, HOS2.out⟩
  case round =>
    clear HDQ0 HOS2 HRUN
    obtain ⟨j, k, l, qv, rfl, rfl, hj, hlen, hk, hrun, hdq, hws⟩ := hrel
    by_cases hlt : j < c0
    · have t2 : (j : Int) < (c0 : Int) := by omega
      have hxl := xN_le zs k
      have hget : Calls Try.prog 29 #[.slice (some ⟨gb, off, none⟩) zs.length cap, .int .i64 (k : Int)] wr fun e w' => e = .returned (.tuple #[.string (mk (getN zs k).1), .int .i64 ((xN zs k : Nat) : Int), .bool ((getN zs k).2.2 == 0)]) ∧ Below wr.heap.size wr w' := by
        have h := refGet_any gb off cap zs k wr (HZ.out.below hdq.hb (Nat.le_refl _)) hk hl
        rw [← getN_nat]
        exact h
      have htw1 := fun (W : World) (h : Below w.heap.size w W) => refTwo_any (some ⟨gb, off, none⟩) cap zs (xN zs k) W (HZ.out.below h (Nat.le_refl _)) (by omega) hl
      have htw2 := fun (W : World) (h : Below w.heap.size w W) => refTwo_any (some ⟨gb, off, none⟩) cap zs (xN zs k + 2) W (HZ.out.below h (Nat.le_refl _)) (by omega) hl
      have w1 : IntKind.i64.wrap ((xN zs k : Int) + 2) = (xN zs k : Int) + 2 := wrapi (by omega) (by omega)
      have w2 : IntKind.i64.wrap ((xN zs k : Int) + 4) = (xN zs k : Int) + 4 := wrapi (by omega) (by omega)
      have w3 : IntKind.i64.wrap ((j : Int) + 1) = (j : Int) + 1 := wrapi (by omega) (by omega)
      rw [show c0 - j = (c0 - (j + 1)) + 1 by omega, runQ] at hrun
      unfold stepQ at hrun
      simp only at hrun
      by_cases hq : qsOk zs k
      · as_aux_lemma =>
          subst hlen
          simp only [if_pos hq, Option.bind_some] at hrun
          have hok : ((getN zs k).2.2 == 0) = true := beq_iff_eq.2 hq.1
          have hq2 := hq.2
          simp only [refTwo_n2 (show xN zs k + 2 ≤ zs.length by omega)] at htw1
          simp only [refTwo_n2 (show xN zs k + 2 + 2 ≤ zs.length by omega)] at htw2
          rw [hok] at hget
          unfold tN cN at hrun
          obtain ⟨av, cv, rfl, _, _⟩ := (SlC.of_owns hdq.own).slice
          have HDQ := Go.Lib.hid hdq
          have HGET := Go.Lib.hid hget
          have HT1 := Go.Lib.hid htw1
          have HT2 := Go.Lib.hid htw2
          have HRUN2 := Go.Lib.hid hrun
          have HWS := Go.Lib.hid hws
          clear hdq hget htw1 htw2 hrun hws
          clear hq hok HF
          generalize (getN zs k).1 = nm at *
          generalize n2 zs (xN zs k) = ty at *
          generalize n2 zs (xN zs k + 2) = cl at *
          generalize xN zs k = x at *
          go_wp2_with fail
          refine HGET.out.mono ?_; rintro e W1 ⟨rfl, hx1⟩
          have hd1 := HDQ.out.below hx1
          have hc1 := HT1.out W1 hd1.hb
          have hs1 := Nat.le_trans HWS.out hx1.size
          have HD1 := Go.Lib.hid hd1
          have HC1 := Go.Lib.hid hc1
          clear hd1 hc1
          clear hx1
          go_wp2_with fail
          refine HC1.out.mono ?_; rintro e W2 ⟨rfl, hx2⟩
          have hd2 := HD1.out.below hx2
          have hc2 := HT2.out W2 hd2.hb
          have hs2 := Nat.le_trans hs1 hx2.size
          have HD2 := Go.Lib.hid hd2
          have HC2 := Go.Lib.hid hc2
          clear hd2 hc2
          clear hx2 hs1
          go_wp2_with fail
          refine HC2.out.mono ?_; rintro e W3 ⟨rfl, hx3⟩
          have hd3 := HD2.out.below hx3
          have hs3 := Nat.le_trans hs2 hx3.size
          have c8 : W3.cell? ⟨X.heap.size, 8, none⟩ = some (.slice av l.length cv) := row_cell hd3.r6 8 _ rfl
          have hd4 := hd3.below ((Below.refl _ W3).alloc (Nat.le_refl _) (.cells #[.string (mk nm), .int .i64 (ty : Int), .int .i64 (cl : Int)] 47))
          have HD4 := Go.Lib.hid hd4
          clear hd4
          clear hx3 hd3 hs2 HDQ HD1 HD2 HGET HT1 HT2 HC1 HC2
          have hlen5 : l.length ≤ 65535 := by have := HC0.out; omega
          go_wp2_with (at_builtin; refine wpList_app1 eiQn (.tmp 142) (.tmp 147) rfl rfl (V.heap.size + 1) rfl rfl HD4.out.own (news := [.string (mk nm), .int .i64 (ty : Int), .int .i64 (cl : Int)]) rfl (new_cells _ _ _) (one_qs [⟨nm, (ty : Int), (cl : Int)⟩]) (by unfold maxLen; omega) (by omega) (by simp; omega) ?_; intro v1 W5 hown hg hsn; obtain ⟨g5, c5, rfl⟩ := ownsRow_succ hown; obtain ⟨hr5, hdq5⟩ := DQ_app (q := ⟨nm, (ty : Int), (cl : Int)⟩) HD4.out HX6.out HX7.out hg hown; have o9 : W5.cell? ⟨X.heap.size, 8, none⟩ = some (.slice av l.length cv) := row_cell hr5 8 _ rfl; have z9 : W5.frozen? ⟨X.heap.size, 8, none⟩ = false := row_frozen hr5 8; have hs5 : V.heap.size + 1 ≤ (W5.setCell ⟨X.heap.size, 8, none⟩ (.slice (some ⟨g5, 0, none⟩) (l.length + 1) c5)).heap.size := (by have := hg.size; simp at *; omega); have HDQ5 := Go.Lib.hid hdq5; have HS5 := Go.Lib.hid hs5; clear hdq5 hs5 hr5 hown hg hsn)
          go_roundw
          case rel => exact ⟨l.length + 1, x + 4, l ++ [⟨nm, (ty : Int), (cl : Int)⟩], _, by go_num, by go_num, by omega, by rw [List.length_append]; rfl, by omega, HRUN2.out, HDQ5.out, HS5.out⟩
          case measure => simp [intOf]; omega
      · simp only [if_neg hq, Option.bind_none] at hrun
        cases hrun
    · have hjc : c0 - j = 0 := by omega
      rw [hjc, runQ, Option.some.injEq, Prod.mk.injEq] at hrun
      obtain ⟨rfl, rfl⟩ := hrun
      have t2 : ¬ (j : Int) < (c0 : Int) := by omega
      clear hlen hjc hlt
      generalize wr = w1 at *
      have hst := RQ_start hdq (by rw [HHM.out]; rfl) (by rw [HHM.out]; rfl)
      have h9 : V.heap.size < w1.heap.size := hws
      obtain ⟨Y, hY⟩ : ∃ Y, w1.alloc (.cells #[nilS, nilS, nilS] 69) = Y := ⟨_, rfl⟩
      rw [hY] at hst
      have HST := Go.Lib.hid hst
      have H9 := Go.Lib.hid h9
      clear hst h9
      clear hdq hws
      go_wp2_with fail
      clear t2
      go_loopw [10, 20] (fun a i wr => ∃ (n k : Nat) (E : Bool) (Z : Int) (VV : Nat → Value) (L : Nat → List Rc.RR), a = .int .i64 (k : Int) ∧ i = .int .i64 (n : Int) ∧ n ≤ 3 ∧ k ≤ zs.length ∧ goS zs HM l (3 - n) L E Z k = F ∧ RQ w X.heap.size V.heap.size w1.heap.size HM l qv VV L E Z wr) (fun _ i _ => 3 - (intOf i).toNat)
      case atStart => exact ⟨0, k, false, 0, _, _, rfl, rfl, Nat.zero_le _, hk, HF.out.symm, HST.out⟩
      case round =>
        clear HF HST hY hk
        obtain ⟨n, k2, E, Z, VV, L, rfl, rfl, hn3, hk2, hgo, hrq⟩ := hrel
        generalize wr = w2 at *
        by_cases hlt3 : n < 3
        · have t3 : (n : Int) < 3 := by omega
          rw [goS_in hlt3] at hgo
          have hnn := HHN.out
          have htw : Calls Try.prog 28 #[.slice (some ⟨gb, off, none⟩) zs.length cap, .int .i64 (6 + 2 * (n : Int))] w2 fun e w' => e = .returned (.tuple #[.int .i64 ((n2 zs (6 + 2 * n) : Nat) : Int), .bool true]) ∧ Below w2.heap.size w2 w' := by
            have h := refTwo_any (some ⟨gb, off, none⟩) cap zs (6 + 2 * n) w2 (HZ.out.below hrq.hb (Nat.le_refl _)) (by omega) hl
            rw [refTwo_n2 (show 6 + 2 * n + 2 ≤ zs.length by omega)] at h
            rw [show (6 : Int) + 2 * (n : Int) = ((6 + 2 * n : Nat) : Int) by omega]
            exact h
          have w5 : IntKind.i64.wrap (2 * (n : Int)) = 2 * (n : Int) := wrapi (by omega) (by omega)
          have w6 : IntKind.i64.wrap (6 + 2 * (n : Int)) = 6 + 2 * (n : Int) := wrapi (by omega) (by omega)
          have hcn := n2_le zs (6 + 2 * n)
          generalize n2 zs (6 + 2 * n) = cn at *
          have HGO := Go.Lib.hid hgo
          have HRQ := Go.Lib.hid hrq
          have HTW := Go.Lib.hid htw
          clear hgo hrq htw
          clear hnn
          go_wp2_with fail
          refine HTW.out.mono ?_; rintro e W1 ⟨rfl, hx⟩
          have hrq1 := HRQ.out.below hx
          have HRQ1 := Go.Lib.hid hrq1
          clear hrq1
          clear hx HRQ HTW
          go_wp2_with fail
          clear w5 w6
          go_loopw [10, 23] (fun a i wr => ∃ (k jj : Nat) (E : Bool) (Z : Int) (VV : Nat → Value) (L : Nat → List Rc.RR), a = .int .i64 (k : Int) ∧ i = .int .i64 (jj : Int) ∧ jj ≤ cn ∧ k ≤ zs.length ∧ inS zs HM l n (cn - jj) L E Z k = F ∧ RQ w X.heap.size V.heap.size w1.heap.size HM l qv VV L E Z wr) (fun _ i _ => cn - (intOf i).toNat)
          case atStart => exact ⟨k2, 0, E, Z, VV, L, rfl, rfl, Nat.zero_le _, hk2, HGO.out, HRQ1.out⟩
          case round =>
            clear HGO HRQ1 hk2
            obtain ⟨k, jj, E, Z, VV, L, rfl, rfl, hj, hk, hin, hrq⟩ := hrel
            by_cases hlt : jj < cn
            · have t2 : (jj : Int) < (cn : Int) := by omega
              rw [show cn - jj = (cn - (jj + 1)) + 1 by omega] at hin
              have hxl := xN_le zs k
              have hget : Calls Try.prog 29 #[.slice (some ⟨gb, off, none⟩) zs.length cap, .int .i64 (k : Int)] wr fun e w' => e = .returned (.tuple #[.string (mk (getN zs k).1), .int .i64 ((xN zs k : Nat) : Int), .bool ((getN zs k).2.2 == 0)]) ∧ Below wr.heap.size wr w' := by
                have h := refGet_any gb off cap zs k wr (HZ.out.below hrq.hb (Nat.le_refl _)) hk hl
                rw [← getN_nat]
                exact h
              have htw1 := fun (W : World) (h : Below w.heap.size w W) => refTwo_any (some ⟨gb, off, none⟩) cap zs (xN zs k) W (HZ.out.below h (Nat.le_refl _)) (by omega) hl
              have htw2 := fun (W : World) (h : Below w.heap.size w W) => refTwo_any (some ⟨gb, off, none⟩) cap zs (xN zs k + 2) W (HZ.out.below h (Nat.le_refl _)) (by omega) hl
              have htw8 := fun (W : World) (h : Below w.heap.size w W) => refTwo_any (some ⟨gb, off, none⟩) cap zs (xN zs k + 8) W (HZ.out.below h (Nat.le_refl _)) (by omega) hl
              have wv1 : IntKind.i64.wrap ((xN zs k : Int) + 2) = (xN zs k : Int) + 2 := wrapi (by omega) (by omega)
              have wv2 : IntKind.i64.wrap ((xN zs k : Int) + 8) = (xN zs k : Int) + 8 := wrapi (by omega) (by omega)
              have wv3 : IntKind.i64.wrap ((jj : Int) + 1) = (jj : Int) + 1 := wrapi (by omega) (by omega)
              have wv4 : IntKind.i64.wrap ((zs.length : Int) - (xN zs k : Int)) = (zs.length : Int) - (xN zs k : Int) := wrapi (by omega) (by omega)
              have wv5 : IntKind.i64.wrap ((zs.length : Int) - (xN zs k : Int) - 10) = (zs.length : Int) - (xN zs k : Int) - 10 := wrapi (by omega) (by omega)
              by_cases hr : recOk zs k
              · have wv6 : IntKind.i64.wrap ((xN zs k : Int) + 4) = (xN zs k : Int) + 4 := wrapi (by omega) (by omega)
                have wv7 : IntKind.i64.wrap ((xN zs k : Int) + 10) = (xN zs k : Int) + 10 := wrapi (by omega) (by omega)
                have hso := fun h => stepR_opt (n := n) (l := L n) (E := E) (Z := Z) hr h
                have hsr := fun h => stepR_rec (n := n) (l := L n) (E := E) (Z := Z) hr h
                obtain ⟨h0, h1, h2⟩ := hr
                have wv8 : IntKind.i64.wrap ((xN zs k : Int) + 10 + (n2 zs (xN zs k + 8) : Int)) = (xN zs k : Int) + 10 + (n2 zs (xN zs k + 8) : Int) := wrapi (by omega) (by omega)
                have hnm := getN_len h0
                have hok : ((getN zs k).2.2 == 0) = true := beq_iff_eq.2 h0
                rw [hok] at hget
                simp only [refTwo_n2 (show xN zs k + 2 ≤ zs.length by omega)] at htw1
                simp only [refTwo_n2 (show xN zs k + 2 + 2 ≤ zs.length by omega)] at htw2
                simp only [refTwo_n2 (show xN zs k + 8 + 2 ≤ zs.length by omega)] at htw8
                have hdl := fun d (h : refDataN zs (xN zs k + 10) (n2 zs (xN zs k + 8)) (n2 zs (xN zs k) : Int) = some d) => refDataN_len h2 h
                have hdata := fun (W : World) (h : Below w.heap.size w W) => refMData_any gb off cap zs (xN zs k + 10) (n2 zs (xN zs k + 8)) (n2 zs (xN zs k) : Int) W (HZ.out.below h (Nat.le_refl _)) h2 hl
                obtain ⟨ca, cb, cc, ce, hq4⟩ := four_of (show ((zs.drop (xN zs k + 4)).take 4).length = 4 by rw [List.length_take, List.length_drop]; omega)
                have hcv : ∀ W : World, Below w.heap.size w W → (convert 22 9 (.slice (some ⟨gb, off + (xN zs k + 4), none⟩) 4 (cap - (xN zs k + 4)))).run Try.prog W = .ok (.string (mk [ca, cb, cc, ce])) W := fun W h => by
                  rw [← hq4]
                  have := Byts.sub (HZ.out.below h (Nat.le_refl _)) rfl (i := xN zs k + 4) (j := xN zs k + 4 + 4) (by omega) (by omega) (a' := some ⟨gb, off + (xN zs k + 4), none⟩) (fun _ => rfl) (fun h => by cases h)
                  rw [Nat.add_sub_cancel_left] at this
                  exact run_conv_string this
                have hnc := fun W => freshetref1_number_any ca cb cc ce W
                rw [← num4_l hq4] at hsr
                have hcx : ¬ cap = xN zs k + 4 := by have := HCAP.out; omega
                have p1 : (0 : Int) ≤ (xN zs k : Int) + 4 := by omega
                have p2 : (xN zs k : Int) + 4 ≤ (xN zs k : Int) + 8 := by omega
                have p3 : (xN zs k : Int) + 8 ≤ (cap : Int) := by have := HCAP.out; omega
                have p4 : ((xN zs k : Int) + 4).toNat = xN zs k + 4 := by omega
                have p5 : ((xN zs k : Int) + 8).toNat = xN zs k + 4 + 4 := by omega
                have p6 : ¬ (zs.length : Int) - (xN zs k : Int) - 10 < (n2 zs (xN zs k + 8) : Int) := by omega
                have hw2 := n2_le zs (xN zs k + 2)
                have HRQ := Go.Lib.hid hrq
                have HGET := Go.Lib.hid hget
                have HT1 := Go.Lib.hid htw1
                have HT2 := Go.Lib.hid htw2
                have HT8 := Go.Lib.hid htw8
                have HSO := Go.Lib.hid hso
                have HSR := Go.Lib.hid hsr
                have HDL := Go.Lib.hid hdl
                have HDATA := Go.Lib.hid hdata
                have HCV := Go.Lib.hid hcv
                have HNUM := Go.Lib.hid hnc
                have HNM := Go.Lib.hid hnm
                have HIN := Go.Lib.hid hin
                clear hrq hget htw1 htw2 htw8 hso hsr hdl hdata hcv hnc hnm hin
                clear hq4 hok h0 hxl
                generalize ((num4 ca cb cc ce : Nat) : Int) = tt at *
                generalize (getN zs k).1 = nm at *
                generalize refDataN zs (xN zs k + 10) (n2 zs (xN zs k + 8)) (n2 zs (xN zs k) : Int) = D at *
                generalize n2 zs (xN zs k) = ty at *
                generalize n2 zs (xN zs k + 2) = cl at *
                generalize n2 zs (xN zs k + 8) = sz at *
                generalize xN zs k = x at *
                obtain ⟨x4, hx4⟩ : ∃ x4, x + 4 = x4 := ⟨_, rfl⟩
                rw [hx4] at p4 p5 hcx HCV
                have HX4 := Go.Lib.hid hx4
                clear hx4
                go_wp2_with fail
                refine HGET.out.mono ?_; rintro e U1 ⟨rfl, hx1⟩
                have hd1 := HRQ.out.below hx1
                have hc1 := HT1.out U1 hd1.hb
                have HD1 := Go.Lib.hid hd1
                have HC1 := Go.Lib.hid hc1
                clear hd1 hc1
                clear hx1
                go_wp2_with fail
                refine HC1.out.mono ?_; rintro e U2 ⟨rfl, hx2⟩
                have hd2 := HD1.out.below hx2
                have hc2 := HT2.out U2 hd2.hb
                have HD2 := Go.Lib.hid hd2
                have HC2 := Go.Lib.hid hc2
                clear hd2 hc2
                clear hx2
                go_wp2_with fail
                refine HC2.out.mono ?_; rintro e U3 ⟨rfl, hx3⟩
                have hd3 := HD2.out.below hx3
                have hc3 := HT8.out U3 hd3.hb
                have HD3 := Go.Lib.hid hd3
                have HC3 := Go.Lib.hid hc3
                clear hd3 hc3
                clear hx3
                go_wp2_with fail
                refine HC3.out.mono ?_; rintro e U4 ⟨rfl, hx4⟩
                have hd4 := HD3.out.below hx4
                have hcv4 := HCV.out U4 hd4.hb
                have HD4 := Go.Lib.hid hd4
                clear hd4
                clear hx4 HRQ HD1 HD2 HD3 HGET HC1 HC2 HC3 HT1 HT2 HT8 HCV
                go_wp2_with fail
                refine (HNUM.out U4).mono ?_; rintro e U5 ⟨rfl, hx5⟩
                have hd5 := HD4.out.below hx5
                have HD5 := Go.Lib.hid hd5
                clear hd5
                clear hx5 HNUM HD4 hcv4
                by_cases ht : ty = 41
                · as_aux_lemma =>
                    have e1 : ((ty : Int) == 41) = true := by rw [beq_iff_eq]; omega
                    have hso := HSO.out ht
                    have hc12 : U5.cell? ⟨X.heap.size, 12, none⟩ = some (.bool E) := row_cell HD5.out.r6 12 _ rfl
                    have hc13 : U5.cell? ⟨X.heap.size, 13, none⟩ = some (.int .i64 Z) := row_cell HD5.out.r6 13 _ rfl
                    by_cases hb : n ≠ 2 ∨ nm ≠ [0] ∨ E = true
                    · rw [if_pos hb] at hso
                      have hin := HIN.out
                      rw [inS_no hso] at hin
                      subst hin
                      have hcs : ((n : Int) != 2) = true ∨ (((n : Int) != 2) = false ∧ ¬ (mk nm).toList = [0]) ∨ (((n : Int) != 2) = false ∧ (mk nm).toList = [0] ∧ E = true) := by
                        by_cases hn2 : n = 2
                        · right
                          by_cases hm : nm = [0]
                          · refine .inr ⟨by subst hn2; rfl, by rw [toList_bl, bl_mk]; exact hm, ?_⟩
                            rcases hb with h | h | h
                            · exact absurd hn2 h
                            · exact absurd hm h
                            · exact h
                          · exact .inl ⟨by subst hn2; rfl, by rw [toList_bl, bl_mk]; exact hm⟩
                        · left
                          simp only [bne_iff_ne]
                          omega
                      clear hso hb ht HSO HSR HDL HDATA HNM HIN
                      rcases hcs with e2 | ⟨e2, e3⟩ | ⟨e2, e3, rfl⟩
                      all_goals
                        have HR7 := Go.Lib.hid HD5.out.r7
                        have HR2 := Go.Lib.hid HD5.out.r2
                        have HB3 := Go.Lib.hid HD5.out.hb
                        go_wp2_with (first | (refine wpList_load_rowG rfl 27 (.tmp 7) rfl V.heap.size rfl _ _ (0, 0) _ HR7.out HU.out rfl infoMsg ?_) | (refine wpList_store_row rfl 27 (.tmp 2) (.tmp 244) rfl w.heap.size (MC HM nilS nilS nilS nilS) rfl rfl _ _ HR2.out infoMsg rfl hone ?_))
                        refine ret_m3 (m := HM) rfl rfl rfl rfl rfl (setRow_heap _ _ _ _ _ _ HR2.out) ⟨nilS, nilS, nilS, nilS, rfl, ?_, below_setRow HB3.out (Nat.le_refl _) _⟩
                        rw [HHM.out]
                        exact ⟨SlC.nil _ _, SlC.nil _ _, SlC.nil _ _, SlC.nil _ _⟩
                    · rw [if_neg hb] at hso
                      have hin := HIN.out
                      rw [inS_some hso] at hin
                      simp only [updL_self] at hin
                      have hn2 : n = 2 := Classical.byContradiction fun h => hb (.inl h)
                      have hm : nm = [0] := Classical.byContradiction fun h => hb (.inr (.inl h))
                      have hE : E = false := by
                        cases hE : E with
                        | false => rfl
                        | true => exact absurd (.inr (.inr hE)) hb
                      have e3 : (mk nm).toList = [0] := by rw [toList_bl, bl_mk]; exact hm
                      subst hE
                      have e2 : ((n : Int) != 2) = false := by rw [hn2]; rfl
                      have z12 := row_frozen HD5.out.r6 12
                      have z13 : (U5.setCell ⟨X.heap.size, 12, none⟩ (.bool true)).frozen? ⟨X.heap.size, 13, none⟩ = false := row_frozen (heap_set HD5.out.r6) 13
                      have y13 : (U5.setCell ⟨X.heap.size, 12, none⟩ (.bool true)).cell? ⟨X.heap.size, 13, none⟩ = some (.int .i64 Z) := row_cell (heap_set HD5.out.r6) 13 _ rfl
                      have hd6 := HD5.out.edns HX6.out HX7.out H9.out true (cl : Int)
                      have HIN2 := Go.Lib.hid hin
                      have HD6 := Go.Lib.hid hd6
                      clear hin hd6
                      clear hso hb ht HSO HSR HDL HDATA HNM HIN hn2 hm
                      go_wp2_with fail
                      go_roundw
                      case rel => exact ⟨x + 10 + sz, jj + 1, true, (cl : Int), VV, L, by go_num, by go_num, by omega, by omega, HIN2.out, HD6.out⟩
                      case measure => simp [intOf]; omega
                · have e1 : ((ty : Int) == 41) = false := by rw [beq_eq_false_iff_ne]; omega
                  have hsr := HSR.out ht
                  obtain ⟨av, cvp, hvn, _, _⟩ := (SlC.of_owns (HD5.out.own n hlt3)).slice
                  have hdata5 : Calls Try.prog 31 #[.slice (some ⟨gb, off, none⟩) zs.length cap, .int .i64 ((x : Int) + 10), .int .i64 (sz : Int), .int .i64 (ty : Int)] U5 fun e w' => e = .returned (optS D) ∧ Below U5.heap.size U5 w' := HDATA.out U5 HD5.out.hb
                  have HSR2 := Go.Lib.hid hsr
                  have HDATA5 := Go.Lib.hid hdata5
                  have HVN := Go.Lib.hid hvn
                  clear hsr hdata5 hvn
                  clear HSO HSR HDATA ht
                  by_cases h31 : (2147483648 : Int) ≤ (tt : Int)
                  · as_aux_lemma =>
                      have htl : tl (tt : Int) = 0 := if_pos h31
                      have hsr := HSR2.out
                      rw [htl] at hsr
                      clear HSR2 htl
                      have HSR3 := Go.Lib.hid hsr
                      clear hsr
                      go_wp2_with fail
                      refine HDATA5.out.mono ?_; rintro e U6 ⟨rfl, hx6⟩
                      have hd6 := HD5.out.below hx6
                      have hsr := HSR3.out
                      have HD6 := Go.Lib.hid hd6
                      clear hd6
                      clear hx6 HD5 HDATA5 HSR3
                      cases D with
                      | none =>
                        simp only at hsr
                        have hin := HIN.out
                        rw [inS_no hsr] at hin
                        subst hin
                        have hd7 := HD6.out.below ((Below.refl _ U6).alloc (Nat.le_refl _) (.cells #[.string (mk nm), .int .i64 (ty : Int), .int .i64 (cl : Int), .int .i64 0, .string (mk [])] 45))
                        have HD7 := Go.Lib.hid hd7
                        clear hd7
                        clear hsr HIN HVN HDL HNM
                        simp only [optS]
                        have HR7 := Go.Lib.hid HD7.out.r7
                        have HR2 := Go.Lib.hid HD7.out.r2
                        have HB3 := Go.Lib.hid HD7.out.hb
                        go_wp2_with (first | (refine wpList_load_rowG rfl 27 (.tmp 7) rfl V.heap.size rfl _ _ (0, 0) _ HR7.out HU.out rfl infoMsg ?_) | (refine wpList_store_row rfl 27 (.tmp 2) (.tmp 279) rfl w.heap.size (MC HM nilS nilS nilS nilS) rfl rfl _ _ HR2.out infoMsg rfl hone ?_))
                        refine ret_m3 (m := HM) rfl rfl rfl rfl rfl (setRow_heap _ _ _ _ _ _ HR2.out) ⟨nilS, nilS, nilS, nilS, rfl, ?_, below_setRow HB3.out (Nat.le_refl _) _⟩
                        rw [HHM.out]
                        exact ⟨SlC.nil _ _, SlC.nil _ _, SlC.nil _ _, SlC.nil _ _⟩
                      | some d =>
                        simp only at hsr
                        simp only [optS]
                        have HLT6 := Go.Lib.hid (fun g (hg : (VV n).ownBlock = some g) => ((HD6.out.own n hlt3).lt g hg).2)
                        have hdl := HDL.out d rfl
                        have hnm := HNM.out
                        have hok : RROk ⟨nm, (ty : Int), (cl : Int), 0, d⟩ := ⟨by unfold maxLen; simp only; omega, by unfold maxLen; simp only; omega⟩
                        obtain ⟨U7, hU7⟩ : ∃ U7, U6.alloc (.cells #[.string (mk nm), .int .i64 (ty : Int), .int .i64 (cl : Int), .int .i64 0, .string (mk d)] 45) = U7 := ⟨_, rfl⟩
                        have g7 : U7.heap[U6.heap.size]? = some (.cells #[.string (mk nm), .int .i64 (ty : Int), .int .i64 (cl : Int), .int .i64 0, .string (mk d)] 45 (0, 0)) := by rw [← hU7]; exact heap_alloc_new _ _
                        have hb7 : Below U6.heap.size U6 U7 := by rw [← hU7]; exact (Below.refl _ _).alloc (Nat.le_refl _) _
                        have hd7 := HD6.out.below hb7
                        have hck := refCheck_any ⟨nm, (ty : Int), (cl : Int), 0, d⟩ U7 hok
                        simp only [rrV] at hck
                        have r0 : U7.cell? ⟨U6.heap.size, 0, none⟩ = some (.string (mk nm)) := row_cell g7 0 _ rfl
                        have r1 : U7.cell? ⟨U6.heap.size, 1, none⟩ = some (.int .i64 (ty : Int)) := row_cell g7 1 _ rfl
                        have r2 : U7.cell? ⟨U6.heap.size, 2, none⟩ = some (.int .i64 (cl : Int)) := row_cell g7 2 _ rfl
                        have r3 : U7.cell? ⟨U6.heap.size, 3, none⟩ = some (.int .i64 0) := row_cell g7 3 _ rfl
                        have r4 : U7.cell? ⟨U6.heap.size, 4, none⟩ = some (.string (mk d)) := row_cell g7 4 _ rfl
                        generalize checkB ⟨nm, (ty : Int), (cl : Int), 0, d⟩ = cb at *
                        have HSR3 := Go.Lib.hid hsr
                        have HD7 := Go.Lib.hid hd7
                        have HCK := Go.Lib.hid hck
                        have G7 := Go.Lib.hid g7
                        clear hsr hd7 hck g7
                        clear hb7 HD6 hdl hnm hok HDL HNM
                        go_wp2_with fail
                        refine HCK.out.mono ?_; rintro e U8 ⟨rfl, hx8⟩
                        have hd8 := HD7.out.below hx8
                        have g8 := (hx8.block _ (Array.getElem?_eq_some_iff.1 G7.out).1).trans G7.out
                        have c9 : U8.cell? ⟨w1.heap.size, n, none⟩ = some (.slice av (L n).length cvp) := by rw [← HVN.out]; exact hd8.cell hlt3
                        have hsr := HSR3.out
                        have HD8 := Go.Lib.hid hd8
                        have G8 := Go.Lib.hid g8
                        clear hd8 g8
                        clear hx8 HD7 G7 HCK HSR3 hU7 r0 r1 r2 r3 r4
                        by_cases hk1 : cb = true ∧ (L n).length < 64
                        · as_aux_lemma =>
                            rw [if_pos hk1] at hsr
                            have hin := HIN.out
                            rw [inS_some hsr] at hin
                            obtain ⟨rfl, hl64⟩ := hk1
                            have e6 : ¬ (64 : Int) ≤ ((L n).length : Int) := by omega
                            have HIN2 := Go.Lib.hid hin
                            clear hin
                            clear hsr HIN
                            go_wp2_with fail
                            have hown8 := HD8.out.own n hlt3
                            rw [HVN.out] at hown8
                            obtain ⟨o9, ho9⟩ : ∃ o9 : Obj, o9 = .cells #[VV 0, VV 1, VV 2] 69 (0, 0) := ⟨_, rfl⟩
                            obtain ⟨o5, ho5⟩ : ∃ o5 : Obj, o5 = .cells #[.string (mk nm), .int .i64 (ty : Int), .int .i64 (cl : Int), .int .i64 0, .string (mk d)] 45 (0, 0) := ⟨_, rfl⟩
                            have hC0 : CR w1.heap.size o9 U6.heap.size o5 U8.drew := ⟨by rw [ho9]; exact HD8.out.r9, by rw [ho5]; exact G8.out⟩
                            have hcell9 : ∀ W : Subtype (CR w1.heap.size o9 U6.heap.size o5), W.1.cell? ⟨w1.heap.size, n, none⟩ = some (.slice av (L n).length cvp) := fun W => by
                              rw [← HVN.out]
                              exact W.2.nine ho9 (tri_get hlt3)
                            have r0 : ∀ W : Subtype (CR w1.heap.size o9 U6.heap.size o5), W.1.cell? ⟨U6.heap.size, 0, none⟩ = some (.string (mk nm)) := fun W => W.2.five ho5 rfl
                            have r1 : ∀ W : Subtype (CR w1.heap.size o9 U6.heap.size o5), W.1.cell? ⟨U6.heap.size, 1, none⟩ = some (.int .i64 (ty : Int)) := fun W => W.2.five ho5 rfl
                            have r2 : ∀ W : Subtype (CR w1.heap.size o9 U6.heap.size o5), W.1.cell? ⟨U6.heap.size, 2, none⟩ = some (.int .i64 (cl : Int)) := fun W => W.2.five ho5 rfl
                            have r3 : ∀ W : Subtype (CR w1.heap.size o9 U6.heap.size o5), W.1.cell? ⟨U6.heap.size, 3, none⟩ = some (.int .i64 0) := fun W => W.2.five ho5 rfl
                            have r4 : ∀ W : Subtype (CR w1.heap.size o9 U6.heap.size o5), W.1.cell? ⟨U6.heap.size, 4, none⟩ = some (.string (mk d)) := fun W => W.2.five ho5 rfl
                            have hne : Nonempty (Subtype (CR w1.heap.size o9 U6.heap.size o5)) := ⟨⟨_, hC0⟩⟩
                            have HC0 := Go.Lib.hid hC0
                            have HWQ := Go.Lib.hid hown8
                            have HO9 := Go.Lib.hid ho9
                            have HO5 := Go.Lib.hid ho5
                            clear hC0 hown8 ho9 ho5
                            clear c9
                            refine Go.Mix.wp_region_mixT (Es := [5, 6]) 8 (CR w1.heap.size o9 U6.heap.size o5) mixed (by kernel_rfl) HC0.out ?_
                            iterate 5 (refine Go.Mix.mixT_step rfl (fun K hK => ?_); have HKK := Go.Lib.hid hK; clear hK; go_simp; refine HKK.out _ _ ?_; clear HKK K)
                            refine Go.Mix.mixT_eff rfl (fun K hK => ?_)
                            have HKK := Go.Lib.hid hK
                            clear hK
                            go_simp
                            refine HKK.out _ _ (HC0.out.alloc _) ?_
                            clear HKK K
                            have hwq := HWQ.out.alloc (.cells #[.string (mk nm), .int .i64 (ty : Int), .int .i64 (cl : Int), .int .i64 0, .string (mk d)] 45)
                            have hnc := new_cells U8 [.string (mk nm), .int .i64 (ty : Int), .int .i64 (cl : Int), .int .i64 0, .string (mk d)] 45
                            have hone5 := one_rr ⟨nm, (ty : Int), (cl : Int), 0, d⟩
                            have h9z : w1.heap.size < U8.heap.size := (Array.getElem?_eq_some_iff.1 HD8.out.r9).1
                            have HWQ2 := Go.Lib.hid hwq
                            have HNC := Go.Lib.hid hnc
                            have HONE5 := Go.Lib.hid hone5
                            clear hwq hnc hone5
                            refine mixT_app1 eiRR (.tmp 283) (.tmp 285) rfl rfl rfl (w1.heap.size + 1) (v := .slice av (L n).length cvp) (n := (L n).length) (xs := encR (L n)) (ad := ⟨U8.heap.size, 0, none⟩) (c := 1) rfl rfl HWQ2.out (news := [.string (mk nm), .int .i64 (ty : Int), .int .i64 (cl : Int), .int .i64 0, .string (mk d)]) rfl HNC.out HONE5.out (by unfold maxLen; omega) (by omega) (by simp; omega) (fun v5 U9 hown5 hg5 hsn5 => ?_)
                            obtain ⟨g5, c5, rfl⟩ := ownsRow_succ hown5
                            have hg6 : (U8.alloc (.cells #[.string (mk nm), .int .i64 (ty : Int), .int .i64 (cl : Int), .int .i64 0, .string (mk d)] 45)).grownBy U9 (VV n).ownBlock := by rw [HVN.out]; exact ⟨hg5.os, hg5.tape, hg5.output, hg5.size, hg5.block⟩
                            have hlt5 := fun g hg => HWQ.out.lt g hg
                            have hC9 : CR w1.heap.size o9 U6.heap.size o5 U9 := by
                              refine (CR.alloc (W := U8) HC0.out _).grown hg6 (fun e => ?_) (fun e => ?_)
                              · rw [HVN.out] at e
                                have := (HWQ.out.lt _ e).1
                                omega
                              · exact Nat.lt_irrefl _ (HLT6.out _ e)
                            refine ⟨hC9, ?_⟩
                            have hd10 := RQ_app HD8.out HX6.out HX7.out H9.out hlt3 ⟨nm, (ty : Int), (cl : Int), 0, d⟩ hg6 hown5 (by rw [HVN.out]; exact hsn5)
                            have z9 : U9.frozen? ⟨w1.heap.size, n, none⟩ = false := hC9.cold HO9.out n
                            have y9 : U9.cell? ⟨w1.heap.size, n, none⟩ = some (.slice av (L n).length cvp) := hcell9 ⟨U9, hC9⟩
                            have HD10 := Go.Lib.hid hd10
                            clear hd10
                            clear hown5 hg5 hsn5 hg6 hlt5 hC9
                            iterate 1 (refine Go.Mix.mixT_step rfl (fun K hK => ?_); have HKK := Go.Lib.hid hK; clear hK; go_simp; refine HKK.out _ _ ?_; clear HKK K)
                            refine Go.Mix.mixT_last rfl (fun K hK => ?_)
                            have HKK := Go.Lib.hid hK
                            clear hK
                            go_simp
                            refine HKK.out _ _ ?_
                            clear HKK K r0 r1 r2 r3 r4 hcell9
                            go_wp2_with fail
                            go_roundw
                            case rel => exact ⟨x + 10 + sz, jj + 1, E, Z, _, _, by go_num, by go_num, by omega, by omega, HIN2.out, HD10.out⟩
                            case measure => simp [intOf]; omega
                        · as_aux_lemma =>
                            rw [if_neg hk1] at hsr
                            have hin := HIN.out
                            rw [inS_no hsr] at hin
                            subst hin
                            have hcs : cb = false ∨ (cb = true ∧ (64 : Int) ≤ ((L n).length : Int)) := by
                              cases cb with
                              | false => exact .inl rfl
                              | true => exact .inr ⟨rfl, by have : ¬ (L n).length < 64 := fun h => hk1 ⟨rfl, h⟩; omega⟩
                            clear hsr HIN hk1 HVN
                            rcases hcs with rfl | ⟨rfl, e6⟩
                            all_goals
                              have HR7 := Go.Lib.hid HD8.out.r7
                              have HR2 := Go.Lib.hid HD8.out.r2
                              have HB3 := Go.Lib.hid HD8.out.hb
                              go_wp2_with (first | (refine wpList_load_rowG rfl 27 (.tmp 7) rfl V.heap.size rfl _ _ (0, 0) _ HR7.out HU.out rfl infoMsg ?_) | (refine wpList_store_row rfl 27 (.tmp 2) (.tmp 279) rfl w.heap.size (MC HM nilS nilS nilS nilS) rfl rfl _ _ HR2.out infoMsg rfl hone ?_))
                              refine ret_m3 (m := HM) rfl rfl rfl rfl rfl (setRow_heap _ _ _ _ _ _ HR2.out) ⟨nilS, nilS, nilS, nilS, rfl, ?_, below_setRow HB3.out (Nat.le_refl _) _⟩
                              rw [HHM.out]
                              exact ⟨SlC.nil _ _, SlC.nil _ _, SlC.nil _ _, SlC.nil _ _⟩
                  · as_aux_lemma =>
                      have htl : tl (tt : Int) = (tt : Int) := if_neg h31
                      have hsr := HSR2.out
                      rw [htl] at hsr
                      clear HSR2 htl
                      have HSR3 := Go.Lib.hid hsr
                      clear hsr
                      go_wp2_with fail
                      refine HDATA5.out.mono ?_; rintro e U6 ⟨rfl, hx6⟩
                      have hd6 := HD5.out.below hx6
                      have hsr := HSR3.out
                      have HD6 := Go.Lib.hid hd6
                      clear hd6
                      clear hx6 HD5 HDATA5 HSR3
                      cases D with
                      | none =>
                        simp only at hsr
                        have hin := HIN.out
                        rw [inS_no hsr] at hin
                        subst hin
                        have hd7 := HD6.out.below ((Below.refl _ U6).alloc (Nat.le_refl _) (.cells #[.string (mk nm), .int .i64 (ty : Int), .int .i64 (cl : Int), .int .i64 (tt : Int), .string (mk [])] 45))
                        have HD7 := Go.Lib.hid hd7
                        clear hd7
                        clear hsr HIN HVN HDL HNM
                        simp only [optS]
                        have HR7 := Go.Lib.hid HD7.out.r7
                        have HR2 := Go.Lib.hid HD7.out.r2
                        have HB3 := Go.Lib.hid HD7.out.hb
                        go_wp2_with (first | (refine wpList_load_rowG rfl 27 (.tmp 7) rfl V.heap.size rfl _ _ (0, 0) _ HR7.out HU.out rfl infoMsg ?_) | (refine wpList_store_row rfl 27 (.tmp 2) (.tmp 279) rfl w.heap.size (MC HM nilS nilS nilS nilS) rfl rfl _ _ HR2.out infoMsg rfl hone ?_))
                        refine ret_m3 (m := HM) rfl rfl rfl rfl rfl (setRow_heap _ _ _ _ _ _ HR2.out) ⟨nilS, nilS, nilS, nilS, rfl, ?_, below_setRow HB3.out (Nat.le_refl _) _⟩
                        rw [HHM.out]
                        exact ⟨SlC.nil _ _, SlC.nil _ _, SlC.nil _ _, SlC.nil _ _⟩
                      | some d =>
                        simp only at hsr
                        simp only [optS]
                        have HLT6 := Go.Lib.hid (fun g (hg : (VV n).ownBlock = some g) => ((HD6.out.own n hlt3).lt g hg).2)
                        have hdl := HDL.out d rfl
                        have hnm := HNM.out
                        have hok : RROk ⟨nm, (ty : Int), (cl : Int), (tt : Int), d⟩ := ⟨by unfold maxLen; simp only; omega, by unfold maxLen; simp only; omega⟩
                        obtain ⟨U7, hU7⟩ : ∃ U7, U6.alloc (.cells #[.string (mk nm), .int .i64 (ty : Int), .int .i64 (cl : Int), .int .i64 (tt : Int), .string (mk d)] 45) = U7 := ⟨_, rfl⟩
                        have g7 : U7.heap[U6.heap.size]? = some (.cells #[.string (mk nm), .int .i64 (ty : Int), .int .i64 (cl : Int), .int .i64 (tt : Int), .string (mk d)] 45 (0, 0)) := by rw [← hU7]; exact heap_alloc_new _ _
                        have hb7 : Below U6.heap.size U6 U7 := by rw [← hU7]; exact (Below.refl _ _).alloc (Nat.le_refl _) _
                        have hd7 := HD6.out.below hb7
                        have hck := refCheck_any ⟨nm, (ty : Int), (cl : Int), (tt : Int), d⟩ U7 hok
                        simp only [rrV] at hck
                        have r0 : U7.cell? ⟨U6.heap.size, 0, none⟩ = some (.string (mk nm)) := row_cell g7 0 _ rfl
                        have r1 : U7.cell? ⟨U6.heap.size, 1, none⟩ = some (.int .i64 (ty : Int)) := row_cell g7 1 _ rfl
                        have r2 : U7.cell? ⟨U6.heap.size, 2, none⟩ = some (.int .i64 (cl : Int)) := row_cell g7 2 _ rfl
                        have r3 : U7.cell? ⟨U6.heap.size, 3, none⟩ = some (.int .i64 (tt : Int)) := row_cell g7 3 _ rfl
                        have r4 : U7.cell? ⟨U6.heap.size, 4, none⟩ = some (.string (mk d)) := row_cell g7 4 _ rfl
                        generalize checkB ⟨nm, (ty : Int), (cl : Int), (tt : Int), d⟩ = cb at *
                        have HSR3 := Go.Lib.hid hsr
                        have HD7 := Go.Lib.hid hd7
                        have HCK := Go.Lib.hid hck
                        have G7 := Go.Lib.hid g7
                        clear hsr hd7 hck g7
                        clear hb7 HD6 hdl hnm hok HDL HNM
                        go_wp2_with fail
                        refine HCK.out.mono ?_; rintro e U8 ⟨rfl, hx8⟩
                        have hd8 := HD7.out.below hx8
                        have g8 := (hx8.block _ (Array.getElem?_eq_some_iff.1 G7.out).1).trans G7.out
                        have c9 : U8.cell? ⟨w1.heap.size, n, none⟩ = some (.slice av (L n).length cvp) := by rw [← HVN.out]; exact hd8.cell hlt3
                        have hsr := HSR3.out
                        have HD8 := Go.Lib.hid hd8
                        have G8 := Go.Lib.hid g8
                        clear hd8 g8
                        clear hx8 HD7 G7 HCK HSR3 hU7 r0 r1 r2 r3 r4
                        by_cases hk1 : cb = true ∧ (L n).length < 64
                        · as_aux_lemma =>
                            rw [if_pos hk1] at hsr
                            have hin := HIN.out
                            rw [inS_some hsr] at hin
                            obtain ⟨rfl, hl64⟩ := hk1
                            have e6 : ¬ (64 : Int) ≤ ((L n).length : Int) := by omega
                            have HIN2 := Go.Lib.hid hin
                            clear hin
                            clear hsr HIN
                            go_wp2_with fail
                            have hown8 := HD8.out.own n hlt3
                            rw [HVN.out] at hown8
                            obtain ⟨o9, ho9⟩ : ∃ o9 : Obj, o9 = .cells #[VV 0, VV 1, VV 2] 69 (0, 0) := ⟨_, rfl⟩
                            obtain ⟨o5, ho5⟩ : ∃ o5 : Obj, o5 = .cells #[.string (mk nm), .int .i64 (ty : Int), .int .i64 (cl : Int), .int .i64 (tt : Int), .string (mk d)] 45 (0, 0) := ⟨_, rfl⟩
                            have hC0 : CR w1.heap.size o9 U6.heap.size o5 U8.drew := ⟨by rw [ho9]; exact HD8.out.r9, by rw [ho5]; exact G8.out⟩
                            have hcell9 : ∀ W : Subtype (CR w1.heap.size o9 U6.heap.size o5), W.1.cell? ⟨w1.heap.size, n, none⟩ = some (.slice av (L n).length cvp) := fun W => by
                              rw [← HVN.out]
                              exact W.2.nine ho9 (tri_get hlt3)
                            have r0 : ∀ W : Subtype (CR w1.heap.size o9 U6.heap.size o5), W.1.cell? ⟨U6.heap.size, 0, none⟩ = some (.string (mk nm)) := fun W => W.2.five ho5 rfl
                            have r1 : ∀ W : Subtype (CR w1.heap.size o9 U6.heap.size o5), W.1.cell? ⟨U6.heap.size, 1, none⟩ = some (.int .i64 (ty : Int)) := fun W => W.2.five ho5 rfl
                            have r2 : ∀ W : Subtype (CR w1.heap.size o9 U6.heap.size o5), W.1.cell? ⟨U6.heap.size, 2, none⟩ = some (.int .i64 (cl : Int)) := fun W => W.2.five ho5 rfl
                            have r3 : ∀ W : Subtype (CR w1.heap.size o9 U6.heap.size o5), W.1.cell? ⟨U6.heap.size, 3, none⟩ = some (.int .i64 (tt : Int)) := fun W => W.2.five ho5 rfl
                            have r4 : ∀ W : Subtype (CR w1.heap.size o9 U6.heap.size o5), W.1.cell? ⟨U6.heap.size, 4, none⟩ = some (.string (mk d)) := fun W => W.2.five ho5 rfl
                            have hne : Nonempty (Subtype (CR w1.heap.size o9 U6.heap.size o5)) := ⟨⟨_, hC0⟩⟩
                            have HC0 := Go.Lib.hid hC0
                            have HWQ := Go.Lib.hid hown8
                            have HO9 := Go.Lib.hid ho9
                            have HO5 := Go.Lib.hid ho5
                            clear hC0 hown8 ho9 ho5
                            clear c9
                            refine Go.Mix.wp_region_mixT (Es := [5, 6]) 8 (CR w1.heap.size o9 U6.heap.size o5) mixed (by kernel_rfl) HC0.out ?_
                            iterate 5 (refine Go.Mix.mixT_step rfl (fun K hK => ?_); have HKK := Go.Lib.hid hK; clear hK; go_simp; refine HKK.out _ _ ?_; clear HKK K)
                            refine Go.Mix.mixT_eff rfl (fun K hK => ?_)
                            have HKK := Go.Lib.hid hK
                            clear hK
                            go_simp
                            refine HKK.out _ _ (HC0.out.alloc _) ?_
                            clear HKK K
                            have hwq := HWQ.out.alloc (.cells #[.string (mk nm), .int .i64 (ty : Int), .int .i64 (cl : Int), .int .i64 (tt : Int), .string (mk d)] 45)
                            have hnc := new_cells U8 [.string (mk nm), .int .i64 (ty : Int), .int .i64 (cl : Int), .int .i64 (tt : Int), .string (mk d)] 45
                            have hone5 := one_rr ⟨nm, (ty : Int), (cl : Int), (tt : Int), d⟩
                            have h9z : w1.heap.size < U8.heap.size := (Array.getElem?_eq_some_iff.1 HD8.out.r9).1
                            have HWQ2 := Go.Lib.hid hwq
                            have HNC := Go.Lib.hid hnc
                            have HONE5 := Go.Lib.hid hone5
                            clear hwq hnc hone5
                            refine mixT_app1 eiRR (.tmp 283) (.tmp 285) rfl rfl rfl (w1.heap.size + 1) (v := .slice av (L n).length cvp) (n := (L n).length) (xs := encR (L n)) (ad := ⟨U8.heap.size, 0, none⟩) (c := 1) rfl rfl HWQ2.out (news := [.string (mk nm), .int .i64 (ty : Int), .int .i64 (cl : Int), .int .i64 (tt : Int), .string (mk d)]) rfl HNC.out HONE5.out (by unfold maxLen; omega) (by omega) (by simp; omega) (fun v5 U9 hown5 hg5 hsn5 => ?_)
                            obtain ⟨g5, c5, rfl⟩ := ownsRow_succ hown5
                            have hg6 : (U8.alloc (.cells #[.string (mk nm), .int .i64 (ty : Int), .int .i64 (cl : Int), .int .i64 (tt : Int), .string (mk d)] 45)).grownBy U9 (VV n).ownBlock := by rw [HVN.out]; exact ⟨hg5.os, hg5.tape, hg5.output, hg5.size, hg5.block⟩
                            have hlt5 := fun g hg => HWQ.out.lt g hg
                            have hC9 : CR w1.heap.size o9 U6.heap.size o5 U9 := by
                              refine (CR.alloc (W := U8) HC0.out _).grown hg6 (fun e => ?_) (fun e => ?_)
                              · rw [HVN.out] at e
                                have := (HWQ.out.lt _ e).1
                                omega
                              · exact Nat.lt_irrefl _ (HLT6.out _ e)
                            refine ⟨hC9, ?_⟩
                            have hd10 := RQ_app HD8.out HX6.out HX7.out H9.out hlt3 ⟨nm, (ty : Int), (cl : Int), (tt : Int), d⟩ hg6 hown5 (by rw [HVN.out]; exact hsn5)
                            have z9 : U9.frozen? ⟨w1.heap.size, n, none⟩ = false := hC9.cold HO9.out n
                            have y9 : U9.cell? ⟨w1.heap.size, n, none⟩ = some (.slice av (L n).length cvp) := hcell9 ⟨U9, hC9⟩
                            have HD10 := Go.Lib.hid hd10
                            clear hd10
                            clear hown5 hg5 hsn5 hg6 hlt5 hC9
                            iterate 1 (refine Go.Mix.mixT_step rfl (fun K hK => ?_); have HKK := Go.Lib.hid hK; clear hK; go_simp; refine HKK.out _ _ ?_; clear HKK K)
                            refine Go.Mix.mixT_last rfl (fun K hK => ?_)
                            have HKK := Go.Lib.hid hK
                            clear hK
                            go_simp
                            refine HKK.out _ _ ?_
                            clear HKK K r0 r1 r2 r3 r4 hcell9
                            go_wp2_with fail
                            go_roundw
                            case rel => exact ⟨x + 10 + sz, jj + 1, E, Z, _, _, by go_num, by go_num, by omega, by omega, HIN2.out, HD10.out⟩
                            case measure => simp [intOf]; omega
                        · as_aux_lemma =>
                            rw [if_neg hk1] at hsr
                            have hin := HIN.out
                            rw [inS_no hsr] at hin
                            subst hin
                            have hcs : cb = false ∨ (cb = true ∧ (64 : Int) ≤ ((L n).length : Int)) := by
                              cases cb with
                              | false => exact .inl rfl
                              | true => exact .inr ⟨rfl, by have : ¬ (L n).length < 64 := fun h => hk1 ⟨rfl, h⟩; omega⟩
                            clear hsr HIN hk1 HVN
                            rcases hcs with rfl | ⟨rfl, e6⟩
                            all_goals
                              have HR7 := Go.Lib.hid HD8.out.r7
                              have HR2 := Go.Lib.hid HD8.out.r2
                              have HB3 := Go.Lib.hid HD8.out.hb
                              go_wp2_with (first | (refine wpList_load_rowG rfl 27 (.tmp 7) rfl V.heap.size rfl _ _ (0, 0) _ HR7.out HU.out rfl infoMsg ?_) | (refine wpList_store_row rfl 27 (.tmp 2) (.tmp 279) rfl w.heap.size (MC HM nilS nilS nilS nilS) rfl rfl _ _ HR2.out infoMsg rfl hone ?_))
                              refine ret_m3 (m := HM) rfl rfl rfl rfl rfl (setRow_heap _ _ _ _ _ _ HR2.out) ⟨nilS, nilS, nilS, nilS, rfl, ?_, below_setRow HB3.out (Nat.le_refl _) _⟩
                              rw [HHM.out]
                              exact ⟨SlC.nil _ _, SlC.nil _ _, SlC.nil _ _, SlC.nil _ _⟩
              · as_aux_lemma =>
                  have hst : stepR zs n (L n, E, Z, k) = none := by unfold stepR; exact if_neg hr
                  rw [inS_no hst] at hin
                  subst hin
                  have hcs := rec_bad hr
                  have HRQ := Go.Lib.hid hrq
                  have HGET := Go.Lib.hid hget
                  have HT1 := Go.Lib.hid htw1
                  have HT2 := Go.Lib.hid htw2
                  have HT8 := Go.Lib.hid htw8
                  clear hrq hget htw1 htw2 htw8
                  clear hst hr
                  generalize (getN zs k).1 = nm at *
                  generalize ((getN zs k).2.2 == 0) = b1 at *
                  generalize refTwo zs (xN zs k) = R1 at *
                  generalize refTwo zs (xN zs k + 2) = R2 at *
                  generalize refTwo zs (xN zs k + 8) = R3 at *
                  obtain ⟨v1, b2⟩ := R1
                  obtain ⟨v2, b3⟩ := R2
                  obtain ⟨v3, b4⟩ := R3
                  simp only at hcs
                  generalize xN zs k = x at *
                  go_wp2_with fail
                  refine HGET.out.mono ?_; rintro e U1 ⟨rfl, hx1⟩
                  have hd1 := HRQ.out.below hx1
                  have hc1 := HT1.out U1 hd1.hb
                  have HD1 := Go.Lib.hid hd1
                  have HC1 := Go.Lib.hid hc1
                  clear hd1 hc1
                  clear hx1
                  go_wp2_with fail
                  refine HC1.out.mono ?_; rintro e U2 ⟨rfl, hx2⟩
                  have hd2 := HD1.out.below hx2
                  have hc2 := HT2.out U2 hd2.hb
                  have HD2 := Go.Lib.hid hd2
                  have HC2 := Go.Lib.hid hc2
                  clear hd2 hc2
                  clear hx2
                  go_wp2_with fail
                  refine HC2.out.mono ?_; rintro e U3 ⟨rfl, hx3⟩
                  have hd3 := HD2.out.below hx3
                  have hc3 := HT8.out U3 hd3.hb
                  have HD3 := Go.Lib.hid hd3
                  have HC3 := Go.Lib.hid hc3
                  clear hd3 hc3
                  clear hx3
                  go_wp2_with fail
                  refine HC3.out.mono ?_; rintro e U4 ⟨rfl, hx4⟩
                  have hd4 := HD3.out.below hx4
                  have HD4 := Go.Lib.hid hd4
                  clear hd4
                  clear hx4 HRQ HD1 HD2 HD3 HGET HC1 HC2 HC3 HT1 HT2 HT8
                  rcases hcs with rfl | ⟨rfl, rfl⟩ | ⟨rfl, rfl, rfl⟩ | ⟨rfl, rfl, rfl, rfl⟩ | ⟨rfl, rfl, rfl, rfl, hgt⟩
                  all_goals
                    have HR7 := Go.Lib.hid HD4.out.r7
                    have HR2 := Go.Lib.hid HD4.out.r2
                    have HB3 := Go.Lib.hid HD4.out.hb
                    go_wp2_with (first | (refine wpList_load_rowG rfl 27 (.tmp 7) rfl V.heap.size rfl _ _ (0, 0) _ HR7.out HU.out rfl infoMsg ?_) | (refine wpList_store_row rfl 27 (.tmp 2) (.tmp 219) rfl w.heap.size (MC HM nilS nilS nilS nilS) rfl rfl _ _ HR2.out infoMsg rfl hone ?_))
                    refine ret_m3 (m := HM) rfl rfl rfl rfl rfl (setRow_heap _ _ _ _ _ _ HR2.out) ⟨nilS, nilS, nilS, nilS, rfl, ?_, below_setRow HB3.out (Nat.le_refl _) _⟩
                    rw [HHM.out]
                    exact ⟨SlC.nil _ _, SlC.nil _ _, SlC.nil _ _, SlC.nil _ _⟩
            · have hjj : cn - jj = 0 := by omega
              rw [hjj, inS_zero hlt3] at hin
              have t2 : ¬ (jj : Int) < (cn : Int) := by omega
              have w7 : IntKind.i64.wrap ((n : Int) + 1) = (n : Int) + 1 := wrapi (by omega) (by omega)
              have HIN := Go.Lib.hid hin
              have HRQ := Go.Lib.hid hrq
              clear hin hrq
              go_wp2_with fail
              go_roundw
              case rel => exact ⟨n + 1, k, E, Z, VV, L, rfl, by go_num, by omega, hk, HIN.out, HRQ.out⟩
              case measure => simp [intOf]; omega
        · obtain rfl : n = 3 := by omega
          rw [goS_end] at hgo
          have t3 : ¬ ((3 : Nat) : Int) < 3 := by omega
          clear hlt3 hn3
          by_cases hke : k2 = zs.length
          · as_aux_lemma =>
              subst hke
              rw [if_pos rfl] at hgo
              subst hgo
              have hne : ((zs.length : Int) != (zs.length : Int)) = false := by simp
              have hd0 := hrq.below ((Below.refl w2.heap.size w2).drew)
              obtain ⟨a0, d0, hv0, _, _⟩ := (SlC.of_owns (hrq.own 0 (by decide))).slice
              obtain ⟨a1, d1, hv1, _, _⟩ := (SlC.of_owns (hrq.own 1 (by decide))).slice
              obtain ⟨a2, d2, hv2, _, _⟩ := (SlC.of_owns (hrq.own 2 (by decide))).slice
              obtain ⟨aq, dq, hvq, _, _⟩ := (SlC.of_owns hrq.qs).slice
              have HD0 := Go.Lib.hid hd0
              have HV0 := Go.Lib.hid hv0
              have HV1 := Go.Lib.hid hv1
              have HV2 := Go.Lib.hid hv2
              have HVQ := Go.Lib.hid hvq
              clear hd0 hv0 hv1 hv2 hvq
              clear hrq
              go_wp2_with fail
              clear hne
              obtain ⟨A0, hA0⟩ : ∃ A0, w2.drew = A0 := ⟨_, rfl⟩
              have hd0 := HD0.out
              rw [hA0] at hd0
              clear HD0
              have HD0 := Go.Lib.hid hd0
              clear hd0
              obtain ⟨A1, hA1⟩ : ∃ A1, A0.setCell ⟨X.heap.size, 9, none⟩ (VV 0) = A1 := ⟨_, rfl⟩
              obtain ⟨A2, hA2⟩ : ∃ A2, A1.setCell ⟨X.heap.size, 10, none⟩ (VV 1) = A2 := ⟨_, rfl⟩
              obtain ⟨A3, hA3⟩ : ∃ A3, A2.setCell ⟨X.heap.size, 11, none⟩ (VV 2) = A3 := ⟨_, rfl⟩
              obtain ⟨s1, s2, s3, so, sR⟩ := HD0.out.last HX6.out HX7.out H9.out hA1 hA2 hA3
              obtain ⟨sR1, sR2⟩ := sR (MC (setE HM E Z) qv (VV 0) (VV 1) (VV 2))
              have hr2 : A3.heap[w.heap.size]? = _ := (so w.heap.size (by have := HX6.out; omega)).2.2.trans HD0.out.r2
              have hcC : ∀ i v, (#[VV 0, VV 1, VV 2] : Array Value)[i]? = some v → ∀ W : Subtype (fun W : World => W.heap[w1.heap.size]? = some (.cells #[VV 0, VV 1, VV 2] 69 (0, 0))), W.1.cell? ⟨w1.heap.size, i, none⟩ = some v := fun i v hv W => row_cell W.2 i v hv
              have k0 := hcC 0 _ rfl
              have k1 := hcC 1 _ rfl
              have k2 := hcC 2 _ rfl
              have hn6 : w1.heap.size ≠ X.heap.size := by have := HX7.out; have := H9.out; omega
              have q0 := HD0.out.r9
              have q1 := (so _ hn6).1.trans q0
              have q2 := (so _ hn6).2.1.trans q0
              have q3 := (so _ hn6).2.2.trans q0
              have c9 : A0.cell? ⟨X.heap.size, 9, none⟩ = some nilS := row_cell HD0.out.r6 9 _ rfl
              have c10 : A1.cell? ⟨X.heap.size, 10, none⟩ = some nilS := row_cell s1 10 _ rfl
              have c11 : A2.cell? ⟨X.heap.size, 11, none⟩ = some nilS := row_cell s2 11 _ rfl
              have z9 := row_frozen HD0.out.r6 9
              have z10 := row_frozen s1 10
              have z11 := row_frozen s2 11
              have hone3 := msg_one (setE HM E Z) (q := qv) (a := VV 0) (s := VV 1) (d := VV 2) ⟨by rw [HVQ.out]; rfl, by rw [HV0.out]; rfl, by rw [HV1.out]; rfl, by rw [HV2.out]; rfl⟩
              have hno : Nonempty (Subtype (fun W : World => W.heap[w1.heap.size]? = some (.cells #[VV 0, VV 1, VV 2] 69 (0, 0)))) := ⟨⟨_, q0⟩⟩
              have Q0 := Go.Lib.hid q0
              have Q1 := Go.Lib.hid q1
              have Q2 := Go.Lib.hid q2
              have Q3 := Go.Lib.hid q3
              have S3 := Go.Lib.hid s3
              have HR2 := Go.Lib.hid hr2
              have SR1 := Go.Lib.hid sR1
              have SR2 := Go.Lib.hid sR2
              clear q0 q1 q2 q3 s3 hr2 sR1 sR2
              clear so s1 s2 hcC sR HD0
              have hv0 := HV0.out
              have hv1 := HV1.out
              have hv2 := HV2.out
              clear HV0 HV1 HV2
              generalize VV 0 = v0 at *
              generalize VV 1 = v1 at *
              generalize VV 2 = v2 at *
              subst hv0
              subst hv1
              subst hv2
              refine Go.Mix.wp_region_mix (Es := [7, 9, 11]) (fun W : World => W.heap[w1.heap.size]? = some (.cells #[.slice a0 (L 0).length d0, .slice a1 (L 1).length d1, .slice a2 (L 2).length d2] 69 (0, 0))) mixed (by kernel_rfl) (by rw [hA0]; exact Q0.out) (fun _ => ?_)
              rw [hA0]
              iterate 7 (refine Go.Mix.mix_step rfl (fun K hK => ?_); have HKK := Go.Lib.hid hK; clear hK; go_simp; refine HKK.out _ _ ?_; clear HKK K)
              refine Go.Mix.mix_eff rfl (fun K hK => ?_)
              have HKK := Go.Lib.hid hK
              clear hK
              go_simp
              refine HKK.out _ _ Q1.out ?_
              clear HKK K
              iterate 1 (refine Go.Mix.mix_step rfl (fun K hK => ?_); have HKK := Go.Lib.hid hK; clear hK; go_simp; refine HKK.out _ _ ?_; clear HKK K)
              refine Go.Mix.mix_eff rfl (fun K hK => ?_)
              have HKK := Go.Lib.hid hK
              clear hK
              go_simp
              refine HKK.out _ _ Q2.out ?_
              clear HKK K
              iterate 1 (refine Go.Mix.mix_step rfl (fun K hK => ?_); have HKK := Go.Lib.hid hK; clear hK; go_simp; refine HKK.out _ _ ?_; clear HKK K)
              refine Go.Mix.mix_eff rfl (fun K hK => ?_)
              have HKK := Go.Lib.hid hK
              clear hK
              go_simp
              refine HKK.out _ _ Q3.out ?_
              clear HKK K
              refine Go.Mix.mix_nil ?_
              clear k0 k1 k2 c9 c10 c11 z9 z10 z11
              go_wp2_with (first | (refine wpList_load_rowG rfl 27 (.tmp 6) rfl X.heap.size rfl _ _ (0, 0) _ S3.out HU.out rfl infoMsg ?_) | (refine wpList_store_row rfl 27 (.tmp 2) (.tmp 302) rfl w.heap.size (MC (setE HM E Z) qv (.slice a0 (L 0).length d0) (.slice a1 (L 1).length d1) (.slice a2 (L 2).length d2)) rfl rfl _ _ HR2.out infoMsg rfl hone3 ?_))
              exact ret_m3 (m := bdM HM l (L 0) (L 1) (L 2) E Z) rfl rfl rfl rfl rfl (setRow_heap _ _ _ _ _ _ HR2.out) ⟨qv, _, _, _, rfl, SR1.out, SR2.out⟩
          · as_aux_lemma =>
              rw [if_neg hke] at hgo
              subst hgo
              have hne : ((k2 : Int) != (zs.length : Int)) = true := by simp only [bne_iff_ne]; omega
              have HRQ := Go.Lib.hid hrq
              clear hrq
              have HR7 := Go.Lib.hid HRQ.out.r7
              have HR2 := Go.Lib.hid HRQ.out.r2
              have HB3 := Go.Lib.hid HRQ.out.hb
              go_wp2_with (first | (refine wpList_load_rowG rfl 27 (.tmp 7) rfl V.heap.size rfl _ _ (0, 0) _ HR7.out HU.out rfl infoMsg ?_) | (refine wpList_store_row rfl 27 (.tmp 2) (.tmp 292) rfl w.heap.size (MC HM nilS nilS nilS nilS) rfl rfl _ _ HR2.out infoMsg rfl hone ?_))
              refine ret_m3 (m := HM) rfl rfl rfl rfl rfl (setRow_heap _ _ _ _ _ _ HR2.out) ⟨nilS, nilS, nilS, nilS, rfl, ?_, below_setRow HB3.out (Nat.le_refl _) _⟩
              rw [HHM.out]
              exact ⟨SlC.nil _ _, SlC.nil _ _, SlC.nil _ _, SlC.nil _ _⟩
end Go.Proofs.Ythfhmbooeemaaaa

