/- The contracts of the reference's Less, Common. -/
import Derived.Test.YtfmhmhekildfbaaRefC
namespace Go.Proofs.Ytfmhmhekildfbaa
open Go.RowKit

theorem lexL_drop {x y : List (List UInt8)} {k : Nat} (h : x.take k = y.take k) (hx : k ≤ x.length) (hy : k ≤ y.length) : Nm.lexL x y = Nm.lexL (x.drop k) (y.drop k) := by
  unfold Nm.lexL; rw [Nm.cmpL_drop h hx hy]
theorem rev_getD {x : List (List UInt8)} {k : Nat} (h : k < x.length) : x.reverse.getD k [] = x.getD (x.length - (k + 1)) [] := by
  simp [List.getD_eq_getElem?_getD, List.getElem?_reverse h, Nat.sub_sub, Nat.add_comm]
theorem rev_drop {x : List (List UInt8)} {k : Nat} (h : k < x.length) : x.reverse.drop k = x.getD (x.length - (k + 1)) [] :: x.reverse.drop (k + 1) := by
  rw [← rev_getD h, List.drop_eq_getElem_cons (by simpa using h)]
  congr 1
  rw [List.getD_eq_getElem?_getD, List.getElem?_eq_getElem (by simpa using h)]
  rfl

set_option maxRecDepth 100000 in
set_option maxHeartbeats 2000000 in
theorem refLess_any (s t : ByteArray) (w : World) (hs : s.size ≤ maxLen) (ht : t.size ≤ maxLen) :
    Calls Try.prog 33 #[.string s, .string t] w fun e w' => e = .returned (.bool (Nm.lessN (bl s) (bl t))) ∧ Below w.heap.size w w' := by
  have hf1 := refFold_any s w hs
  have hf2 := fun w => refFold_any t w ht
  have hl1 := fun w => refLabels_any (mk (Nm.foldN (bl s))) w
  have hl2 := fun w => refLabels_any (mk (Nm.foldN (bl t))) w
  simp only [bl_mk] at hl1 hl2
  have hv1 : (Nm.refLab (Nm.foldN (bl s))).2 = Nm.valid (bl s) := by rw [Nm.refLab_valid, Nm.valid_foldN]
  have hv2 : (Nm.refLab (Nm.foldN (bl t))).2 = Nm.valid (bl t) := by rw [Nm.refLab_valid, Nm.valid_foldN]
  have hb1 := (refLab_good (Nm.foldN (bl s))).2
  have hb2 := (refLab_good (Nm.foldN (bl t))).2
  have hres : Hid (Nm.lessN (bl s) (bl t) = (Nm.valid (bl s) && Nm.valid (bl t) && Nm.lexL (Nm.refLab (Nm.foldN (bl s))).1.reverse (Nm.refLab (Nm.foldN (bl t))).1.reverse)) := Go.Lib.hid (by
    unfold Nm.lessN
    cases h1 : Nm.valid (bl s) with
    | false => rfl
    | true =>
      cases h2 : Nm.valid (bl t) with
      | false => rfl
      | true =>
        rw [Nm.refLab_labs (by rw [Nm.valid_foldN]; exact h1), Nm.refLab_labs (by rw [Nm.valid_foldN]; exact h2), Nm.labs_foldN, Nm.labs_foldN]
        rfl)
  have HF1 := Go.Lib.hid hf1
  have HF2 := Go.Lib.hid hf2
  have HL1 := Go.Lib.hid hl1
  have HL2 := Go.Lib.hid hl2
  clear hf1 hf2 hl1 hl2 hs ht
  rw [← hv1, ← hv2] at hres
  clear hv1 hv2
  generalize Nm.lessN (bl s) (bl t) = res at *
  generalize Nm.refLab (Nm.foldN (bl s)) = p at *
  generalize Nm.refLab (Nm.foldN (bl t)) = q at *
  generalize Nm.foldN (bl s) = fs at *
  generalize Nm.foldN (bl t) = ft at *
  obtain ⟨x, o1⟩ := p
  obtain ⟨y, o2⟩ := q
  simp only at hb1 hb2 hres
  cases o1 with
  | false =>
    go_enter Try.func33, Try.ntmps33
    go_wp2_with fail
    refine HF1.out.mono ?_; rintro e w1 ⟨rfl, hw1⟩
    go_wp2_with fail
    refine (HL1.out _).mono ?_; rintro e w2 ⟨v1, rfl, _, hw2⟩
    go_wp2_with fail
    refine (HF2.out _).mono ?_; rintro e w3 ⟨rfl, hw3⟩
    go_wp2_with fail
    refine (HL2.out _).mono ?_; rintro e w4 ⟨v2, rfl, _, hw4⟩
    go_wp2_with fail
    go_ret
    have h12 := hw1.trans (hw2.mono hw1.size)
    have h123 := h12.trans (hw3.mono h12.size)
    exact ⟨ret_bool hres.out.symm, h123.trans (hw4.mono h123.size)⟩
  | true =>
    cases o2 with
    | false =>
      go_enter Try.func33, Try.ntmps33
      go_wp2_with fail
      refine HF1.out.mono ?_; rintro e w1 ⟨rfl, hw1⟩
      go_wp2_with fail
      refine (HL1.out _).mono ?_; rintro e w2 ⟨v1, rfl, _, hw2⟩
      go_wp2_with fail
      refine (HF2.out _).mono ?_; rintro e w3 ⟨rfl, hw3⟩
      go_wp2_with fail
      refine (HL2.out _).mono ?_; rintro e w4 ⟨v2, rfl, _, hw4⟩
      go_wp2_with fail
      go_ret
      have h12 := hw1.trans (hw2.mono hw1.size)
      have h123 := h12.trans (hw3.mono h12.size)
      exact ⟨ret_bool (by rw [hres.out]; rfl), h123.trans (hw4.mono h123.size)⟩
    | true =>
      go_enter Try.func33, Try.ntmps33
      go_wp2_with fail
      refine HF1.out.mono ?_; rintro e w1 ⟨rfl, hw1⟩
      go_wp2_with fail
      refine (HL1.out _).mono ?_; rintro e w2 ⟨v1, rfl, hst1, hw2⟩
      go_wp2_with fail
      refine (HF2.out _).mono ?_; rintro e w3 ⟨rfl, hw3⟩
      go_wp2_with fail
      refine (HL2.out _).mono ?_; rintro e w4 ⟨v2, rfl, hst2, hw4⟩
      have h12 := hw1.trans (hw2.mono hw1.size)
      have h123 := h12.trans (hw3.mono h12.size)
      have h1234 := h123.trans (hw4.mono h123.size)
      have hst1' : Strs w4 v1 x := (hst1.below hw3 (Nat.le_refl _)).below hw4 (Nat.le_refl _)
      obtain ⟨a1, c1, rfl, _, _⟩ := hst1.slice
      obtain ⟨a2, c2, rfl, _, _⟩ := hst2.slice
      have HS1 := Go.Lib.hid hst1'
      have HS2 := Go.Lib.hid hst2
      have HW := Go.Lib.hid h1234
      clear hw1 hw2 hw3 hw4 h12 h123 h1234 hst1 hst1' hst2
      generalize hxn : x.length = n at *
      generalize hym : y.length = m at *
      have HN := Go.Lib.hid hxn
      have HM := Go.Lib.hid hym
      clear hxn hym
      go_wp2_with fail
      go_loopw [9] (fun i wr => ∃ k : Nat, i = .int .i64 ((k : Int) + 1) ∧ k ≤ n ∧ k ≤ m ∧ x.reverse.take k = y.reverse.take k ∧ Below w4.heap.size w4 wr) (fun i _ => n + 1 - (intOf i).toNat)
      case atStart => exact ⟨0, rfl, by omega, by omega, by simp, Below.refl _ _⟩
      case round =>
        obtain ⟨k, rfl, hkn, hkm, heq, hbr⟩ := hrel
        have hdrop : Hid (Nm.lexL x.reverse y.reverse = Nm.lexL (x.reverse.drop k) (y.reverse.drop k)) := Go.Lib.hid (lexL_drop heq (by rw [List.length_reverse, HN.out]; exact hkn) (by rw [List.length_reverse, HM.out]; exact hkm))
        have HEQ := Go.Lib.hid heq
        have HBR := Go.Lib.hid hbr
        clear heq hbr
        by_cases hk : k < n ∧ k < m
        · obtain ⟨hk1, hk2⟩ := hk
          have hs1 := HS1.out.below HBR.out (Nat.le_refl _)
          have hs2 := HS2.out.below HBR.out (Nat.le_refl _)
          rw [← HN.out] at hs1
          rw [← HM.out] at hs2
          obtain ⟨b1, of1, rfl, _, hc1⟩ := Strs.at hs1 (by rw [HN.out]; omega)
          obtain ⟨b2, of2, rfl, _, hc2⟩ := Strs.at hs2 (by rw [HM.out]; omega)
          have l1 := hc1 (n - (k + 1)) (by rw [HN.out]; omega)
          have l2 := hc2 (m - (k + 1)) (by rw [HM.out]; omega)
          have hd1 := rev_drop (x := x) (k := k) (by rw [HN.out]; exact hk1)
          have hd2 := rev_drop (x := y) (k := k) (by rw [HM.out]; exact hk2)
          have ht1 := getD_take_succ x.reverse [] (k := k) (by rw [List.length_reverse, HN.out]; exact hk1)
          have ht2 := getD_take_succ y.reverse [] (k := k) (by rw [List.length_reverse, HM.out]; exact hk2)
          rw [rev_getD (by rw [HN.out]; exact hk1)] at ht1
          rw [rev_getD (by rw [HM.out]; exact hk2)] at ht2
          rw [HN.out] at hd1 ht1
          rw [HM.out] at hd2 ht2
          have HD1 := Go.Lib.hid hd1
          have HD2 := Go.Lib.hid hd2
          have HT1 := Go.Lib.hid ht1
          have HT2 := Go.Lib.hid ht2
          clear hs1 hs2 hc1 hc2 hd1 hd2 ht1 ht2
          generalize x.getD (n - (k + 1)) [] = u at *
          generalize y.getD (m - (k + 1)) [] = v at *
          have g1 := wrapi (n := (n : Int) - ((k : Int) + 1)) (by omega) (by omega)
          have g2 := wrapi (n := (m : Int) - ((k : Int) + 1)) (by omega) (by omega)
          have g3 : ((n : Int) - ((k : Int) + 1)).toNat = n - (k + 1) := by omega
          have g4 : ((m : Int) - ((k : Int) + 1)).toNat = m - (k + 1) := by omega
          have g5 : 0 ≤ (n : Int) - ((k : Int) + 1) := by omega
          have g6 : (n : Int) - ((k : Int) + 1) < (n : Int) := by omega
          have g7 : 0 ≤ (m : Int) - ((k : Int) + 1) := by omega
          have g8 : (m : Int) - ((k : Int) + 1) < (m : Int) := by omega
          have c1 : (k : Int) + 1 ≤ (n : Int) := by omega
          have c2 : (k : Int) + 1 ≤ (m : Int) := by omega
          have hlt := bytesLess_ltB u v
          have hlt2 : Op.bytesLess (mk u).toList (mk v).toList = Nm.ltB u v := by rw [toList_bl, toList_bl, bl_mk, bl_mk]; exact hlt
          clear hlt
          go_wp2_with fail
          refine Go.Mix.wp_region_mix (Es := []) (AtW wr.drew) mixed (by kernel_rfl) rfl (fun _ => ?_)
          have ld1 := AtW.cell (w0 := wr.drew) (p := ⟨b1, of1 + (n - (k + 1)), none⟩) l1
          have ld2 := AtW.cell (w0 := wr.drew) (p := ⟨b2, of2 + (m - (k + 1)), none⟩) l2
          iterate 16 (refine Go.Mix.mix_step rfl (fun K hK => ?_); go_simp; refine hK _ _ ?_; clear hK K)
          refine Go.Mix.mix_nil ?_
          by_cases huv : u = v
          · have e2 := bne_mk_false huv
            go_wp2_with fail
            go_roundw
            case rel => exact ⟨k + 1, by go_num, by omega, by omega, by rw [HT1.out, HT2.out, HEQ.out, huv], HBR.out.drew⟩
            case measure => simp [intOf]; omega
          · have e2 := bne_mk_true huv
            have e3 := beq_mk_false huv
            have e4 := ne_mk huv
            have hfin : Hid (Nm.lexL x.reverse y.reverse = Nm.ltB u v) := Go.Lib.hid (by rw [hdrop.out, HD1.out, HD2.out, Nm.lexL_cons, if_neg huv])
            go_wp2_with fail
            go_ret
            exact ⟨ret_bool (by rw [hres.out, hfin.out]; rfl), HW.out.trans (HBR.out.drew.mono HW.out.size)⟩
        · have hfin : Hid (Nm.lexL x.reverse y.reverse = decide ((n : Int) < (m : Int))) := Go.Lib.hid (by
            rw [hdrop.out]
            by_cases h1 : k = m
            · rw [List.drop_of_length_le (l := y.reverse) (by rw [List.length_reverse, HM.out]; omega), Nm.lexL_nil_right]
              simp; omega
            · have h2 : k = n := by omega
              rw [List.drop_of_length_le (l := x.reverse) (by rw [List.length_reverse, HN.out]; omega), rev_drop (by rw [HM.out]; omega), Nm.lexL_nil_cons]
              simp; omega)
          by_cases hkn2 : k < n
          · have c1 : (k : Int) + 1 ≤ (n : Int) := by omega
            have c2 : ¬ (k : Int) + 1 ≤ (m : Int) := by omega
            go_wp2_with fail
            go_ret
            exact ⟨ret_bool (by rw [hres.out, hfin.out]; simp), HW.out.trans (HBR.out.mono HW.out.size)⟩
          · have c1 : ¬ (k : Int) + 1 ≤ (n : Int) := by omega
            go_wp2_with fail
            go_ret
            exact ⟨ret_bool (by rw [hres.out, hfin.out]; simp), HW.out.trans (HBR.out.mono HW.out.size)⟩

set_option maxRecDepth 100000 in
set_option maxHeartbeats 1000000 in
theorem refCommon_any (s t : ByteArray) (w : World) (ht : t.size ≤ maxLen) :
    Calls Try.prog 35 #[.string s, .string t] w fun e w' => e = .returned (.string (mk (Nm.commonN (bl s) (bl t)))) ∧ Below w.heap.size w w' := by
  have hv := refValid_any s w
  have hu := fun w => refValid_any t w
  have HV := Go.Lib.hid hv
  have HU := Go.Lib.hid hu
  have HT := Go.Lib.hid ht
  clear ht hv hu
  cases ha : Nm.valid (bl s) with
  | false =>
    have hfin : Hid (mk (Nm.commonN (bl s) (bl t)) = ⟨#[0]⟩) := Go.Lib.hid (by unfold Nm.commonN; rw [ha]; rfl)
    rw [ha] at HV
    clear ha
    go_enter Try.func35, Try.ntmps35
    go_wp2_with fail
    refine HV.out.mono ?_; rintro e w1 ⟨rfl, hb1⟩
    go_wp2_with fail
    go_ret
    exact ⟨ret_str hfin.out.symm, hb1⟩
  | true =>
    rw [ha] at HV
    cases hb : Nm.valid (bl t) with
    | false =>
      have hfin : Hid (mk (Nm.commonN (bl s) (bl t)) = ⟨#[0]⟩) := Go.Lib.hid (by unfold Nm.commonN; rw [hb, Bool.and_false]; rfl)
      rw [hb] at HU
      clear ha hb
      go_enter Try.func35, Try.ntmps35
      go_wp2_with fail
      refine HV.out.mono ?_; rintro e w1 ⟨rfl, hb1⟩
      go_wp2_with fail
      refine (HU.out _).mono ?_; rintro e w2 ⟨rfl, hb2⟩
      go_wp2_with fail
      go_ret
      exact ⟨ret_str hfin.out.symm, hb1.trans (hb2.mono hb1.size)⟩
    | true =>
      rw [hb] at HU
      have hfin : Hid (Nm.commonN (bl s) (bl t) = Nm.wire (Nm.commonL (Nm.labs (bl s)) ((Nm.labs (bl t)).map Nm.foldB))) := Go.Lib.hid (by unfold Nm.commonN; rw [ha, hb]; rfl)
      have HA := Go.Lib.hid ha
      have HB := Go.Lib.hid hb
      clear ha hb
      go_enter Try.func35, Try.ntmps35
      go_wp2_with fail
      refine HV.out.mono ?_; rintro e w1 ⟨rfl, hb1⟩
      go_wp2_with fail
      refine (HU.out _).mono ?_; rintro e w2 ⟨rfl, hb2⟩
      have HB0 := Go.Lib.hid (hb1.trans (hb2.mono hb1.size))
      clear hb1 hb2
      go_wp2_with fail
      go_loopw [0] (fun a wr => ∃ x : List UInt8, a = .string (mk x) ∧ Nm.valid x = true ∧ Nm.commonL (Nm.labs x) ((Nm.labs (bl t)).map Nm.foldB) = Nm.commonL (Nm.labs (bl s)) ((Nm.labs (bl t)).map Nm.foldB) ∧ Below w.heap.size w wr)
        (fun a _ => (Nm.labs (bl (strOf a))).length)
      case atStart => exact ⟨bl s, by rw [mk_bl], HA.out, rfl, HB0.out⟩
      case round =>
        obtain ⟨x, rfl, hvx, hcx, hbx⟩ := hrel
        have hxl := (Nm.labs_valid hvx).2.2
        have hxs : (mk x).size ≤ maxLen := by rw [size_mk]; unfold maxLen; omega
        have hund := refUnder_any t (mk x) wr HT.out hxs
        have hpar := fun w => refParent_any (mk x) w
        have hlabp := Nm.labs_parent x
        have hvalp := Nm.valid_parent (s := x)
        rw [bl_mk] at hund hpar
        have hgo : Hid (Nm.underN (bl t) x = false → Nm.labs x ≠ [] ∧ Nm.commonL (Nm.labs x) ((Nm.labs (bl t)).map Nm.foldB) = Nm.commonL (Nm.labs x).tail ((Nm.labs (bl t)).map Nm.foldB)) := Go.Lib.hid (fun h => by
          unfold Nm.underN at h
          rw [HB.out, hvx] at h
          exact Nm.commonL_go (by simpa using h))
        have hstop : Hid (Nm.underN (bl t) x = true → mk x = mk (Nm.commonN (bl s) (bl t))) := Go.Lib.hid (fun h => by
          unfold Nm.underN at h
          rw [HB.out, hvx] at h
          have h2 := Nm.commonL_stop (ls := Nm.labs x) (b := (Nm.labs (bl t)).map Nm.foldB) (by simpa using h)
          rw [hfin.out, ← hcx, h2, ← (Nm.labs_valid hvx).1])
        have HUND := Go.Lib.hid hund
        have HPAR := Go.Lib.hid hpar
        have HLP := Go.Lib.hid hlabp
        have HVP := Go.Lib.hid hvalp
        have HCX := Go.Lib.hid hcx
        have HBX := Go.Lib.hid hbx
        clear hund hpar hcx hbx hvx hxl hxs hlabp hvalp
        cases hres : Nm.underN (bl t) x with
        | true =>
          rw [hres] at HUND hstop hgo
          clear hres
          go_wp2_with fail
          refine HUND.out.mono ?_; rintro e w2 ⟨rfl, hb2⟩
          go_wp2_with fail
          go_ret
          exact ⟨ret_str (hstop.out (by simp)), HBX.out.trans (hb2.mono HBX.out.size)⟩
        | false =>
          rw [hres] at HUND hstop hgo
          clear hres
          go_wp2_with fail
          refine HUND.out.mono ?_; rintro e w2 ⟨rfl, hb2⟩
          have HB2 := Go.Lib.hid (HBX.out.trans (hb2.mono HBX.out.size))
          clear hb2
          go_wp2_with fail
          refine (HPAR.out _).mono ?_; rintro e w3 ⟨rfl, hb3⟩
          have HB3 := Go.Lib.hid hb3
          clear hb3
          have hgo2 := hgo.out (by simp)
          go_wp2_with fail
          go_roundw
          case rel => exact ⟨Nm.parentN x, rfl, HVP.out, by rw [HLP.out, ← hgo2.2, HCX.out], HB2.out.trans (HB3.out.mono HB2.out.size)⟩
          case measure =>
            simp only [strOf, bl_mk, HLP.out, List.length_tail]
            have := List.length_pos_iff.2 hgo2.1
            omega
end Go.Proofs.Ytfmhmhekildfbaa

