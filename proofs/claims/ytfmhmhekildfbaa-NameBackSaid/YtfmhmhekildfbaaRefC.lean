/- The contracts of the reference's Under, Less, Common. -/
import Derived.Test.YtfmhmhekildfbaaRefB
namespace Go.Proofs.Ytfmhmhekildfbaa
open Go.RowKit

theorem wrapi {n : Int} (h1 : -9223372036854775808 ≤ n) (h2 : n ≤ 9223372036854775807) : IntKind.i64.wrap n = n := by
  rw [IntKind.wrap_i64]; omega

/-- one world -/
def AtW (w0 w : World) : Prop := w = w0
theorem AtW.cell {w0 : World} {p : Addr} {v : Value} (h : w0.cell? p = some v) (w3 : Subtype (AtW w0)) : w3.1.cell? p = some v := by
  have := w3.2
  unfold AtW at this
  rw [this]; exact h

theorem bne_mk_false {a b : List UInt8} (h : a = b) : ((mk a).toList != (mk b).toList) = false := by rw [toList_bl, toList_bl, bl_mk, bl_mk, h, bne_self_eq_false]
theorem bne_mk_true {a b : List UInt8} (h : ¬ a = b) : ((mk a).toList != (mk b).toList) = true := by rw [toList_bl, toList_bl, bl_mk, bl_mk]; simpa using h

theorem beq_mk_true {a b : List UInt8} (h : a = b) : ((mk a).toList == (mk b).toList) = true := by rw [toList_bl, toList_bl, bl_mk, bl_mk, h, beq_self_eq_true]
theorem beq_mk_false {a b : List UInt8} (h : ¬ a = b) : ((mk a).toList == (mk b).toList) = false := by rw [toList_bl, toList_bl, bl_mk, bl_mk]; simpa using h
theorem ne_mk {a b : List UInt8} (h : ¬ a = b) : ¬ (mk a).toList = (mk b).toList := by rw [toList_bl, toList_bl, bl_mk, bl_mk]; exact h

theorem endsIn_yes {a b : List (List UInt8)} (hl : b.length ≤ a.length) (h : (a.drop (a.length - b.length)).take b.length = b.take b.length) : Nm.endsIn a b = true := by
  unfold Nm.endsIn
  rw [List.take_length, List.take_of_length_le (by rw [List.length_drop]; omega)] at h
  simp [hl, h]
theorem endsIn_no {a b : List (List UInt8)} {i : Nat} (h : ¬ a.getD (a.length - b.length + i) [] = b.getD i []) : Nm.endsIn a b = false := by
  unfold Nm.endsIn
  rw [Bool.and_eq_false_iff]
  refine .inr ?_
  rw [beq_eq_false_iff_ne]
  intro e
  apply h
  have := congrArg (fun l => l.getD i []) e
  simpa [List.getD_eq_getElem?_getD, List.getElem?_drop] using this

set_option maxRecDepth 100000 in
set_option maxHeartbeats 2000000 in
theorem refUnder_any (s t : ByteArray) (w : World) (hs : s.size ≤ maxLen) (ht : t.size ≤ maxLen) :
    Calls Try.prog 31 #[.string s, .string t] w fun e w' => e = .returned (.bool (Nm.underN (bl s) (bl t))) ∧ Below w.heap.size w w' := by
  have hf1 := refFold_any s w hs
  have hf2 := fun w => refFold_any t w ht
  have hl1 := fun w => refLabels_any (mk (Nm.foldN (bl s))) w
  have hl2 := fun w => refLabels_any (mk (Nm.foldN (bl t))) w
  simp only [bl_mk] at hl1 hl2
  have hv1 : (Nm.refLab (Nm.foldN (bl s))).2 = Nm.valid (bl s) := by rw [Nm.refLab_valid, Nm.valid_foldN]
  have hv2 : (Nm.refLab (Nm.foldN (bl t))).2 = Nm.valid (bl t) := by rw [Nm.refLab_valid, Nm.valid_foldN]
  have hb1 := (refLab_good (Nm.foldN (bl s))).2
  have hb2 := (refLab_good (Nm.foldN (bl t))).2
  have hres : Hid (Nm.underN (bl s) (bl t) = (Nm.valid (bl s) && Nm.valid (bl t) && Nm.endsIn (Nm.refLab (Nm.foldN (bl s))).1 (Nm.refLab (Nm.foldN (bl t))).1)) := Go.Lib.hid (by
    unfold Nm.underN
    cases h1 : Nm.valid (bl s) with
    | false => rfl
    | true =>
      cases h2 : Nm.valid (bl t) with
      | false => rfl
      | true =>
        rw [Nm.refLab_labs (by rw [Nm.valid_foldN]; exact h1), Nm.refLab_labs (by rw [Nm.valid_foldN]; exact h2), Nm.labs_foldN, Nm.labs_foldN])
  have HF1 := Go.Lib.hid hf1
  have HF2 := Go.Lib.hid hf2
  have HL1 := Go.Lib.hid hl1
  have HL2 := Go.Lib.hid hl2
  clear hf1 hf2 hl1 hl2 hs ht
  rw [← hv1, ← hv2] at hres
  clear hv1 hv2
  generalize Nm.underN (bl s) (bl t) = res at *
  generalize Nm.refLab (Nm.foldN (bl s)) = p at *
  generalize Nm.refLab (Nm.foldN (bl t)) = q at *
  generalize Nm.foldN (bl s) = fs at *
  generalize Nm.foldN (bl t) = ft at *
  obtain ⟨x, o1⟩ := p
  obtain ⟨y, o2⟩ := q
  simp only at hb1 hb2 hres
  cases o1 with
  | false =>
    go_enter Try.func31, Try.ntmps31
    go_wp2_with fail
    refine HF1.out.mono ?_; rintro e w1 ⟨rfl, hw1⟩
    go_wp2_with fail
    refine (HL1.out _).mono ?_; rintro e w2 ⟨v1, rfl, _, hw2⟩
    go_wp2_with fail
    refine (HF2.out _).mono ?_; rintro e w3 ⟨rfl, hw3⟩
    go_wp2_with fail
    refine (HL2.out _).mono ?_; rintro e w4 ⟨v2, rfl, _, hw4⟩
    go_wp2_with fail
    go_ret
    have h12 := hw1.trans (hw2.mono hw1.size)
    have h123 := h12.trans (hw3.mono h12.size)
    exact ⟨ret_bool hres.out.symm, h123.trans (hw4.mono h123.size)⟩
  | true =>
    cases o2 with
    | false =>
      go_enter Try.func31, Try.ntmps31
      go_wp2_with fail
      refine HF1.out.mono ?_; rintro e w1 ⟨rfl, hw1⟩
      go_wp2_with fail
      refine (HL1.out _).mono ?_; rintro e w2 ⟨v1, rfl, _, hw2⟩
      go_wp2_with fail
      refine (HF2.out _).mono ?_; rintro e w3 ⟨rfl, hw3⟩
      go_wp2_with fail
      refine (HL2.out _).mono ?_; rintro e w4 ⟨v2, rfl, _, hw4⟩
      go_wp2_with fail
      go_ret
      have h12 := hw1.trans (hw2.mono hw1.size)
      have h123 := h12.trans (hw3.mono h12.size)
      exact ⟨ret_bool (by rw [hres.out]; rfl), h123.trans (hw4.mono h123.size)⟩
    | true =>
      go_enter Try.func31, Try.ntmps31
      go_wp2_with fail
      refine HF1.out.mono ?_; rintro e w1 ⟨rfl, hw1⟩
      go_wp2_with fail
      refine (HL1.out _).mono ?_; rintro e w2 ⟨v1, rfl, hst1, hw2⟩
      go_wp2_with fail
      refine (HF2.out _).mono ?_; rintro e w3 ⟨rfl, hw3⟩
      go_wp2_with fail
      refine (HL2.out _).mono ?_; rintro e w4 ⟨v2, rfl, hst2, hw4⟩
      have h12 := hw1.trans (hw2.mono hw1.size)
      have h123 := h12.trans (hw3.mono h12.size)
      have h1234 := h123.trans (hw4.mono h123.size)
      have hst1' : Strs w4 v1 x := (hst1.below hw3 (Nat.le_refl _)).below hw4 (Nat.le_refl _)
      obtain ⟨a1, c1, rfl, _, _⟩ := hst1.slice
      obtain ⟨a2, c2, rfl, _, _⟩ := hst2.slice
      have HS1 := Go.Lib.hid hst1'
      have HS2 := Go.Lib.hid hst2
      have HW := Go.Lib.hid h1234
      clear hw1 hw2 hw3 hw4 h12 h123 h1234 hst1 hst1' hst2
      generalize hxn : x.length = n at *
      generalize hym : y.length = m at *
      have HN := Go.Lib.hid hxn
      have HM := Go.Lib.hid hym
      clear hxn hym
      by_cases hlt : n < m
      · have e1 : (n : Int) < (m : Int) := by omega
        go_wp2_with fail
        go_ret
        refine ⟨ret_bool ?_, HW.out⟩
        rw [hres.out]
        unfold Nm.endsIn
        rw [HN.out, HM.out]
        simp [show ¬ m ≤ n by omega]
      · have e1 : ¬ (n : Int) < (m : Int) := by omega
        go_wp2_with fail
        go_loopw [9] (fun i wr => ∃ k : Nat, i = .int .i64 k ∧ k ≤ m ∧ (x.drop (n - m)).take k = y.take k ∧ Below w4.heap.size w4 wr) (fun i _ => m - (intOf i).toNat)
        case atStart => exact ⟨0, rfl, by omega, by simp, Below.refl _ _⟩
        case round =>
          obtain ⟨k, rfl, hk, heq, hbr⟩ := hrel
          have HEQ := Go.Lib.hid heq
          have HBR := Go.Lib.hid hbr
          clear heq hbr
          by_cases hkm : k < m
          · have hs1 := HS1.out.below HBR.out (Nat.le_refl _)
            have hs2 := HS2.out.below HBR.out (Nat.le_refl _)
            rw [← HN.out] at hs1
            rw [← HM.out] at hs2
            obtain ⟨b1, of1, rfl, _, hc1⟩ := Strs.at hs1 (by rw [HN.out]; omega)
            obtain ⟨b2, of2, rfl, _, hc2⟩ := Strs.at hs2 (by rw [HM.out]; omega)
            have l1 := hc1 (n - m + k) (by rw [HN.out]; omega)
            have l2 := hc2 k (by rw [HM.out]; omega)
            have hno : Hid (¬ x.getD (n - m + k) [] = y.getD k [] → Nm.endsIn x y = false) := Go.Lib.hid (fun h => endsIn_no (i := k) (by rw [HN.out, HM.out]; exact h))
            have hst1 : (x.drop (n - m)).take (k + 1) = (x.drop (n - m)).take k ++ [x.getD (n - m + k) []] := by
              rw [getD_take_succ _ [] (by rw [List.length_drop, HN.out]; omega)]
              simp
            have hst2 := getD_take_succ y [] (k := k) (by rw [HM.out]; exact hkm)
            have HT1 := Go.Lib.hid hst1
            have HT2 := Go.Lib.hid hst2
            clear hs1 hs2 hc1 hc2 hst1 hst2
            generalize x.getD (n - m + k) [] = u at *
            generalize y.getD k [] = v at *
            have g0 := wrapi (n := (n : Int) - (m : Int)) (by omega) (by omega)
            have g1 := wrapi (n := (n : Int) - (m : Int) + (k : Int)) (by omega) (by omega)
            have g2 : ((n : Int) - (m : Int) + (k : Int)).toNat = n - m + k := by omega
            have g3 : 0 ≤ (n : Int) - (m : Int) + (k : Int) := by omega
            have g4 : (n : Int) - (m : Int) + (k : Int) < (n : Int) := by omega
            go_wp2_with fail
            refine Go.Mix.wp_region_mix (Es := []) (AtW wr.drew) mixed (by kernel_rfl) rfl (fun _ => ?_)
            have ld1 := AtW.cell (w0 := wr.drew) (p := ⟨b1, of1 + (n - m + k), none⟩) l1
            have ld2 := AtW.cell (w0 := wr.drew) (p := ⟨b2, of2 + k, none⟩) l2
            by_cases huv : u = v
            · have e2 := bne_mk_false huv
              iterate 15 (refine Go.Mix.mix_step rfl (fun K hK => ?_); go_simp; refine hK _ _ ?_; clear hK K)
              refine Go.Mix.mix_nil ?_
              go_wp2_with fail
              go_roundw
              case rel => exact ⟨k + 1, by go_num, by omega, by rw [HT1.out, HT2.out, HEQ.out, huv], HBR.out.drew⟩
              case measure => simp [intOf]; omega
            · have e2 := bne_mk_true huv
              have e3 := beq_mk_false huv
              have e4 := ne_mk huv
              iterate 15 (refine Go.Mix.mix_step rfl (fun K hK => ?_); go_simp; refine hK _ _ ?_; clear hK K)
              refine Go.Mix.mix_nil ?_
              go_wp2_with fail
              go_ret
              exact ⟨ret_bool (by rw [hres.out, hno.out huv]; rfl), HW.out.trans (HBR.out.drew.mono HW.out.size)⟩
          · obtain rfl : k = m := by omega
            have hfin : Hid (Nm.endsIn x y = true) := Go.Lib.hid (endsIn_yes (by rw [HN.out, HM.out]; omega) (by rw [HN.out, HM.out]; exact HEQ.out))
            go_wp2_with fail
            go_ret
            exact ⟨ret_bool (by rw [hres.out, hfin.out]; rfl), HW.out.trans (HBR.out.mono HW.out.size)⟩
end Go.Proofs.Ytfmhmhekildfbaa

