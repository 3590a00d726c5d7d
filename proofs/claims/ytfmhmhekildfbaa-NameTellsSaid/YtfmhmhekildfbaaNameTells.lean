/- NameTells: of any bytes whether they are a name, its labels, its text, and of any text the name, is as the document says. For every input; no conditions. -/
import Derived.Test.YtfmhmhekildfbaaNameX
namespace Go.Proofs.Ytfmhmhekildfbaa.nameTells
open Go.ChangeShapes Go.WideShapes Go.ChangeAt Go.RowKit
open Go.ChangeMaps (open_string shut_string)
set_option linter.unusedVariables false

theorem walkL_neg (ls : List (List UInt8)) : walkL (-1) ls = ls := by
  unfold walkL
  rw [if_neg (by omega)]

theorem ends (o : Option (List UInt8)) : ∃ (m : ByteArray) (k : Int) (b : Bool), nameEnd o = .returned (.tuple #[.string m, .int .i64 k]) ∧ refEnd o = .returned (.tuple #[.string m, .bool b]) ∧ ((k = 0 ∧ b = true) ∨ (k = 2 ∧ b = false)) := by
  cases o with
  | none => exact ⟨_, _, _, rfl, rfl, .inr ⟨rfl, rfl⟩⟩
  | some n => exact ⟨_, _, _, rfl, rfl, .inl ⟨rfl, rfl⟩⟩

set_option maxRecDepth 100000 in
set_option maxHeartbeats 4000000 in
theorem walk (s t : ByteArray) (w : World) (hs : s.size ≤ maxLen) (ht : t.size ≤ maxLen) :
    Calls Try.prog 3 #[.string s, .string t] w fun e w' => e = .returned (.bool true) ∧ Below w.heap.size w w' := by
  unfold maxLen at hs ht
  have AW := Go.Lib.hid awake_any
  by_cases h1 : 400 < s.size
  · have e1 : 400 < (s.size : Int) := by omega
    go_enter Try.func3, Try.ntmps3
    go_wp2_with fail
    refine (AW.out _).mono ?_; rintro e w1 ⟨rfl, hb⟩
    go_wp2_with fail
    go_ret
    exact ⟨rfl, hb⟩
  · have e1 : ¬ 400 < (s.size : Int) := by omega
    by_cases h2 : 800 < t.size
    · have e2 : 800 < (t.size : Int) := by omega
      go_enter Try.func3, Try.ntmps3
      go_wp2_with fail
      refine (AW.out _).mono ?_; rintro e w1 ⟨rfl, hb⟩
      go_wp2_with fail
      go_ret
      exact ⟨rfl, hb⟩
    · have e2 : ¬ 800 < (t.size : Int) := by omega
      have hsm : s.size ≤ maxLen := by unfold maxLen; omega
      have hl := refLabels_any s w
      have hp := fun w => Parse_any t w (by omega)
      have hq := fun w => refParse_any t w (by omega)
      rw [show Nm.parseW Nm.takeR (bl t) = Nm.parseN (bl t) from Nm.parseW_same Nm.takeOk_R Nm.takeOk_B _] at hq
      obtain ⟨m, k, bb, x1, x2, x3⟩ := ends (Nm.parseN (bl t))
      rw [x1] at hp
      rw [x2] at hq
      have hv := fun w => valid_any s w hsm
      have hw := fun w => walk_any s (-1) w hsm
      simp only [walkL_neg] at hw
      have hc := fun w => Count_any s w hsm
      have hf := fun w => Fold_any s w hsm
      have hrf := fun w => refFold_any s w hsm
      have hpa := fun w => Parent_any s w hsm
      have hrp := fun w => refParent_any s w
      have htx := fun w => Text_any s w hsm
      have hrt := fun w => refText_any s w
      have HL := Go.Lib.hid hl
      have HP := Go.Lib.hid hp
      have HQ := Go.Lib.hid hq
      have HV := Go.Lib.hid hv
      have HW := Go.Lib.hid hw
      have HC := Go.Lib.hid hc
      have HF := Go.Lib.hid hf
      have HRF := Go.Lib.hid hrf
      have HPA := Go.Lib.hid hpa
      have HRP := Go.Lib.hid hrp
      have HTX := Go.Lib.hid htx
      have HRT := Go.Lib.hid hrt
      have hle := labs_le (bl s)
      clear hl hp hq hv hw hc hf hrf hpa hrp htx hrt x1 x2
      generalize mk (Nm.foldN (bl s)) = zf at *
      generalize mk (Nm.parentN (bl s)) = zp at *
      generalize mk (Nm.textN (bl s)) = zt at *
      cases hvb : Nm.valid (bl s) with
      | false =>
        have h2 := Nm.refLab_not hvb
        have h3 := Nm.labs_not hvb
        rw [hvb] at HV
        rw [h3] at HW HC
        clear hvb h3 hle
        generalize Nm.refLab (bl s) = p at *
        obtain ⟨ls, ok⟩ := p
        obtain rfl : ok = false := h2
        rcases x3 with ⟨rfl, rfl⟩ | ⟨rfl, rfl⟩
        · go_enter Try.func3, Try.ntmps3
          go_wp2_with fail
          refine HL.out.mono ?_; rintro e w1 ⟨v1, rfl, hst1, hb1⟩
          obtain ⟨a1, c1, rfl, _, _⟩ := hst1.slice
          have HB := Go.Lib.hid hb1
          have HS1 := Go.Lib.hid hst1
          clear hb1 hst1
          go_wp2_with fail
          refine (HP.out _).mono ?_; rintro e w2 ⟨rfl, hx⟩
          have HK := Go.Lib.hid hx
          have hb := HB.out.trans (hx.mono HB.out.size)
          clear HB
          have HB := Go.Lib.hid hb
          clear hx hb
          go_wp2_with fail
          refine (HQ.out _).mono ?_; rintro e w3 ⟨rfl, hx⟩
          have hk2 := HK.out.trans (hx.mono HK.out.size)
          clear HK
          have HK := Go.Lib.hid hk2
          clear hk2
          have hb := HB.out.trans (hx.mono HB.out.size)
          clear HB
          have HB := Go.Lib.hid hb
          clear hx hb
          go_wp2_with fail
          refine (HV.out _).mono ?_; rintro e w' ⟨rfl, rfl⟩
          go_wp2_with fail
          refine (HW.out _).mono ?_; rintro e w4 ⟨v2, rfl, hst2, hx⟩
          obtain ⟨a2, c2, rfl, _, _⟩ := hst2.slice
          have hk2 := HK.out.trans (hx.mono HK.out.size)
          clear HK
          have HK := Go.Lib.hid hk2
          clear hk2
          have HS2 := Go.Lib.hid hst2
          clear hst2
          have hb := HB.out.trans (hx.mono HB.out.size)
          clear HB
          have HB := Go.Lib.hid hb
          clear hx hb
          go_wp2_with fail
          refine (Texts_any [] [] _ _ _ _ _ HS2.out (SlC.nil _ _)).mono ?_
          rintro e w5 ⟨rfl, hx⟩
          rw [decide_eq_true (rfl : ([] : List (List UInt8)) = [])]
          have hb := HB.out.trans (hx.mono HB.out.size)
          clear HB
          have HB := Go.Lib.hid hb
          clear hx hb
          go_wp2_with fail
          refine (HC.out _).mono ?_; rintro e w6 ⟨rfl, hx⟩
          have hb := HB.out.trans (hx.mono HB.out.size)
          clear HB
          have HB := Go.Lib.hid hb
          clear hx hb
          go_wp2_with fail
          refine (HF.out _).mono ?_; rintro e w7 ⟨rfl, hx⟩
          have hb := HB.out.trans (hx.mono HB.out.size)
          clear HB
          have HB := Go.Lib.hid hb
          clear hx hb
          go_wp2_with fail
          refine (HRF.out _).mono ?_; rintro e w8 ⟨rfl, hx⟩
          have hb := HB.out.trans (hx.mono HB.out.size)
          clear HB
          have HB := Go.Lib.hid hb
          clear hx hb
          go_wp2_with fail
          refine (HPA.out _).mono ?_; rintro e w' ⟨rfl, rfl⟩
          go_wp2_with fail
          refine (HRP.out _).mono ?_; rintro e w9 ⟨rfl, hx⟩
          have hb := HB.out.trans (hx.mono HB.out.size)
          clear HB
          have HB := Go.Lib.hid hb
          clear hx hb
          go_wp2_with fail
          refine (HTX.out _).mono ?_; rintro e w10 ⟨rfl, hx⟩
          have hb := HB.out.trans (hx.mono HB.out.size)
          clear HB
          have HB := Go.Lib.hid hb
          clear hx hb
          go_wp2_with fail
          refine (HRT.out _).mono ?_; rintro e w11 ⟨rfl, hx⟩
          have hb := HB.out.trans (hx.mono HB.out.size)
          clear HB
          have HB := Go.Lib.hid hb
          clear hx hb
          go_wp2_with fail
          refine (AW.out _).mono ?_; rintro e w12 ⟨rfl, hx⟩
          have hb := HB.out.trans (hx.mono HB.out.size)
          clear HB
          have HB := Go.Lib.hid hb
          clear hx hb
          go_wp2_with fail
          go_ret
          exact ⟨rfl, HB.out⟩
        · go_enter Try.func3, Try.ntmps3
          go_wp2_with fail
          refine HL.out.mono ?_; rintro e w1 ⟨v1, rfl, hst1, hb1⟩
          obtain ⟨a1, c1, rfl, _, _⟩ := hst1.slice
          have HB := Go.Lib.hid hb1
          have HS1 := Go.Lib.hid hst1
          clear hb1 hst1
          go_wp2_with fail
          refine (HP.out _).mono ?_; rintro e w2 ⟨rfl, hx⟩
          have HK := Go.Lib.hid hx
          have hb := HB.out.trans (hx.mono HB.out.size)
          clear HB
          have HB := Go.Lib.hid hb
          clear hx hb
          go_wp2_with fail
          refine (HQ.out _).mono ?_; rintro e w3 ⟨rfl, hx⟩
          have hk2 := HK.out.trans (hx.mono HK.out.size)
          clear HK
          have HK := Go.Lib.hid hk2
          clear hk2
          have hb := HB.out.trans (hx.mono HB.out.size)
          clear HB
          have HB := Go.Lib.hid hb
          clear hx hb
          go_wp2_with fail
          refine (HV.out _).mono ?_; rintro e w' ⟨rfl, rfl⟩
          go_wp2_with fail
          refine (HW.out _).mono ?_; rintro e w4 ⟨v2, rfl, hst2, hx⟩
          obtain ⟨a2, c2, rfl, _, _⟩ := hst2.slice
          have hk2 := HK.out.trans (hx.mono HK.out.size)
          clear HK
          have HK := Go.Lib.hid hk2
          clear hk2
          have HS2 := Go.Lib.hid hst2
          clear hst2
          have hb := HB.out.trans (hx.mono HB.out.size)
          clear HB
          have HB := Go.Lib.hid hb
          clear hx hb
          go_wp2_with fail
          refine (Texts_any [] [] _ _ _ _ _ HS2.out (SlC.nil _ _)).mono ?_
          rintro e w5 ⟨rfl, hx⟩
          rw [decide_eq_true (rfl : ([] : List (List UInt8)) = [])]
          have hb := HB.out.trans (hx.mono HB.out.size)
          clear HB
          have HB := Go.Lib.hid hb
          clear hx hb
          go_wp2_with fail
          refine (HC.out _).mono ?_; rintro e w6 ⟨rfl, hx⟩
          have hb := HB.out.trans (hx.mono HB.out.size)
          clear HB
          have HB := Go.Lib.hid hb
          clear hx hb
          go_wp2_with fail
          refine (HF.out _).mono ?_; rintro e w7 ⟨rfl, hx⟩
          have hb := HB.out.trans (hx.mono HB.out.size)
          clear HB
          have HB := Go.Lib.hid hb
          clear hx hb
          go_wp2_with fail
          refine (HRF.out _).mono ?_; rintro e w8 ⟨rfl, hx⟩
          have hb := HB.out.trans (hx.mono HB.out.size)
          clear HB
          have HB := Go.Lib.hid hb
          clear hx hb
          go_wp2_with fail
          refine (HPA.out _).mono ?_; rintro e w' ⟨rfl, rfl⟩
          go_wp2_with fail
          refine (HRP.out _).mono ?_; rintro e w9 ⟨rfl, hx⟩
          have hb := HB.out.trans (hx.mono HB.out.size)
          clear HB
          have HB := Go.Lib.hid hb
          clear hx hb
          go_wp2_with fail
          refine (HTX.out _).mono ?_; rintro e w10 ⟨rfl, hx⟩
          have hb := HB.out.trans (hx.mono HB.out.size)
          clear HB
          have HB := Go.Lib.hid hb
          clear hx hb
          go_wp2_with fail
          refine (HRT.out _).mono ?_; rintro e w11 ⟨rfl, hx⟩
          have hb := HB.out.trans (hx.mono HB.out.size)
          clear HB
          have HB := Go.Lib.hid hb
          clear hx hb
          go_wp2_with fail
          refine (AW.out _).mono ?_; rintro e w12 ⟨rfl, hx⟩
          have hb := HB.out.trans (hx.mono HB.out.size)
          clear HB
          have HB := Go.Lib.hid hb
          clear hx hb
          go_wp2_with fail
          go_ret
          exact ⟨rfl, HB.out⟩
      | true =>
        have h2 := Nm.refLab_labs hvb
        rw [h2] at HL
        rw [hvb] at HV
        clear hvb h2
        generalize Nm.labs (bl s) = ls at *
        rcases x3 with ⟨rfl, rfl⟩ | ⟨rfl, rfl⟩
        · go_enter Try.func3, Try.ntmps3
          go_wp2_with fail
          refine HL.out.mono ?_; rintro e w1 ⟨v1, rfl, hst1, hb1⟩
          obtain ⟨a1, c1, rfl, _, _⟩ := hst1.slice
          have HB := Go.Lib.hid hb1
          have HS1 := Go.Lib.hid hst1
          clear hb1 hst1
          go_wp2_with fail
          refine (HP.out _).mono ?_; rintro e w2 ⟨rfl, hx⟩
          have HK := Go.Lib.hid hx
          have hb := HB.out.trans (hx.mono HB.out.size)
          clear HB
          have HB := Go.Lib.hid hb
          clear hx hb
          go_wp2_with fail
          refine (HQ.out _).mono ?_; rintro e w3 ⟨rfl, hx⟩
          have hk2 := HK.out.trans (hx.mono HK.out.size)
          clear HK
          have HK := Go.Lib.hid hk2
          clear hk2
          have hb := HB.out.trans (hx.mono HB.out.size)
          clear HB
          have HB := Go.Lib.hid hb
          clear hx hb
          go_wp2_with fail
          refine (HV.out _).mono ?_; rintro e w' ⟨rfl, rfl⟩
          go_wp2_with fail
          refine (HW.out _).mono ?_; rintro e w4 ⟨v2, rfl, hst2, hx⟩
          obtain ⟨a2, c2, rfl, _, _⟩ := hst2.slice
          have hk2 := HK.out.trans (hx.mono HK.out.size)
          clear HK
          have HK := Go.Lib.hid hk2
          clear hk2
          have HS2 := Go.Lib.hid hst2
          clear hst2
          have hb := HB.out.trans (hx.mono HB.out.size)
          clear HB
          have HB := Go.Lib.hid hb
          clear hx hb
          go_wp2_with fail
          refine (Texts_any ls ls _ _ _ _ _ HS2.out (HS1.out.below HK.out (Nat.le_refl _))).mono ?_
          rintro e w5 ⟨rfl, hx⟩
          rw [decide_eq_true (rfl : ls = ls)]
          have hb := HB.out.trans (hx.mono HB.out.size)
          clear HB
          have HB := Go.Lib.hid hb
          clear hx hb
          go_wp2_with fail
          refine (HC.out _).mono ?_; rintro e w6 ⟨rfl, hx⟩
          have hb := HB.out.trans (hx.mono HB.out.size)
          clear HB
          have HB := Go.Lib.hid hb
          clear hx hb
          go_wp2_with fail
          refine (HF.out _).mono ?_; rintro e w7 ⟨rfl, hx⟩
          have hb := HB.out.trans (hx.mono HB.out.size)
          clear HB
          have HB := Go.Lib.hid hb
          clear hx hb
          go_wp2_with fail
          refine (HRF.out _).mono ?_; rintro e w8 ⟨rfl, hx⟩
          have hb := HB.out.trans (hx.mono HB.out.size)
          clear HB
          have HB := Go.Lib.hid hb
          clear hx hb
          go_wp2_with fail
          refine (HPA.out _).mono ?_; rintro e w' ⟨rfl, rfl⟩
          go_wp2_with fail
          refine (HRP.out _).mono ?_; rintro e w9 ⟨rfl, hx⟩
          have hb := HB.out.trans (hx.mono HB.out.size)
          clear HB
          have HB := Go.Lib.hid hb
          clear hx hb
          go_wp2_with fail
          refine (HTX.out _).mono ?_; rintro e w10 ⟨rfl, hx⟩
          have hb := HB.out.trans (hx.mono HB.out.size)
          clear HB
          have HB := Go.Lib.hid hb
          clear hx hb
          go_wp2_with fail
          refine (HRT.out _).mono ?_; rintro e w11 ⟨rfl, hx⟩
          have hb := HB.out.trans (hx.mono HB.out.size)
          clear HB
          have HB := Go.Lib.hid hb
          clear hx hb
          go_wp2_with fail
          refine (AW.out _).mono ?_; rintro e w12 ⟨rfl, hx⟩
          have hb := HB.out.trans (hx.mono HB.out.size)
          clear HB
          have HB := Go.Lib.hid hb
          clear hx hb
          go_wp2_with fail
          go_ret
          exact ⟨rfl, HB.out⟩
        · go_enter Try.func3, Try.ntmps3
          go_wp2_with fail
          refine HL.out.mono ?_; rintro e w1 ⟨v1, rfl, hst1, hb1⟩
          obtain ⟨a1, c1, rfl, _, _⟩ := hst1.slice
          have HB := Go.Lib.hid hb1
          have HS1 := Go.Lib.hid hst1
          clear hb1 hst1
          go_wp2_with fail
          refine (HP.out _).mono ?_; rintro e w2 ⟨rfl, hx⟩
          have HK := Go.Lib.hid hx
          have hb := HB.out.trans (hx.mono HB.out.size)
          clear HB
          have HB := Go.Lib.hid hb
          clear hx hb
          go_wp2_with fail
          refine (HQ.out _).mono ?_; rintro e w3 ⟨rfl, hx⟩
          have hk2 := HK.out.trans (hx.mono HK.out.size)
          clear HK
          have HK := Go.Lib.hid hk2
          clear hk2
          have hb := HB.out.trans (hx.mono HB.out.size)
          clear HB
          have HB := Go.Lib.hid hb
          clear hx hb
          go_wp2_with fail
          refine (HV.out _).mono ?_; rintro e w' ⟨rfl, rfl⟩
          go_wp2_with fail
          refine (HW.out _).mono ?_; rintro e w4 ⟨v2, rfl, hst2, hx⟩
          obtain ⟨a2, c2, rfl, _, _⟩ := hst2.slice
          have hk2 := HK.out.trans (hx.mono HK.out.size)
          clear HK
          have HK := Go.Lib.hid hk2
          clear hk2
          have HS2 := Go.Lib.hid hst2
          clear hst2
          have hb := HB.out.trans (hx.mono HB.out.size)
          clear HB
          have HB := Go.Lib.hid hb
          clear hx hb
          go_wp2_with fail
          refine (Texts_any ls ls _ _ _ _ _ HS2.out (HS1.out.below HK.out (Nat.le_refl _))).mono ?_
          rintro e w5 ⟨rfl, hx⟩
          rw [decide_eq_true (rfl : ls = ls)]
          have hb := HB.out.trans (hx.mono HB.out.size)
          clear HB
          have HB := Go.Lib.hid hb
          clear hx hb
          go_wp2_with fail
          refine (HC.out _).mono ?_; rintro e w6 ⟨rfl, hx⟩
          have hb := HB.out.trans (hx.mono HB.out.size)
          clear HB
          have HB := Go.Lib.hid hb
          clear hx hb
          go_wp2_with fail
          refine (HF.out _).mono ?_; rintro e w7 ⟨rfl, hx⟩
          have hb := HB.out.trans (hx.mono HB.out.size)
          clear HB
          have HB := Go.Lib.hid hb
          clear hx hb
          go_wp2_with fail
          refine (HRF.out _).mono ?_; rintro e w8 ⟨rfl, hx⟩
          have hb := HB.out.trans (hx.mono HB.out.size)
          clear HB
          have HB := Go.Lib.hid hb
          clear hx hb
          go_wp2_with fail
          refine (HPA.out _).mono ?_; rintro e w' ⟨rfl, rfl⟩
          go_wp2_with fail
          refine (HRP.out _).mono ?_; rintro e w9 ⟨rfl, hx⟩
          have hb := HB.out.trans (hx.mono HB.out.size)
          clear HB
          have HB := Go.Lib.hid hb
          clear hx hb
          go_wp2_with fail
          refine (HTX.out _).mono ?_; rintro e w10 ⟨rfl, hx⟩
          have hb := HB.out.trans (hx.mono HB.out.size)
          clear HB
          have HB := Go.Lib.hid hb
          clear hx hb
          go_wp2_with fail
          refine (HRT.out _).mono ?_; rintro e w11 ⟨rfl, hx⟩
          have hb := HB.out.trans (hx.mono HB.out.size)
          clear HB
          have HB := Go.Lib.hid hb
          clear hx hb
          go_wp2_with fail
          refine (AW.out _).mono ?_; rintro e w12 ⟨rfl, hx⟩
          have hb := HB.out.trans (hx.mono HB.out.size)
          clear HB
          have HB := Go.Lib.hid hb
          clear hx hb
          go_wp2_with fail
          go_ret
          exact ⟨rfl, HB.out⟩

set_option maxRecDepth 100000 in
theorem lifted (os : Os) (started : os.Started) (H : Type) (enc : TypeId × Value → H) :
    ReturnsInHanded {} Try.checked os 3 .any (Rows.nameTellsSpec.pre6 enc Try.prog Try.f3 Rows.nameTellsRow.domain false) (Rows.nameTellsSpec.post enc Try.prog Try.f3 false true false false) := by
  refine returnsInHanded_of_change (C := Try.checked) own started (by kernel_rfl) Try.func3
    (ChangeSpec.witness6 (enc := enc) (C := Try.checked) false ⟨#[], #[.string ⟨#[]⟩, .string ⟨#[]⟩], []⟩ 8 (by kernel_rfl) (by kernel_rfl) (by kernel_rfl) (by kernel_rfl)) ?_
  intro W base args ds gs before hval0 hW hcnd _
  have hval : ∀ (j : Nat) t v, Try.f3.params[j]? = some t → args[j]? = some v → Value.okWide Try.prog W .any base t v := hval0
  refine law_post enc 2 (by kernel_rfl) rfl rfl (by kernel_rfl) (fun ds h => match ds, h with | [_, _], _ => rfl) hW ?_
  obtain ⟨p, q, hA0, hV, rfl, _, _⟩ := hW
  have hA : DataW.TrodAll enc Try.prog W 0 (fun _ => true) true Try.f3.params.toList args.toList ds p := hA0
  rw [Try.params3] at hA hval
  obtain ⟨v0, vs0, d0, ds0, p0, q0, hargs, rfl, rfl, h0, r0⟩ := trodAll_cons hA
  obtain ⟨v1, vs1, d1, ds1, p1, q1, rfl, rfl, rfl, h1, r1⟩ := trodAll_cons r0
  obtain ⟨rfl, rfl, rfl⟩ := trodAll_nil r1
  obtain rfl : args = #[v0, v1] := by cases args; simp_all
  obtain ⟨s0, rfl, rfl, rfl, w0⟩ := open_string Try.underlying9 (hval 0 9 v0 rfl rfl) h0
  obtain ⟨s1, rfl, rfl, rfl, w1⟩ := open_string Try.underlying9 (hval 1 9 v1 rfl rfl) h1
  exact walk s0 s1 W w0 w1

theorem over : Rows.nameTellsRow.holds Try.pinned (OpenSpec.ofChange Rows.nameTellsSpec) :=
  OpenClaim.holds_of_wide 3 Try.f3 rfl rfl rfl rfl rfl rfl rfl ⟨rfl, rfl, rfl, rfl, rfl⟩ rfl rfl rfl rfl rfl (by kernel_rfl) Try.func3 (by kernel_rfl)
    (of_decide_eq_true (by kernel_rfl)) (by unfold Func.isWrapper; first | (rw [if_pos (by decide +kernel)]; kernel_rfl) | (rw [if_neg (by decide +kernel)]; exact ⟨rfl, rfl⟩))
    (fun os started H enc _ => lifted os started H enc)

/-- the statement -/
theorem proved : Rows.NameTellsSaid := over
#print axioms proved
end Go.Proofs.Ytfmhmhekildfbaa.nameTells

