/- NameBack: a name's text is read as it was; its labels, joined, are it; up from parent to parent it comes to the root in as many steps as it has labels. For every input; no conditions. -/
import Derived.Test.YtfmhmhekildfbaaNameX
import Derived.Test.YtfmhmhekildfbaaNmD
namespace Go.Proofs.Ytfmhmhekildfbaa.nameBack
open Go.ChangeShapes Go.WideShapes Go.ChangeAt Go.RowKit
open Go.ChangeMaps (open_string shut_string)
set_option linter.unusedVariables false

theorem walkL_neg (ls : List (List UInt8)) : walkL (-1) ls = ls := by
  unfold walkL
  rw [if_neg (by omega)]

theorem neq_root {m : List UInt8} (h : m ≠ [0]) : ((mk m).toList == [0]) = false := by rw [toList_bl, bl_mk, beq_eq_false_iff_ne]; exact h

/-- the last part: up from parent to parent -/
theorem up_fact {n : List UInt8} (h : Nm.valid n = true) (j : Nat) : Nm.valid (Nm.parents j n) = true ∧ (mk (Nm.parents j n)).size ≤ maxLen := by
  have h1 := (Nm.parents_labs j h).1
  have h2 := (Nm.labs_valid h1).2.2
  exact ⟨h1, by rw [size_mk]; unfold maxLen; omega⟩

set_option maxRecDepth 100000 in
set_option maxHeartbeats 4000000 in
theorem walk (ad : Option Addr) (l : List (List UInt8)) (cap : Nat) (stop : Int) (w : World) (h : Strs w (.slice ad l.length cap) l) (hl : ∀ x ∈ l, x.length ≤ maxLen) (hstop : Fits stop) :
    Calls Try.prog 6 #[.slice ad l.length cap, .int .i64 stop] w fun e w' => e = .returned (.bool true) ∧ Below w.heap.size w w' := by
  have AW := Go.Lib.hid awake_any
  have HH := Go.Lib.hid h
  have HLL := Go.Lib.hid hl
  have hsh := Short_any l ad cap 300 w h (by decide) hl
  clear h hl hstop
  by_cases h3 : l.length + sumL l ≤ 300
  · rw [decide_eq_true h3] at hsh
    have HSH := Go.Lib.hid hsh
    have hj := Join_any ad cap l w HH.out (by omega) HLL.out
    clear hsh
    cases hjn : Nm.joinN l with
    | none =>
      rw [hjn] at hj
      have HJ := Go.Lib.hid hj
      clear hj hjn h3
      generalize l.length = n at *
      go_enter Try.func6, Try.ntmps6
      go_wp2_with fail
      refine HSH.out.mono ?_; rintro e w' ⟨rfl, rfl⟩
      go_wp2_with fail
      refine HJ.out.mono ?_; rintro e w1 ⟨rfl, hb1⟩
      have HB := Go.Lib.hid hb1
      clear hb1
      unfold nameEnd
      simp only [Option.getD_none, Option.isSome_none]
      have he : ((mk []).toList == []) = true := by rw [toList_bl, bl_mk]; rfl
      go_wp2_with fail
      refine (AW.out _).mono ?_; rintro e w2 ⟨rfl, hb2⟩
      go_wp2_with fail
      go_ret
      exact ⟨rfl, HB.out.trans (hb2.mono HB.out.size)⟩
    | some n =>
      rw [hjn] at hj
      obtain ⟨hv, hlb⟩ := Nm.joinN_valid hjn
      have hnl := (Nm.labs_valid hv).2.2
      have HJ := Go.Lib.hid hj
      have hp := fun w => Parse_any (mk (Nm.textN n)) w (by rw [size_mk]; have := Nm.textN_length hv; omega)
      rw [bl_mk, Nm.parse_text hv] at hp
      have hns : (mk n).size ≤ maxLen := by rw [size_mk]; unfold maxLen; omega
      have htx := fun w => Text_any (mk n) w hns
      have hwk := fun w => walk_any (mk n) (-1) w hns
      have hct := fun w => Count_any (mk n) w hns
      have hwk2 := fun w => walk_any (mk n) (stop % ((l.length : Int) + 1)) w hns
      simp only [bl_mk, hlb, walkL_neg] at htx hwk hct hwk2
      have hpos : 0 ≤ stop % ((l.length : Int) + 1) := Int.emod_nonneg _ (by omega)
      have hltK : stop % ((l.length : Int) + 1) < (l.length : Int) + 1 := Int.emod_lt_of_pos _ (by omega)
      have hrd := fun w => Round_any stop ((l.length : Int) + 1) w (by omega) (by omega)
      have hup := fun j => up_fact hv j
      have hu1 := fun (j : Nat) w => Under_any (mk n) (mk (Nm.parents j n)) w hns (hup j).2
      have hc1 := fun (j : Nat) w => Common_any (mk n) (mk (Nm.parents j n)) w hns (hup j).2
      have hp1 := fun (j : Nat) w => Parent_any (mk (Nm.parents j n)) w (hup j).2
      simp only [bl_mk, Nm.under_up hv] at hu1 hc1 hp1
      simp only [← Nm.parents_succ] at hp1
      have hcm : Hid (∀ j, j ≤ l.length → Nm.commonN n (Nm.parents j n) = Nm.parents j n) := Go.Lib.hid fun j hj => Nm.common_parents hv (by rw [hlb]; exact hj)
      have hnr : Hid (∀ j, j < l.length → Nm.parents j n ≠ [0]) := Go.Lib.hid fun j hj => Nm.parents_not_root hv (by rw [hlb]; exact hj)
      have hrt : Hid (∀ j, l.length ≤ j → Nm.parents j n = [0]) := Go.Lib.hid fun j hj => Nm.parents_root hv (by rw [hlb]; exact hj)
      have HP := Go.Lib.hid hp
      have HTX := Go.Lib.hid htx
      have HWK := Go.Lib.hid hwk
      have HCT := Go.Lib.hid hct
      have HWK2 := Go.Lib.hid hwk2
      have HRD := Go.Lib.hid hrd
      have HU1 := Go.Lib.hid hu1
      have HC1 := Go.Lib.hid hc1
      have HP1 := Go.Lib.hid hp1
      clear hj hjn hp htx hwk hct hwk2 hrd hu1 hc1 hp1 hup hv hlb hnl hns
      have hsl : l.length ≤ 300 := by omega
      clear h3
      have hp0 : Hid (Nm.parents 0 n = n) := Go.Lib.hid rfl
      generalize hN : l.length = N at *
      have HN := Go.Lib.hid hN
      clear hN
      generalize hK : stop % ((N : Int) + 1) = k at *
      have HK := Go.Lib.hid hK
      clear hK
      generalize Nm.textN n = tx at *
      go_enter Try.func6, Try.ntmps6
      go_wp2_with fail
      refine HSH.out.mono ?_; rintro e w' ⟨rfl, rfl⟩
      go_wp2_with fail
      refine HJ.out.mono ?_; rintro e w1 ⟨rfl, hb1⟩
      have HB := Go.Lib.hid hb1
      clear hb1
      unfold nameEnd
      simp only [Option.getD_some, Option.isSome_some]
      go_wp2_with fail
      refine (HTX.out _).mono ?_; rintro e w2 ⟨rfl, hx⟩
      have hb := HB.out.trans (hx.mono HB.out.size)
      clear HB
      have HB := Go.Lib.hid hb
      clear hx hb
      go_wp2_with fail
      refine (HP.out _).mono ?_; rintro e w3 ⟨rfl, hx⟩
      have hb := HB.out.trans (hx.mono HB.out.size)
      clear HB
      have HB := Go.Lib.hid hb
      clear hx hb
      unfold nameEnd
      simp only [Option.getD_some, Option.isSome_some]
      go_wp2_with fail
      refine (HWK.out _).mono ?_; rintro e w4 ⟨v4, rfl, hst4, hx⟩
      have hb := HB.out.trans (hx.mono HB.out.size)
      clear HB
      have HB := Go.Lib.hid hb
      clear hx hb
      obtain ⟨a4, c4, rfl, _, _⟩ := hst4.slice
      have hh4 := HH.out.below HB.out (Nat.le_refl _)
      have htt := Texts_any l l a4 ad c4 cap w4 hst4 (by rw [HN.out]; exact hh4)
      rw [decide_eq_true (rfl : l = l), HN.out] at htt
      have HTT := Go.Lib.hid htt
      clear hst4 hh4 htt
      try rw [HN.out]
      go_wp2_with fail
      refine HTT.out.mono ?_; rintro e w5 ⟨rfl, hx⟩
      have hb := HB.out.trans (hx.mono HB.out.size)
      clear HB
      have HB := Go.Lib.hid hb
      clear hx hb
      go_wp2_with fail
      refine (HCT.out _).mono ?_; rintro e w6 ⟨rfl, hx⟩
      have hb := HB.out.trans (hx.mono HB.out.size)
      clear HB
      have HB := Go.Lib.hid hb
      clear hx hb
      try rw [HN.out]
      go_wp2_with fail
      refine (HRD.out _).mono ?_; rintro e w' ⟨rfl, rfl⟩
      try rw [HK.out]
      go_wp2_with fail
      by_cases hk0 : k = 0
      · subst hk0
        refine Go.Mix.wp_region_mix (Es := [5, 9]) (fun _ => True) mixed (by kernel_rfl) trivial (fun _ => ?_)
        iterate 5 (refine Go.Mix.mix_step rfl (fun K hK => ?_); have HKK := Go.Lib.hid hK; clear hK; go_simp; refine HKK.out _ _ ?_; clear HKK K)
        (refine Go.Mix.mix_eff rfl (fun K hK => ?_); have HKK := Go.Lib.hid hK; clear hK; go_simp; refine HKK.out _ _ trivial ?_; clear HKK K)
        iterate 3 (refine Go.Mix.mix_step rfl (fun K hK => ?_); have HKK := Go.Lib.hid hK; clear hK; go_simp; refine HKK.out _ _ ?_; clear HKK K)
        (refine Go.Mix.mix_eff rfl (fun K hK => ?_); have HKK := Go.Lib.hid hK; clear hK; go_simp; refine HKK.out _ _ trivial ?_; clear HKK K)
        iterate 2 (refine Go.Mix.mix_step rfl (fun K hK => ?_); have HKK := Go.Lib.hid hK; clear hK; go_simp; refine HKK.out _ _ ?_; clear HKK K)
        refine Go.Mix.mix_nil ?_
        go_wp2_with fail
        go_loopw [10, 11] (fun a i wr => ∃ j : Nat, i = .int .i64 j ∧ j ≤ N ∧ a = .string (mk (Nm.parents j n)) ∧ Below w.heap.size w wr) (fun _ i _ => N - (intOf i).toNat)
        case atStart => exact ⟨0, rfl, by omega, by rw [hp0.out], HB.out.drew⟩
        case round =>
          obtain ⟨j, rfl, hj, rfl, hbr⟩ := hrel
          clear HB
          have HB := Go.Lib.hid hbr
          clear hbr
          by_cases hlt : j < N
          · have e1 := neq_root (hnr.out j hlt)
            have e2 : mk (Nm.commonN n (Nm.parents j n)) = mk (Nm.parents j n) := by rw [hcm.out j hj]
            have hu := HU1.out j
            have hc := HC1.out j
            have hp := HP1.out j
            rw [e2] at hc
            have HU := Go.Lib.hid hu
            have HC := Go.Lib.hid hc
            have HP2 := Go.Lib.hid hp
            clear hu hc hp e2
            go_wp2_with fail
            refine (HU.out _).mono ?_; rintro e w7 ⟨rfl, hx⟩
            have hb := HB.out.trans (hx.mono HB.out.size)
            clear HB
            have HB := Go.Lib.hid hb
            clear hx hb
            go_wp2_with fail
            refine (HC.out _).mono ?_; rintro e w8 ⟨rfl, hx⟩
            have hb := HB.out.trans (hx.mono HB.out.size)
            clear HB
            have HB := Go.Lib.hid hb
            clear hx hb
            go_wp2_with fail
            refine (HP2.out _).mono ?_; rintro e w' ⟨rfl, rfl⟩
            go_wp2_with fail
            go_roundw
            case rel => exact ⟨j + 1, by go_num, by omega, rfl, HB.out⟩
            case measure => simp [intOf]; omega
          · obtain rfl : j = N := by omega
            have e1 : ((mk (Nm.parents j n)).toList == [0]) = true := by rw [hrt.out j (Nat.le_refl _)]; rw [toList_bl, bl_mk]; rfl
            have e2 : ((mk (Nm.parents (j + 1) n)).toList == [0]) = true := by rw [hrt.out (j + 1) (by omega)]; rw [toList_bl, bl_mk]; rfl
            have hp := HP1.out j
            have HP2 := Go.Lib.hid hp
            clear hp
            go_wp2_with fail
            refine (HP2.out _).mono ?_; rintro e w' ⟨rfl, rfl⟩
            go_wp2_with fail
            refine (AW.out _).mono ?_; rintro e w9 ⟨rfl, hx⟩
            have hb := HB.out.trans (hx.mono HB.out.size)
            clear HB
            have HB := Go.Lib.hid hb
            clear hx hb
            go_wp2_with fail
            go_ret
            exact ⟨rfl, HB.out⟩
      · obtain ⟨kk, rfl⟩ : ∃ kk : Nat, k = (kk : Int) := ⟨k.toNat, by omega⟩
        have hk1 : 0 < (kk : Int) := by omega
        have hk2 : kk ≤ N := by omega
        have hk4 : 0 < kk := by omega
        have hwl : walkL (kk : Int) l = l.take kk := by
          unfold walkL
          rw [if_pos ⟨by omega, by rw [HN.out]; omega⟩, Int.toNat_natCast]
        have hlen : (l.take kk).length = kk := by rw [List.length_take, HN.out]; omega
        have hw2 := HWK2.out
        rw [hwl] at hw2
        have hh := HH.out
        rw [← HN.out] at hh
        obtain ⟨b, off, rfl, hbw, _⟩ := Strs.at hh (by rw [HN.out]; omega)
        rw [HN.out] at hh
        have hcap := slc_bounds hh
        have hsub := Strs.sub hh HN.out (i := 0) (j := kk) (by omega) hk2 (a' := some ⟨b, off, none⟩) (fun _ => rfl) (fun h => by cases h)
        simp only [Nat.sub_zero, List.drop_zero] at hsub
        have hk3 : (kk : Int) ≤ (cap : Int) := by omega
        have HW2 := Go.Lib.hid hw2
        have HSUB := Go.Lib.hid hsub
        have HLEN := Go.Lib.hid hlen
        have HCAP := Go.Lib.hid hcap
        have HBW := Go.Lib.hid hbw
        clear hw2 hsub hlen hcap hbw
        clear hwl hk0 hh HWK2 HK hpos hltK HTX HP HWK HCT HTT HRD
        refine Go.Mix.wp_region_mix (Es := [5, 9]) (fun _ => True) mixed (by kernel_rfl) trivial (fun _ => ?_)
        iterate 5 (refine Go.Mix.mix_step rfl (fun K hK => ?_); have HKK := Go.Lib.hid hK; clear hK; go_simp; refine HKK.out _ _ ?_; clear HKK K)
        refine Go.Mix.mix_eff rfl (fun K hK => ?_)
        have HKK := Go.Lib.hid hK
        clear hK
        go_simp
        refine (HW2.out _).mono ?_; rintro e w7 ⟨v7, rfl, hst7, hx⟩
        have hb := HB.out.drew.trans (hx.mono HB.out.size)
        clear HB
        have HB := Go.Lib.hid hb
        clear hx hb
        obtain ⟨a7, c7, rfl, _, _⟩ := hst7.slice
        have htt := Texts_any (l.take kk) (l.take kk) a7 (some ⟨b, off, none⟩) c7 cap w7 hst7 (by rw [HLEN.out]; exact HSUB.out.below HB.out (Nat.le_refl _))
        rw [decide_eq_true rfl, HLEN.out] at htt
        rw [HLEN.out]
        have HTT := Go.Lib.hid htt
        clear htt
        clear hst7
        go_simp
        refine HKK.out _ _ trivial ?_
        clear HKK K
        iterate 2 (refine Go.Mix.mix_step rfl (fun K hK => ?_); have HKK := Go.Lib.hid hK; clear hK; go_simp; refine HKK.out _ _ ?_; clear HKK K)
        refine Go.Mix.mix_step rfl (fun K hK => ?_)
        have HKK := Go.Lib.hid hK
        clear hK
        go_simp
        refine HKK.out _ _ ?_
        clear HKK K
        refine Go.Mix.mix_eff rfl (fun K hK => ?_)
        have HKK := Go.Lib.hid hK
        clear hK
        go_simp
        refine HTT.out.mono ?_; rintro e w8 ⟨rfl, hx⟩
        have hb := HB.out.trans (hx.mono HB.out.size)
        clear HB
        have HB := Go.Lib.hid hb
        clear hx hb
        go_simp
        refine HKK.out _ _ trivial ?_
        clear HKK K
        iterate 2 (refine Go.Mix.mix_step rfl (fun K hK => ?_); have HKK := Go.Lib.hid hK; clear hK; go_simp; refine HKK.out _ _ ?_; clear HKK K)
        refine Go.Mix.mix_nil ?_
        go_wp2_with fail
        go_loopw [10, 11] (fun a i wr => ∃ j : Nat, i = .int .i64 j ∧ j ≤ N ∧ a = .string (mk (Nm.parents j n)) ∧ Below w.heap.size w wr) (fun _ i _ => N - (intOf i).toNat)
        case atStart => exact ⟨0, rfl, by omega, by rw [hp0.out], HB.out⟩
        case round =>
          obtain ⟨j, rfl, hj, rfl, hbr⟩ := hrel
          clear HB
          have HB := Go.Lib.hid hbr
          clear hbr
          by_cases hlt : j < N
          · have e1 := neq_root (hnr.out j hlt)
            have e2 : mk (Nm.commonN n (Nm.parents j n)) = mk (Nm.parents j n) := by rw [hcm.out j hj]
            have hu := HU1.out j
            have hc := HC1.out j
            have hp := HP1.out j
            rw [e2] at hc
            have HU := Go.Lib.hid hu
            have HC := Go.Lib.hid hc
            have HP2 := Go.Lib.hid hp
            clear hu hc hp e2
            go_wp2_with fail
            refine (HU.out _).mono ?_; rintro e w7 ⟨rfl, hx⟩
            have hb := HB.out.trans (hx.mono HB.out.size)
            clear HB
            have HB := Go.Lib.hid hb
            clear hx hb
            go_wp2_with fail
            refine (HC.out _).mono ?_; rintro e w8 ⟨rfl, hx⟩
            have hb := HB.out.trans (hx.mono HB.out.size)
            clear HB
            have HB := Go.Lib.hid hb
            clear hx hb
            go_wp2_with fail
            refine (HP2.out _).mono ?_; rintro e w' ⟨rfl, rfl⟩
            go_wp2_with fail
            go_roundw
            case rel => exact ⟨j + 1, by go_num, by omega, rfl, HB.out⟩
            case measure => simp [intOf]; omega
          · obtain rfl : j = N := by omega
            have e1 : ((mk (Nm.parents j n)).toList == [0]) = true := by rw [hrt.out j (Nat.le_refl _)]; rw [toList_bl, bl_mk]; rfl
            have e2 : ((mk (Nm.parents (j + 1) n)).toList == [0]) = true := by rw [hrt.out (j + 1) (by omega)]; rw [toList_bl, bl_mk]; rfl
            have hp := HP1.out j
            have HP2 := Go.Lib.hid hp
            clear hp
            go_wp2_with fail
            refine (HP2.out _).mono ?_; rintro e w' ⟨rfl, rfl⟩
            go_wp2_with fail
            refine (AW.out _).mono ?_; rintro e w9 ⟨rfl, hx⟩
            have hb := HB.out.trans (hx.mono HB.out.size)
            clear HB
            have HB := Go.Lib.hid hb
            clear hx hb
            go_wp2_with fail
            go_ret
            exact ⟨rfl, HB.out⟩
  · rw [decide_eq_false h3] at hsh
    have HSH := Go.Lib.hid hsh
    clear hsh h3
    generalize l.length = n at *
    go_enter Try.func6, Try.ntmps6
    go_wp2_with fail
    refine HSH.out.mono ?_; rintro e w' ⟨rfl, rfl⟩
    go_wp2_with fail
    refine (AW.out _).mono ?_; rintro e w1 ⟨rfl, hb⟩
    go_wp2_with fail
    go_ret
    exact ⟨rfl, hb⟩

set_option maxRecDepth 100000 in
theorem lifted (os : Os) (started : os.Started) (H : Type) (enc : TypeId × Value → H) :
    ReturnsInHanded {} Try.checked os 6 .any (Rows.nameBackSpec.pre6 enc Try.prog Try.f6 Rows.nameBackRow.domain false) (Rows.nameBackSpec.post enc Try.prog Try.f6 false true false false) := by
  refine returnsInHanded_of_change (C := Try.checked) own started (by kernel_rfl) Try.func6
    (ChangeSpec.witness6 (enc := enc) (C := Try.checked) false ⟨#[], #[.slice none 0 0, .int .i64 0], []⟩ 8 (by kernel_rfl) (by kernel_rfl) (by kernel_rfl) (by kernel_rfl)) ?_
  intro W base args ds gs before hval0 hW hcnd _
  have hval : ∀ (j : Nat) t v, Try.f6.params[j]? = some t → args[j]? = some v → Value.okWide Try.prog W .any base t v := hval0
  refine law_post enc 2 (by kernel_rfl) rfl rfl (by kernel_rfl) (fun ds h => match ds, h with | [_, _], _ => rfl) hW ?_
  obtain ⟨p, q, hA0, hV, rfl, _, _⟩ := hW
  have hA : DataW.TrodAll enc Try.prog W 0 (fun _ => true) true Try.f6.params.toList args.toList ds p := hA0
  rw [Try.params6] at hA hval
  obtain ⟨v0, vs0, d0, ds0, p0, q0, hargs, rfl, rfl, h0, r0⟩ := trodAll_cons hA
  obtain ⟨v1, vs1, d1, ds1, p1, q1, rfl, rfl, rfl, h1, r1⟩ := trodAll_cons r0
  obtain ⟨rfl, rfl, rfl⟩ := trodAll_nil r1
  obtain rfl : args = #[v0, v1] := by cases args; simp_all
  obtain ⟨a0, z0, c0, rfl, w0, f0⟩ := open_Strs Try.underlying23 Try.underlying9 (by kernel_rfl) (hval 0 23 v0 rfl rfl) h0
  obtain ⟨a1, rfl, rfl, rfl, w1⟩ := open_int Try.underlying3 (hval 1 3 v1 rfl rfl) h1
  exact walk a0 z0 c0 a1 W w0 f0 (fits_of_wf w1)

theorem over : Rows.nameBackRow.holds Try.pinned (OpenSpec.ofChange Rows.nameBackSpec) :=
  OpenClaim.holds_of_wide 6 Try.f6 rfl rfl rfl rfl rfl rfl rfl ⟨rfl, rfl, rfl, rfl, rfl⟩ rfl rfl rfl rfl rfl (by kernel_rfl) Try.func6 (by kernel_rfl)
    (of_decide_eq_true (by kernel_rfl)) (by unfold Func.isWrapper; first | (rw [if_pos (by decide +kernel)]; kernel_rfl) | (rw [if_neg (by decide +kernel)]; exact ⟨rfl, rfl⟩))
    (fun os started H enc _ => lifted os started H enc)

/-- the statement -/
theorem proved : Rows.NameBackSaid := over
#print axioms proved
end Go.Proofs.Ytfmhmhekildfbaa.nameBack

