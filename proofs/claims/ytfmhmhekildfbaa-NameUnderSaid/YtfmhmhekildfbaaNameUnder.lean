/- NameUnder: with labels put ahead a name is under what it was; it has as many labels more; what both have in common is that. For every input; no conditions. -/
import Derived.Test.YtfmhmhekildfbaaNameX
import Derived.Test.YtfmhmhekildfbaaNmE
namespace Go.Proofs.Ytfmhmhekildfbaa.nameUnder
open Go.ChangeShapes Go.WideShapes Go.ChangeAt Go.RowKit
open Go.ChangeMaps (open_string shut_string)
set_option linter.unusedVariables false

theorem same_text (s : ByteArray) : (s.toList == s.toList) = true := by simp

set_option maxRecDepth 100000 in
set_option maxHeartbeats 4000000 in
theorem inner (s : ByteArray) (ad : Option Addr) (l : List (List UInt8)) (cap : Nat) (w : World) (hs : s.size ≤ 200) (hv : Nm.valid (bl s) = true) (h : Strs w (.slice ad l.length cap) l) (hl : ∀ x ∈ l, x.length ≤ maxLen)
    (h3 : l.length + sumL l ≤ 200) :
    Calls Try.prog 8 #[.string s, .slice ad l.length cap] w fun e w' => e = .returned (.bool true) ∧ Below w.heap.size w w' := by
  have hm : s.size ≤ maxLen := by unfold maxLen; omega
  have AW := Go.Lib.hid awake_any
  have hva := fun w => valid_any s w hm
  rw [hv] at hva
  have hsh := Short_any l ad cap 200 w h (by decide) hl
  rw [decide_eq_true h3] at hsh
  have hrl := fun w => refLabels_any s w
  rw [Nm.refLab_labs hv] at hrl
  have hle := labs_le (bl s)
  have hq : ¬ 200 < (s.size : Int) := by omega
  have HB := Go.Lib.hid (Below.refl w.heap.size w)
  have hmem : ∀ x ∈ l ++ Nm.labs (bl s), x.length ≤ maxLen := fun x hx => by
    rcases List.mem_append.1 hx with h | h
    · exact hl x h
    · have := ((Nm.labs_valid hv).2.1 x h).2
      unfold maxLen; omega
  have HV := Go.Lib.hid hv
  have HVA := Go.Lib.hid hva
  have HSH := Go.Lib.hid hsh
  have HRL := Go.Lib.hid hrl
  have HST := Go.Lib.hid h
  have HMEM := Go.Lib.hid hmem
  clear hva hsh hrl h hmem
  clear hv hm hl
  have hl2 : l.length ≤ 200 := by omega
  clear h3
  generalize hL : Nm.labs (bl s) = L at *
  generalize hM : l.length = M at *
  have HM := Go.Lib.hid hM
  have HL := Go.Lib.hid hL
  clear hM hL
  go_enter Try.func8, Try.ntmps8
  go_wp2_with fail
  refine (HVA.out _).mono ?_; rintro e _ ⟨rfl, rfl⟩
  go_wp2_with fail
  refine (HSH.out).mono ?_; rintro e _ ⟨rfl, rfl⟩
  go_wp2_with fail
  refine (HRL.out _).mono ?_; rintro e w5 ⟨v5, rfl, hst5, hx⟩
  have hb := HB.out.trans (hx.mono HB.out.size)
  clear HB
  have HB := Go.Lib.hid hb
  clear hx hb
  obtain ⟨a5, c5, rfl, _, _⟩ := hst5.slice
  generalize hN : L.length = N at *
  have hmo : SlC (w5.alloc (.cells #[] 9)) 1 (.slice ad M cap) M (encS l) := by
    have h1 := (HST.out.below HB.out (Nat.le_refl _)).below ((Below.refl _ _).alloc (Nat.le_refl _) (.cells #[] 9)) (Nat.le_refl _)
    unfold Strs at h1
    rw [HM.out] at h1
    exact h1
  have HST5 := Go.Lib.hid hst5
  have HN := Go.Lib.hid hN
  have HMO := Go.Lib.hid hmo
  clear hst5 hN hmo
  have hbA : Below w5.heap.size w5 (w5.alloc (.cells #[] 9)) := (Below.refl _ _).alloc (Nat.le_refl _) _
  have HBA := Go.Lib.hid hbA
  clear hbA
  go_wp2_with (first | (at_builtin; refine wpList_app eiS (.tmp 29) (.tmp 30) rfl rfl w5.heap.size rfl rfl (owns_empty w5 w5.heap.size 9 1 (Nat.le_refl _)) HMO.out (one_strs _) ?h2 ?h3 ?h4 ?h5; rotate_right; intro v1 w6 hown1 hg1; have HB6 := Go.Lib.hid (below_app HBA.out (owns_empty w5 w5.heap.size 9 1 (Nat.le_refl _)) hg1 (Nat.le_refl _) (by simp)); have HO1 := Go.Lib.hid hown1; clear hown1 hg1) | (at_builtin; refine wpList_app eiS (.tmp 31) (.tmp 32) rfl rfl w5.heap.size rfl rfl HO1.out (HST5.out.below HB6.out (Nat.le_refl _)) (one_strs _) ?h6 ?h7 ?h8 ?h9; rotate_right; intro v2 w7 hown2 hg2; have HB7 := Go.Lib.hid (below_app HB6.out HO1.out hg2 (Nat.le_refl _) HB6.out.size); have HO2 := Go.Lib.hid hown2; clear hown2 hg2))
  case h2 => unfold maxLen; omega
  case h3 => omega
  case h4 => simp
  case h6 => rw [HN.out]; unfold maxLen; omega
  case h7 => rw [HN.out]; omega
  case h8 => exact HB6.out.size
  have hj : Strs w7 v2 (l ++ L) := by
    have h1 := HO2.out
    have e1 : 0 + M + L.length = (l ++ L).length := by rw [List.length_append, HM.out]; omega
    have e2 : ([] ++ encS l) ++ L.map (fun x => Value.string (mk x)) = encS (l ++ L) := by simp [encS]
    rw [e1, e2] at h1
    exact strs_owned h1
  obtain ⟨a7, c7, rfl, _, _⟩ := hj.slice
  have hb := HB.out.trans (HB7.out.mono HB.out.size)
  clear HB
  have HB := Go.Lib.hid hb
  clear hb HMO HBA HST5 HST
  have hjn := Join_any a7 c7 (l ++ L) w7 hj (by rw [List.length_append, HM.out, HN.out]; omega) HMEM.out
  clear hj HO2 HO1 HB7 HB6 HMEM
  cases hjo : Nm.joinN (l ++ L) with
  | none =>
    rw [hjo] at hjn
    have HJN := Go.Lib.hid hjn
    clear hjn
    clear hjo
    generalize (l ++ L).length = LL at *
    go_wp2_with fail
    refine (HJN.out).mono ?_; rintro e wb1 ⟨rfl, hx⟩
    have hb := HB.out.trans (hx.mono HB.out.size)
    clear HB
    have HB := Go.Lib.hid hb
    clear hx hb
    unfold nameEnd
    simp only [Option.getD_none, Option.isSome_none]
    go_wp2_with fail
    refine (AW.out _).mono ?_; rintro e wb2 ⟨rfl, hx⟩
    have hb := HB.out.trans (hx.mono HB.out.size)
    clear HB
    have HB := Go.Lib.hid hb
    clear hx hb
    go_wp2_with fail
    go_ret
    exact ⟨rfl, HB.out⟩
  | some o =>
    rw [hjo] at hjn
    rw [← HL.out] at hjo
    obtain ⟨hvo, hlo⟩ := Nm.joinN_valid hjo
    have hos : (mk o).size ≤ maxLen := by rw [size_mk]; have := (Nm.labs_valid hvo).2.2; unfold maxLen; omega
    have hsm : s.size ≤ maxLen := by unfold maxLen; omega
    have hun := fun w => Under_any (mk o) s w hos hsm
    rw [bl_mk, Nm.under_ahead_of HV.out hvo hlo] at hun
    have hct := fun w => Count_any (mk o) w hos
    rw [bl_mk, hlo, show (((l ++ Nm.labs (bl s)).length : Nat) : Int) = (N : Int) + (M : Int) by rw [List.length_append, HL.out, HM.out, HN.out]; omega] at hct
    have hc1 := fun w => Common_any (mk o) s w hos hsm
    have hc2 := fun w => Common_any s (mk o) w hsm hos
    rw [bl_mk, (Nm.common_ahead HV.out hvo hlo).1, mk_bl] at hc1
    rw [bl_mk, (Nm.common_ahead HV.out hvo hlo).2, mk_bl] at hc2
    have hbk := fun w => Under_any s (mk o) w hsm hos
    rw [bl_mk, Nm.back_ahead HV.out hvo hlo] at hbk
    have hst := same_text s
    have hls := fun w => Less_any s (mk o) w hsm hos
    rw [bl_mk] at hls
    have hpa := fun w => Parent_any (mk o) w hos
    rw [bl_mk] at hpa
    have hpu := fun w => Under_any (mk (Nm.parentN o)) s w (by rw [size_mk]; have := (Nm.labs_valid (Nm.valid_parent (s := o))).2.2; unfold maxLen; omega) hsm
    rw [bl_mk] at hpu
    have hnum : ((N : Int) + (M : Int) != (N : Int) + (M : Int)) = false := by simp
    have hNb : N ≤ 300 := by omega
    by_cases hM0 : l = []
    · rw [decide_eq_true hM0] at hbk
      have hz : M = 0 := by rw [← HM.out, hM0]; rfl
      have e1 : ((M : Int) == 0) = true := by rw [hz]; rfl
      have HJN := Go.Lib.hid hjn
      have HUN := Go.Lib.hid hun
      have HCT := Go.Lib.hid hct
      have HC1 := Go.Lib.hid hc1
      have HC2 := Go.Lib.hid hc2
      have HBK := Go.Lib.hid hbk
      have HLS := Go.Lib.hid hls
      have HPA := Go.Lib.hid hpa
      have HPU := Go.Lib.hid hpu
      clear hjn hun hct hc1 hc2 hbk hls hpa hpu
      clear hvo hlo hos hsm hM0 hz hjo
      generalize (l ++ L).length = LL at *
      go_wp2_with fail
      refine (HJN.out).mono ?_; rintro e wb3 ⟨rfl, hx⟩
      have hb := HB.out.trans (hx.mono HB.out.size)
      clear HB
      have HB := Go.Lib.hid hb
      clear hx hb
      unfold nameEnd
      simp only [Option.getD_some, Option.isSome_some]
      go_wp2_with fail
      refine (HUN.out _).mono ?_; rintro e wb4 ⟨rfl, hx⟩
      have hb := HB.out.trans (hx.mono HB.out.size)
      clear HB
      have HB := Go.Lib.hid hb
      clear hx hb
      go_wp2_with fail
      refine (HCT.out _).mono ?_; rintro e wb5 ⟨rfl, hx⟩
      have hb := HB.out.trans (hx.mono HB.out.size)
      clear HB
      have HB := Go.Lib.hid hb
      clear hx hb
      go_wp2_with fail
      refine (HC1.out _).mono ?_; rintro e wb6 ⟨rfl, hx⟩
      have hb := HB.out.trans (hx.mono HB.out.size)
      clear HB
      have HB := Go.Lib.hid hb
      clear hx hb
      go_wp2_with fail
      refine (HC2.out _).mono ?_; rintro e wb7 ⟨rfl, hx⟩
      have hb := HB.out.trans (hx.mono HB.out.size)
      clear HB
      have HB := Go.Lib.hid hb
      clear hx hb
      go_wp2_with fail
      refine (HBK.out _).mono ?_; rintro e wb8 ⟨rfl, hx⟩
      have hb := HB.out.trans (hx.mono HB.out.size)
      clear HB
      have HB := Go.Lib.hid hb
      clear hx hb
      go_wp2_with fail
      refine (AW.out _).mono ?_; rintro e wb9 ⟨rfl, hx⟩
      have hb := HB.out.trans (hx.mono HB.out.size)
      clear HB
      have HB := Go.Lib.hid hb
      clear hx hb
      go_wp2_with fail
      go_ret
      exact ⟨rfl, HB.out⟩
    · rw [decide_eq_false hM0] at hbk
      rw [Nm.less_ahead HV.out hvo hlo hM0] at hls
      rw [Nm.parent_ahead HV.out hlo hM0] at hpu
      have hz : M ≠ 0 := by
        have := List.length_pos_iff.2 hM0
        rw [HM.out] at this
        omega
      have e1 : ((M : Int) == 0) = false := by rw [beq_eq_false_iff_ne]; omega
      have HJN := Go.Lib.hid hjn
      have HUN := Go.Lib.hid hun
      have HCT := Go.Lib.hid hct
      have HC1 := Go.Lib.hid hc1
      have HC2 := Go.Lib.hid hc2
      have HBK := Go.Lib.hid hbk
      have HLS := Go.Lib.hid hls
      have HPA := Go.Lib.hid hpa
      have HPU := Go.Lib.hid hpu
      clear hjn hun hct hc1 hc2 hbk hls hpa hpu
      clear hvo hlo hos hsm hM0 hz hjo
      generalize (l ++ L).length = LL at *
      go_wp2_with fail
      refine (HJN.out).mono ?_; rintro e wb10 ⟨rfl, hx⟩
      have hb := HB.out.trans (hx.mono HB.out.size)
      clear HB
      have HB := Go.Lib.hid hb
      clear hx hb
      unfold nameEnd
      simp only [Option.getD_some, Option.isSome_some]
      go_wp2_with fail
      refine (HUN.out _).mono ?_; rintro e wb11 ⟨rfl, hx⟩
      have hb := HB.out.trans (hx.mono HB.out.size)
      clear HB
      have HB := Go.Lib.hid hb
      clear hx hb
      go_wp2_with fail
      refine (HCT.out _).mono ?_; rintro e wb12 ⟨rfl, hx⟩
      have hb := HB.out.trans (hx.mono HB.out.size)
      clear HB
      have HB := Go.Lib.hid hb
      clear hx hb
      go_wp2_with fail
      refine (HC1.out _).mono ?_; rintro e wb13 ⟨rfl, hx⟩
      have hb := HB.out.trans (hx.mono HB.out.size)
      clear HB
      have HB := Go.Lib.hid hb
      clear hx hb
      go_wp2_with fail
      refine (HC2.out _).mono ?_; rintro e wb14 ⟨rfl, hx⟩
      have hb := HB.out.trans (hx.mono HB.out.size)
      clear HB
      have HB := Go.Lib.hid hb
      clear hx hb
      go_wp2_with fail
      refine (HBK.out _).mono ?_; rintro e wb15 ⟨rfl, hx⟩
      have hb := HB.out.trans (hx.mono HB.out.size)
      clear HB
      have HB := Go.Lib.hid hb
      clear hx hb
      go_wp2_with fail
      refine (HLS.out _).mono ?_; rintro e wb16 ⟨rfl, hx⟩
      have hb := HB.out.trans (hx.mono HB.out.size)
      clear HB
      have HB := Go.Lib.hid hb
      clear hx hb
      go_wp2_with fail
      refine (HPA.out _).mono ?_; rintro e _ ⟨rfl, rfl⟩
      go_wp2_with fail
      refine (HPU.out _).mono ?_; rintro e wb17 ⟨rfl, hx⟩
      have hb := HB.out.trans (hx.mono HB.out.size)
      clear HB
      have HB := Go.Lib.hid hb
      clear hx hb
      go_wp2_with fail
      refine (AW.out _).mono ?_; rintro e wb18 ⟨rfl, hx⟩
      have hb := HB.out.trans (hx.mono HB.out.size)
      clear HB
      have HB := Go.Lib.hid hb
      clear hx hb
      go_wp2_with fail
      go_ret
      exact ⟨rfl, HB.out⟩

set_option maxRecDepth 100000 in
set_option maxHeartbeats 1000000 in
theorem walk (s : ByteArray) (ad : Option Addr) (l : List (List UInt8)) (cap : Nat) (w : World) (hs : s.size ≤ maxLen) (h : Strs w (.slice ad l.length cap) l) (hl : ∀ x ∈ l, x.length ≤ maxLen) :
    Calls Try.prog 8 #[.string s, .slice ad l.length cap] w fun e w' => e = .returned (.bool true) ∧ Below w.heap.size w w' := by
  have AW := Go.Lib.hid awake_any
  have HB := Go.Lib.hid (Below.refl w.heap.size w)
  by_cases h1 : s.size ≤ 200
  · cases hv : Nm.valid (bl s) with
    | true =>
      by_cases h3 : l.length + sumL l ≤ 200
      · exact inner s ad l cap w h1 hv h hl h3
      · have hva := valid_any s w hs
        rw [hv] at hva
        have hsh := Short_any l ad cap 200 w h (by decide) hl
        rw [decide_eq_false h3] at hsh
        have hq : ¬ 200 < (s.size : Int) := by omega
        have HVA := Go.Lib.hid hva
        have HSH := Go.Lib.hid hsh
        clear hva hsh
        clear hs hv h1 h hl h3
        generalize l.length = M at *
        go_enter Try.func8, Try.ntmps8
        go_wp2_with fail
        refine (HVA.out).mono ?_; rintro e _ ⟨rfl, rfl⟩
        go_wp2_with fail
        refine (HSH.out).mono ?_; rintro e _ ⟨rfl, rfl⟩
        go_wp2_with fail
        refine (AW.out _).mono ?_; rintro e wb19 ⟨rfl, hx⟩
        have hb := HB.out.trans (hx.mono HB.out.size)
        clear HB
        have HB := Go.Lib.hid hb
        clear hx hb
        go_wp2_with fail
        go_ret
        exact ⟨rfl, HB.out⟩
    | false =>
      have hva := valid_any s w hs
      rw [hv] at hva
      have hq : ¬ 200 < (s.size : Int) := by omega
      have HVA := Go.Lib.hid hva
      clear hva
      clear hs hv h1 h hl
      generalize l.length = M at *
      go_enter Try.func8, Try.ntmps8
      go_wp2_with fail
      refine (HVA.out).mono ?_; rintro e _ ⟨rfl, rfl⟩
      go_wp2_with fail
      refine (AW.out _).mono ?_; rintro e wb20 ⟨rfl, hx⟩
      have hb := HB.out.trans (hx.mono HB.out.size)
      clear HB
      have HB := Go.Lib.hid hb
      clear hx hb
      go_wp2_with fail
      go_ret
      exact ⟨rfl, HB.out⟩
  · have hq : 200 < (s.size : Int) := by omega
    clear hs h1 h hl
    generalize l.length = M at *
    go_enter Try.func8, Try.ntmps8
    go_wp2_with fail
    refine (AW.out _).mono ?_; rintro e wb21 ⟨rfl, hx⟩
    have hb := HB.out.trans (hx.mono HB.out.size)
    clear HB
    have HB := Go.Lib.hid hb
    clear hx hb
    go_wp2_with fail
    go_ret
    exact ⟨rfl, HB.out⟩

set_option maxRecDepth 100000 in
theorem lifted (os : Os) (started : os.Started) (H : Type) (enc : TypeId × Value → H) :
    ReturnsInHanded {} Try.checked os 8 .any (Rows.nameUnderSpec.pre6 enc Try.prog Try.f8 Rows.nameUnderRow.domain false) (Rows.nameUnderSpec.post enc Try.prog Try.f8 false true false false) := by
  refine returnsInHanded_of_change (C := Try.checked) own started (by kernel_rfl) Try.func8
    (ChangeSpec.witness6 (enc := enc) (C := Try.checked) false ⟨#[], #[.string ⟨#[]⟩, .slice none 0 0], []⟩ 8 (by kernel_rfl) (by kernel_rfl) (by kernel_rfl) (by kernel_rfl)) ?_
  intro W base args ds gs before hval0 hW hcnd _
  have hval : ∀ (j : Nat) t v, Try.f8.params[j]? = some t → args[j]? = some v → Value.okWide Try.prog W .any base t v := hval0
  refine law_post enc 2 (by kernel_rfl) rfl rfl (by kernel_rfl) (fun ds h => match ds, h with | [_, _], _ => rfl) hW ?_
  obtain ⟨p, q, hA0, hV, rfl, _, _⟩ := hW
  have hA : DataW.TrodAll enc Try.prog W 0 (fun _ => true) true Try.f8.params.toList args.toList ds p := hA0
  rw [Try.params8] at hA hval
  obtain ⟨v0, vs0, d0, ds0, p0, q0, hargs, rfl, rfl, h0, r0⟩ := trodAll_cons hA
  obtain ⟨v1, vs1, d1, ds1, p1, q1, rfl, rfl, rfl, h1, r1⟩ := trodAll_cons r0
  obtain ⟨rfl, rfl, rfl⟩ := trodAll_nil r1
  obtain rfl : args = #[v0, v1] := by cases args; simp_all
  obtain ⟨s0, rfl, rfl, rfl, w0⟩ := open_string Try.underlying9 (hval 0 9 v0 rfl rfl) h0
  obtain ⟨a1, z1, c1, rfl, w1, f1⟩ := open_Strs Try.underlying23 Try.underlying9 (by kernel_rfl) (hval 1 23 v1 rfl rfl) h1
  exact walk s0 a1 z1 c1 W w0 w1 f1

theorem over : Rows.nameUnderRow.holds Try.pinned (OpenSpec.ofChange Rows.nameUnderSpec) :=
  OpenClaim.holds_of_wide 8 Try.f8 rfl rfl rfl rfl rfl rfl rfl ⟨rfl, rfl, rfl, rfl, rfl⟩ rfl rfl rfl rfl rfl (by kernel_rfl) Try.func8 (by kernel_rfl)
    (of_decide_eq_true (by kernel_rfl)) (by unfold Func.isWrapper; first | (rw [if_pos (by decide +kernel)]; kernel_rfl) | (rw [if_neg (by decide +kernel)]; exact ⟨rfl, rfl⟩))
    (fun os started H enc _ => lifted os started H enc)

/-- the statement -/
theorem proved : Rows.NameUnderSaid := over
#print axioms proved
end Go.Proofs.Ytfmhmhekildfbaa.nameUnder

