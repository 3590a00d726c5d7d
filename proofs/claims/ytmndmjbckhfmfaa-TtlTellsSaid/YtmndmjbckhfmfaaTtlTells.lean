/- TtlTells: of any times each sum, and bound, is as the document says. For every input; no conditions. -/
import Derived.Test.YtmndmjbckhfmfaaTtl
namespace Go.Proofs.Ytmndmjbckhfmfaa.ttlTells
open Go.ChangeShapes Go.WideShapes Go.ChangeAt Go.RowKit
open Go.ChangeMaps (open_string shut_string)
set_option linter.unusedVariables false

set_option maxHeartbeats 1000000 in
theorem walk (a b c : Int) (ad : Option Addr) (l : List Int) (cap : Nat) (w : World) (ha : Fits a) (hb : Fits b) (hc : Fits c) (h : Ints w (.slice ad l.length cap) l) (_hl : ∀ n ∈ l, Fits n) :
    Calls Try.prog 3 #[.int .i64 a, .int .i64 b, .int .i64 c, .slice ad l.length cap] w fun e w' => e = .returned (.bool true) ∧ Below w.heap.size w w' := by
  have H := Go.Lib.hid h
  clear h _hl
  generalize hn : l.length = n at *
  have HN := Go.Lib.hid hn
  clear hn
  by_cases hg : n ≤ 60
  · go_enter Try.func3, Try.ntmps3
    have hle : l.length ≤ 4611686018427387904 := by rw [HN.out]; omega
    have h1 := least_any ad l cap w (by have := H.out; rw [HN.out]; exact this) hle
    have h2 := refmin_any ad l cap w (by have := H.out; rw [HN.out]; exact this) hle
    rw [HN.out] at h1 h2
    have H1 := Go.Lib.hid h1
    have H2 := Go.Lib.hid h2
    clear h1 h2 hle
    go_wp2_with (first
      | (go_at_call 9; refine (cap_any _ _ _).mono ?_; rintro e w' ⟨rfl, rfl⟩)
      | (go_at_call 10; refine (refcap_any _ _ _).mono ?_; rintro e w' ⟨rfl, rfl⟩)
      | (go_at_call 11; refine (exp_any _ _ _ ha hb).mono ?_; rintro e w' ⟨rfl, rfl⟩)
      | (go_at_call 12; refine (refexp_any _ _ _ ha hb).mono ?_; rintro e w' ⟨rfl, rfl⟩)
      | (go_at_call 13; refine (left_any _ _ _ ha hb).mono ?_; rintro e w' ⟨rfl, rfl⟩)
      | (go_at_call 14; refine (refleft_any _ _ _ ha hb).mono ?_; rintro e w' ⟨rfl, rfl⟩)
      | (go_at_call 15; refine H1.out.mono ?_; rintro e w' ⟨rfl, rfl⟩)
      | (go_at_call 16; refine H2.out.mono ?_; rintro e w' ⟨rfl, rfl⟩)
      | (go_at_call 17; refine (over_any _ _ _ ha hb).mono ?_; rintro e w' ⟨rfl, rfl⟩))
    go_goals
    all_goals
      refine (neg_any _ _ _ _).mono ?_
      rintro e w1 ⟨rfl, hw1⟩
      go_wp2_with fail
      refine (refneg_any _ _ _ _).mono ?_
      rintro e w' ⟨rfl, rfl⟩
      go_wp2_with fail
      refine (awake_any _).mono ?_
      rintro e w4 ⟨rfl, hw4⟩
      go_wp2_with fail
      go_ret
      exact ⟨rfl, hw1.trans (hw4.mono hw1.size)⟩
  · go_enter Try.func3, Try.ntmps3
    go_wp2_with (go_at_call 8; refine (awake_any _).mono ?_; rintro e w' ⟨rfl, hw⟩)
    all_goals go_ret
    all_goals exact ⟨rfl, hw⟩

set_option maxRecDepth 100000 in
theorem lifted (os : Os) (started : os.Started) (H : Type) (enc : TypeId × Value → H) :
    ReturnsInHanded {} Try.checked os 3 .any (Rows.ttlTellsSpec.pre6 enc Try.prog Try.f3 Rows.ttlTellsRow.domain false) (Rows.ttlTellsSpec.post enc Try.prog Try.f3 false true false false) := by
  refine returnsInHanded_of_change (C := Try.checked) own started (by kernel_rfl) Try.func3
    (ChangeSpec.witness6 (enc := enc) (C := Try.checked) false ⟨#[], #[.int .i64 0, .int .i64 0, .int .i64 0, .slice none 0 0], []⟩ 8 (by kernel_rfl) (by kernel_rfl) (by kernel_rfl) (by kernel_rfl)) ?_
  intro W base args ds gs before hval0 hW hcnd _
  have hval : ∀ (j : Nat) t v, Try.f3.params[j]? = some t → args[j]? = some v → Value.okWide Try.prog W .any base t v := hval0
  refine law_post enc 4 (by kernel_rfl) rfl rfl (by kernel_rfl) (fun ds h => match ds, h with | [_, _, _, _], _ => rfl) hW ?_
  obtain ⟨p, q, hA0, hV, rfl, _, _⟩ := hW
  have hA : DataW.TrodAll enc Try.prog W 0 (fun _ => true) true Try.f3.params.toList args.toList ds p := hA0
  rw [Try.params3] at hA hval
  obtain ⟨v0, vs0, d0, ds0, p0, q0, hargs, rfl, rfl, h0, r0⟩ := trodAll_cons hA
  obtain ⟨v1, vs1, d1, ds1, p1, q1, rfl, rfl, rfl, h1, r1⟩ := trodAll_cons r0
  obtain ⟨v2, vs2, d2, ds2, p2, q2, rfl, rfl, rfl, h2, r2⟩ := trodAll_cons r1
  obtain ⟨v3, vs3, d3, ds3, p3, q3, rfl, rfl, rfl, h3, r3⟩ := trodAll_cons r2
  obtain ⟨rfl, rfl, rfl⟩ := trodAll_nil r3
  obtain rfl : args = #[v0, v1, v2, v3] := by cases args; simp_all
  obtain ⟨a0, rfl, rfl, rfl, w0⟩ := open_int Try.underlying3 (hval 0 3 v0 rfl rfl) h0
  obtain ⟨a1, rfl, rfl, rfl, w1⟩ := open_int Try.underlying3 (hval 1 3 v1 rfl rfl) h1
  obtain ⟨a2, rfl, rfl, rfl, w2⟩ := open_int Try.underlying3 (hval 2 3 v2 rfl rfl) h2
  obtain ⟨a3, z3, c3, rfl, w3, f3⟩ := open_Ints Try.underlying22 Try.underlying3 (by kernel_rfl) (hval 3 22 v3 rfl rfl) h3
  exact walk a0 a1 a2 a3 z3 c3 W (fits_of_wf w0) (fits_of_wf w1) (fits_of_wf w2) w3 f3

theorem over : Rows.ttlTellsRow.holds Try.pinned (OpenSpec.ofChange Rows.ttlTellsSpec) :=
  OpenClaim.holds_of_wide 3 Try.f3 rfl rfl rfl rfl rfl rfl rfl ⟨rfl, rfl, rfl, rfl, rfl⟩ rfl rfl rfl rfl rfl (by kernel_rfl) Try.func3 (by kernel_rfl)
    (of_decide_eq_true (by kernel_rfl)) (by unfold Func.isWrapper; first | (rw [if_pos (by decide +kernel)]; kernel_rfl) | (rw [if_neg (by decide +kernel)]; exact ⟨rfl, rfl⟩))
    (fun os started H enc _ => lifted os started H enc)

/-- the statement -/
theorem proved : Rows.TtlTellsSaid := over
#print axioms proved
end Go.Proofs.Ytmndmjbckhfmfaa.ttlTells

