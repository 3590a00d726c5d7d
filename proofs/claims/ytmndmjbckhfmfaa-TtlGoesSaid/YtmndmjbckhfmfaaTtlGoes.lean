/- TtlGoes: what holds for so long is over just when that has gone by; what is left grows less by what goes by. For every input; no conditions. -/
import Derived.Test.YtmndmjbckhfmfaaTtl
namespace Go.Proofs.Ytmndmjbckhfmfaa.ttlGoes
open Go.ChangeShapes Go.WideShapes Go.ChangeAt Go.RowKit
open Go.ChangeMaps (open_string shut_string)
set_option linter.unusedVariables false

set_option maxHeartbeats 1000000 in
theorem walk (a b c : Int) (w : World) (ha : Fits a) (hb : Fits b) (hc : Fits c) :
    Calls Try.prog 4 #[.int .i64 a, .int .i64 b, .int .i64 c] w fun e w' => e = .returned (.bool true) ∧ Below w.heap.size w w' := by
  have ha' := ha
  have hb' := hb
  have hc' := hc
  unfold Fits at ha' hb' hc'
  by_cases hg : 0 ≤ a ∧ a ≤ 274877906944 ∧ 0 ≤ b ∧ b ≤ 2147483648 ∧ 0 ≤ c ∧ c ≤ 4294967296
  · obtain ⟨h1, h2, h3, h4, h5, h6⟩ := hg
    go_enter Try.func4, Try.ntmps4
    go_wp2_with (first
      | (go_at_call 11; refine (exp_any _ _ _ ha hb).mono ?_; rintro e w' ⟨rfl, rfl⟩; rw [show expF a b = a + b from by unfold expF; omega])
      | (go_at_call 13; refine (left_any _ _ _ (by unfold Fits; omega) (by unfold Fits; omega)).mono ?_; rintro e w' ⟨rfl, rfl⟩; unfold leftF)
      | (go_at_call 17; refine (over_any _ _ _ (by unfold Fits; omega) (by unfold Fits; omega)).mono ?_; rintro e w' ⟨rfl, rfl⟩; unfold leftF)
      | (go_at_call 8; refine (awake_any _).mono ?_; rintro e w' ⟨rfl, hw⟩))
    go_goals
    go_ways
    all_goals go_ret
    all_goals exact ⟨rfl, hw⟩
  · go_enter Try.func4, Try.ntmps4
    go_wp2_with (go_at_call 8; refine (awake_any _).mono ?_; rintro e w' ⟨rfl, hw⟩)
    all_goals go_ret
    all_goals exact ⟨rfl, hw⟩

set_option maxRecDepth 100000 in
theorem lifted (os : Os) (started : os.Started) (H : Type) (enc : TypeId × Value → H) :
    ReturnsInHanded {} Try.checked os 4 .any (Rows.ttlGoesSpec.pre6 enc Try.prog Try.f4 Rows.ttlGoesRow.domain false) (Rows.ttlGoesSpec.post enc Try.prog Try.f4 false true false false) := by
  refine returnsInHanded_of_change (C := Try.checked) own started (by kernel_rfl) Try.func4
    (ChangeSpec.witness6 (enc := enc) (C := Try.checked) false ⟨#[], #[.int .i64 0, .int .i64 0, .int .i64 0], []⟩ 8 (by kernel_rfl) (by kernel_rfl) (by kernel_rfl) (by kernel_rfl)) ?_
  intro W base args ds gs before hval0 hW hcnd _
  have hval : ∀ (j : Nat) t v, Try.f4.params[j]? = some t → args[j]? = some v → Value.okWide Try.prog W .any base t v := hval0
  refine law_post enc 3 (by kernel_rfl) rfl rfl (by kernel_rfl) (fun ds h => match ds, h with | [_, _, _], _ => rfl) hW ?_
  obtain ⟨p, q, hA0, hV, rfl, _, _⟩ := hW
  have hA : DataW.TrodAll enc Try.prog W 0 (fun _ => true) true Try.f4.params.toList args.toList ds p := hA0
  rw [Try.params4] at hA hval
  obtain ⟨v0, vs0, d0, ds0, p0, q0, hargs, rfl, rfl, h0, r0⟩ := trodAll_cons hA
  obtain ⟨v1, vs1, d1, ds1, p1, q1, rfl, rfl, rfl, h1, r1⟩ := trodAll_cons r0
  obtain ⟨v2, vs2, d2, ds2, p2, q2, rfl, rfl, rfl, h2, r2⟩ := trodAll_cons r1
  obtain ⟨rfl, rfl, rfl⟩ := trodAll_nil r2
  obtain rfl : args = #[v0, v1, v2] := by cases args; simp_all
  obtain ⟨a0, rfl, rfl, rfl, w0⟩ := open_int Try.underlying3 (hval 0 3 v0 rfl rfl) h0
  obtain ⟨a1, rfl, rfl, rfl, w1⟩ := open_int Try.underlying3 (hval 1 3 v1 rfl rfl) h1
  obtain ⟨a2, rfl, rfl, rfl, w2⟩ := open_int Try.underlying3 (hval 2 3 v2 rfl rfl) h2
  exact walk a0 a1 a2 W (fits_of_wf w0) (fits_of_wf w1) (fits_of_wf w2)

theorem over : Rows.ttlGoesRow.holds Try.pinned (OpenSpec.ofChange Rows.ttlGoesSpec) :=
  OpenClaim.holds_of_wide 4 Try.f4 rfl rfl rfl rfl rfl rfl rfl ⟨rfl, rfl, rfl, rfl, rfl⟩ rfl rfl rfl rfl rfl (by kernel_rfl) Try.func4 (by kernel_rfl)
    (of_decide_eq_true (by kernel_rfl)) (by unfold Func.isWrapper; first | (rw [if_pos (by decide +kernel)]; kernel_rfl) | (rw [if_neg (by decide +kernel)]; exact ⟨rfl, rfl⟩))
    (fun os started H enc _ => lifted os started H enc)

/-- the statement -/
theorem proved : Rows.TtlGoesSaid := over
#print axioms proved
end Go.Proofs.Ytmndmjbckhfmfaa.ttlGoes

