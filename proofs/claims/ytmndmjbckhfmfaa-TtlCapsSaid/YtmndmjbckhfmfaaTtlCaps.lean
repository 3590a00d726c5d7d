/- TtlCaps: what is capped is no more than either, nor below 0, and one of both, or 0; of a negative one the least of three. For every input; no conditions. -/
import Derived.Test.YtmndmjbckhfmfaaTtl
namespace Go.Proofs.Ytmndmjbckhfmfaa.ttlCaps
open Go.ChangeShapes Go.WideShapes Go.ChangeAt Go.RowKit
open Go.ChangeMaps (open_string shut_string)
set_option linter.unusedVariables false

set_option maxHeartbeats 1000000 in
theorem walk (a b c : Int) (w : World) (ha : Fits a) (hb : Fits b) (hc : Fits c) :
    Calls Try.prog 6 #[.int .i64 a, .int .i64 b, .int .i64 c] w fun e w' => e = .returned (.bool true) ∧ Below w.heap.size w w' := by
  obtain ⟨n, hn⟩ : ∃ n, n = capF a b := ⟨_, rfl⟩
  have hn' : n = max (min a b) 0 := hn
  have hn2 : Hid (capF b a = n) := Go.Lib.hid (by rw [hn]; unfold capF; omega)
  have hn3 : Hid (capF (leastF [a, b, c]) c = capF (min a b) c) := Go.Lib.hid (by simp only [leastF, List.foldl]; unfold capF; omega)
  have hn4 : Hid (capF (min b a) c = capF (min a b) c) := Go.Lib.hid (by unfold capF; omega)
  have h1 : 0 ≤ n := by omega
  have h2 : 0 < n → n ≤ a ∧ n ≤ b := by omega
  have h3 : n = a ∨ n = b ∨ n = 0 := by omega
  have H0 : Hid (capF a b = n) := Go.Lib.hid hn.symm
  clear hn hn'
  go_enter Try.func6, Try.ntmps6
  go_wp2_with fail
  refine (cap_any _ _ _).mono ?_
  rintro e w' ⟨rfl, rfl⟩
  rw [H0.out]
  go_wp2_with fail
  all_goals try (exfalso; simp only [bne_iff_ne, ne_eq, Bool.and_eq_true, Bool.or_eq_true, decide_eq_true_eq] at *; omega)
  go_ways
  all_goals
    refine (cap_any _ _ _).mono ?_
    rintro e w' ⟨rfl, rfl⟩
    rw [hn2.out]
    go_wp2_with fail
    refine (neg_any _ _ _ _).mono ?_
    rintro e w1 ⟨rfl, hw1⟩
    go_wp2_with fail
    refine (least_any _ [a, b, c] _ _ (slc_new _ 1 3 3 [.int .i64 a, .int .i64 b, .int .i64 c] rfl (by decide)) (by simp)).mono ?_
    rintro e w' ⟨rfl, rfl⟩
    go_wp2_with fail
    refine (cap_any _ _ _).mono ?_
    rintro e w' ⟨rfl, rfl⟩
    rw [hn3.out]
    go_wp2_with fail
    refine (neg_any _ _ _ _).mono ?_
    rintro e w2 ⟨rfl, hw2⟩
    go_wp2_with fail
    refine (neg_any _ _ _ _).mono ?_
    rintro e w3 ⟨rfl, hw3⟩
    rw [hn4.out]
    go_wp2_with fail
    refine (awake_any _).mono ?_
    rintro e w4 ⟨rfl, hw4⟩
    go_wp2_with fail
    go_ret
    have z1 := hw1.size
    have z2 := hw2.size
    have z3 := hw3.size
    simp at z2
    exact ⟨rfl, (((hw1.trans (((Below.refl _ w1).alloc (Nat.le_refl _) _).mono z1)).trans (hw2.mono (by simp; omega))).trans (hw3.mono (by omega))).trans (hw4.mono (by omega))⟩

set_option maxRecDepth 100000 in
theorem lifted (os : Os) (started : os.Started) (H : Type) (enc : TypeId × Value → H) :
    ReturnsInHanded {} Try.checked os 6 .any (Rows.ttlCapsSpec.pre6 enc Try.prog Try.f6 Rows.ttlCapsRow.domain false) (Rows.ttlCapsSpec.post enc Try.prog Try.f6 false true false false) := by
  refine returnsInHanded_of_change (C := Try.checked) own started (by kernel_rfl) Try.func6
    (ChangeSpec.witness6 (enc := enc) (C := Try.checked) false ⟨#[], #[.int .i64 0, .int .i64 0, .int .i64 0], []⟩ 8 (by kernel_rfl) (by kernel_rfl) (by kernel_rfl) (by kernel_rfl)) ?_
  intro W base args ds gs before hval0 hW hcnd _
  have hval : ∀ (j : Nat) t v, Try.f6.params[j]? = some t → args[j]? = some v → Value.okWide Try.prog W .any base t v := hval0
  refine law_post enc 3 (by kernel_rfl) rfl rfl (by kernel_rfl) (fun ds h => match ds, h with | [_, _, _], _ => rfl) hW ?_
  obtain ⟨p, q, hA0, hV, rfl, _, _⟩ := hW
  have hA : DataW.TrodAll enc Try.prog W 0 (fun _ => true) true Try.f6.params.toList args.toList ds p := hA0
  rw [Try.params6] at hA hval
  obtain ⟨v0, vs0, d0, ds0, p0, q0, hargs, rfl, rfl, h0, r0⟩ := trodAll_cons hA
  obtain ⟨v1, vs1, d1, ds1, p1, q1, rfl, rfl, rfl, h1, r1⟩ := trodAll_cons r0
  obtain ⟨v2, vs2, d2, ds2, p2, q2, rfl, rfl, rfl, h2, r2⟩ := trodAll_cons r1
  obtain ⟨rfl, rfl, rfl⟩ := trodAll_nil r2
  obtain rfl : args = #[v0, v1, v2] := by cases args; simp_all
  obtain ⟨a0, rfl, rfl, rfl, w0⟩ := open_int Try.underlying3 (hval 0 3 v0 rfl rfl) h0
  obtain ⟨a1, rfl, rfl, rfl, w1⟩ := open_int Try.underlying3 (hval 1 3 v1 rfl rfl) h1
  obtain ⟨a2, rfl, rfl, rfl, w2⟩ := open_int Try.underlying3 (hval 2 3 v2 rfl rfl) h2
  exact walk a0 a1 a2 W (fits_of_wf w0) (fits_of_wf w1) (fits_of_wf w2)

theorem over : Rows.ttlCapsRow.holds Try.pinned (OpenSpec.ofChange Rows.ttlCapsSpec) :=
  OpenClaim.holds_of_wide 6 Try.f6 rfl rfl rfl rfl rfl rfl rfl ⟨rfl, rfl, rfl, rfl, rfl⟩ rfl rfl rfl rfl rfl (by kernel_rfl) Try.func6 (by kernel_rfl)
    (of_decide_eq_true (by kernel_rfl)) (by unfold Func.isWrapper; first | (rw [if_pos (by decide +kernel)]; kernel_rfl) | (rw [if_neg (by decide +kernel)]; exact ⟨rfl, rfl⟩))
    (fun os started H enc _ => lifted os started H enc)

/-- the statement -/
theorem proved : Rows.TtlCapsSaid := over
#print axioms proved
end Go.Proofs.Ytmndmjbckhfmfaa.ttlCaps

