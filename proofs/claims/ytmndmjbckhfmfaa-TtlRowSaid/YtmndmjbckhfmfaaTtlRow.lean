/- TtlRow: where something is handed on with what is left, again and again, it holds no longer than it did at first. For every input; no conditions. -/
import Derived.Test.YtmndmjbckhfmfaaTtl
namespace Go.Proofs.Ytmndmjbckhfmfaa.ttlRow
open Go.ChangeShapes Go.WideShapes Go.ChangeAt Go.RowKit
open Go.ChangeMaps (open_string shut_string)
set_option linter.unusedVariables false

set_option maxHeartbeats 2000000 in
theorem walk (n : Int) (ad : Option Addr) (l : List Int) (cap : Nat) (w : World) (ha : Fits n) (h : Ints w (.slice ad l.length cap) l) (hl : ∀ n ∈ l, Fits n) :
    Calls Try.prog 7 #[.int .i64 n, .slice ad l.length cap] w fun e w' => e = .returned (.bool true) ∧ Below w.heap.size w w' := by
  have H := Go.Lib.hid h
  have HL := Go.Lib.hid hl
  have ha' := ha
  unfold Fits at ha'
  clear h hl
  generalize hn : l.length = m at *
  have HN := Go.Lib.hid hn
  clear hn
  by_cases hg : 0 ≤ n ∧ n ≤ 2147483648 ∧ m ≤ 30
  · obtain ⟨h1, h2, h3⟩ := hg
    go_enter Try.func7, Try.ntmps7
    go_wp2_with (go_at_call 11; refine (exp_any _ _ _ (by unfold Fits; omega) ha).mono ?_; rintro e w' ⟨rfl, rfl⟩; rw [show expF 0 n = n from by unfold expF; omega])
    go_loop [5, 6, 8] (fun t f i => ∃ k : Nat, ∃ T F : Int, k ≤ m ∧ i = .int .i64 k ∧ 0 ≤ T ∧ T ≤ 1000 * k ∧ t = .int .i64 T ∧ F = max (n - T) 0 ∧ f = .int .i64 F) (fun _ _ i => m - (intOf i).toNat)
    case atStart => exact ⟨0, 0, n, by omega, rfl, by omega, by omega, rfl, by omega, rfl⟩
    case round =>
      obtain ⟨k, T, F, hk, rfl, hT0, hT1, rfl, hF, rfl⟩ := hrel
      by_cases hlt : k < m
      · have hne : 0 < l.length := by rw [HN.out]; omega
        have hints := H.out
        rw [← HN.out] at hints
        obtain ⟨b, off, rfl, _, hcell⟩ := Ints.at hints hne
        have hc := hcell k (by rw [HN.out]; exact hlt)
        have hfit : Fits (l.getD k 0) := HL.out _ (by rw [List.getD_eq_getElem?_getD, List.getElem?_eq_getElem (by rw [HN.out]; exact hlt)]; simp)
        clear hcell hints
        generalize l.getD k 0 = s at *
        obtain ⟨y, hy⟩ : ∃ y, y = s % 1000 := ⟨_, rfl⟩
        have hy0 : 0 ≤ y ∧ y ≤ 999 := by omega
        have HY := Go.Lib.hid hy.symm
        clear hy
        have hFb : 0 ≤ F ∧ F ≤ 2147483648 := by omega
        have hT2 : T ≤ 30000 := by omega
        have HF := Go.Lib.hid hF
        clear hF
        go_wp2_with fail
        refine (round_any _ _ _ hfit (by omega) (by omega)).mono ?_
        rintro e w' ⟨rfl, rfl⟩
        rw [HY.out]
        go_wp2_with fail
        refine (exp_any _ _ _ (by unfold Fits; omega) (by unfold Fits; omega)).mono ?_
        rintro e w' ⟨rfl, rfl⟩
        rw [show expF T F = T + F from by unfold expF; omega]
        go_wp2_with fail
        refine (left_any _ _ _ (by unfold Fits; omega) (by unfold Fits; omega)).mono ?_
        rintro e w' ⟨rfl, rfl⟩
        by_cases hnt : n ≤ T + y
        · have HG : Hid (leftF (T + F) (T + y) = 0) := Go.Lib.hid (by have := HF.out; unfold leftF; omega)
          rw [HG.out]
          go_wp2_with (go_at_call 17; refine (over_any _ _ _ (by unfold Fits; omega) (by unfold Fits; omega)).mono ?_; rintro e w' ⟨rfl, rfl⟩; rw [HG.out])
          all_goals
            go_round
            case rel => exact ⟨k + 1, T + y, 0, by omega, by go_num, by omega, by omega, rfl, by omega, rfl⟩
            case measure => simp [intOf]; omega
        · have HG : Hid (leftF (T + F) (T + y) = n - (T + y)) := Go.Lib.hid (by have := HF.out; unfold leftF; omega)
          rw [HG.out]
          have hd : decide (n - (T + y) = 0) = false := by simp; omega
          go_wp2_with (first
            | (go_at_call 11; refine (exp_any _ _ _ (by unfold Fits; omega) (by unfold Fits; omega)).mono ?_; rintro e w' ⟨rfl, rfl⟩; rw [show expF (T + y) (n - (T + y)) = n from by unfold expF; omega])
            | (go_at_call 17; refine (over_any _ _ _ (by unfold Fits; omega) (by unfold Fits; omega)).mono ?_; rintro e w' ⟨rfl, rfl⟩; rw [HG.out]))
          go_goals
          all_goals
            go_round
            case rel => exact ⟨k + 1, T + y, n - (T + y), by omega, by go_num, by omega, by omega, rfl, by omega, rfl⟩
            case measure => simp [intOf]; omega
      · go_wp2_with (go_at_call 8; refine (awake_any _).mono ?_; rintro e w' ⟨rfl, hw⟩)
        go_ret
        exact ⟨rfl, hw⟩
  · go_enter Try.func7, Try.ntmps7
    go_wp2_with (go_at_call 8; refine (awake_any _).mono ?_; rintro e w' ⟨rfl, hw⟩)
    all_goals go_ret
    all_goals exact ⟨rfl, hw⟩

set_option maxRecDepth 100000 in
theorem lifted (os : Os) (started : os.Started) (H : Type) (enc : TypeId × Value → H) :
    ReturnsInHanded {} Try.checked os 7 .any (Rows.ttlRowSpec.pre6 enc Try.prog Try.f7 Rows.ttlRowRow.domain false) (Rows.ttlRowSpec.post enc Try.prog Try.f7 false true false false) := by
  refine returnsInHanded_of_change (C := Try.checked) own started (by kernel_rfl) Try.func7
    (ChangeSpec.witness6 (enc := enc) (C := Try.checked) false ⟨#[], #[.int .i64 0, .slice none 0 0], []⟩ 8 (by kernel_rfl) (by kernel_rfl) (by kernel_rfl) (by kernel_rfl)) ?_
  intro W base args ds gs before hval0 hW hcnd _
  have hval : ∀ (j : Nat) t v, Try.f7.params[j]? = some t → args[j]? = some v → Value.okWide Try.prog W .any base t v := hval0
  refine law_post enc 2 (by kernel_rfl) rfl rfl (by kernel_rfl) (fun ds h => match ds, h with | [_, _], _ => rfl) hW ?_
  obtain ⟨p, q, hA0, hV, rfl, _, _⟩ := hW
  have hA : DataW.TrodAll enc Try.prog W 0 (fun _ => true) true Try.f7.params.toList args.toList ds p := hA0
  rw [Try.params7] at hA hval
  obtain ⟨v0, vs0, d0, ds0, p0, q0, hargs, rfl, rfl, h0, r0⟩ := trodAll_cons hA
  obtain ⟨v1, vs1, d1, ds1, p1, q1, rfl, rfl, rfl, h1, r1⟩ := trodAll_cons r0
  obtain ⟨rfl, rfl, rfl⟩ := trodAll_nil r1
  obtain rfl : args = #[v0, v1] := by cases args; simp_all
  obtain ⟨a0, rfl, rfl, rfl, w0⟩ := open_int Try.underlying3 (hval 0 3 v0 rfl rfl) h0
  obtain ⟨a1, z1, c1, rfl, w1, f1⟩ := open_Ints Try.underlying22 Try.underlying3 (by kernel_rfl) (hval 1 22 v1 rfl rfl) h1
  exact walk a0 a1 z1 c1 W (fits_of_wf w0) w1 f1

theorem over : Rows.ttlRowRow.holds Try.pinned (OpenSpec.ofChange Rows.ttlRowSpec) :=
  OpenClaim.holds_of_wide 7 Try.f7 rfl rfl rfl rfl rfl rfl rfl ⟨rfl, rfl, rfl, rfl, rfl⟩ rfl rfl rfl rfl rfl (by kernel_rfl) Try.func7 (by kernel_rfl)
    (of_decide_eq_true (by kernel_rfl)) (by unfold Func.isWrapper; first | (rw [if_pos (by decide +kernel)]; kernel_rfl) | (rw [if_neg (by decide +kernel)]; exact ⟨rfl, rfl⟩))
    (fun os started H enc _ => lifted os started H enc)

/-- the statement -/
theorem proved : Rows.TtlRowSaid := over
#print axioms proved
end Go.Proofs.Ytmndmjbckhfmfaa.ttlRow

