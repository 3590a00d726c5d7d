/- TtlLeast: the least is one of them, and none is less; of one it is that; however they stand. For every input; no conditions. -/
import Derived.Test.YtmndmjbckhfmfaaTtl
import Derived.Test.YtmndmjbckhfmfaaApp
namespace Go.Proofs.Ytmndmjbckhfmfaa.ttlLeast
open Go.ChangeShapes Go.WideShapes Go.ChangeAt Go.RowKit
open Go.ChangeMaps (open_string shut_string)
set_option linter.unusedVariables false

theorem foldl_min_le (r : List Int) : ∀ x, r.foldl min x ≤ x ∧ (∀ y ∈ r, r.foldl min x ≤ y) ∧ (r.foldl min x = x ∨ r.foldl min x ∈ r) := by
  induction r with
  | nil => intro x; simp
  | cons z r ih =>
    intro x
    obtain ⟨h1, h2, h3⟩ := ih (min x z)
    simp only [List.foldl]
    refine ⟨by omega, ?_, ?_⟩
    · intro y hy
      rcases List.mem_cons.1 hy with rfl | hy
      · omega
      · exact h2 y hy
    · rcases h3 with h3 | h3
      · rw [h3]
        by_cases hxz : x ≤ z
        · exact .inl (by omega)
        · exact .inr (by rw [show min x z = z from by omega]; simp)
      · exact .inr (List.mem_cons_of_mem _ h3)

theorem least_spec {l : List Int} (h : l ≠ []) : leastF l ∈ l ∧ ∀ y ∈ l, leastF l ≤ y := by
  cases l with
  | nil => exact absurd rfl h
  | cons x r =>
    obtain ⟨h1, h2, h3⟩ := foldl_min_le r x
    simp only [leastF]
    refine ⟨?_, ?_⟩
    · rcases h3 with h3 | h3
      · rw [h3]; simp
      · exact List.mem_cons_of_mem _ h3
    · intro y hy
      rcases List.mem_cons.1 hy with rfl | hy
      · exact h1
      · exact h2 y hy

theorem least_turned {l : List Int} {k : Nat} (h : l ≠ []) : leastF (l.drop k ++ l.take k) = leastF l := by
  have hne : l.drop k ++ l.take k ≠ [] := by
    intro e
    have := congrArg List.length e
    rw [List.length_append, List.length_drop, List.length_take, List.length_nil] at this
    exact h (List.eq_nil_of_length_eq_zero (by omega))
  have hm : ∀ y, y ∈ l.drop k ++ l.take k ↔ y ∈ l := by
    intro y
    rw [List.mem_append]
    constructor
    · rintro (h | h)
      · exact List.mem_of_mem_drop h
      · exact List.mem_of_mem_take h
    · intro h
      rw [← List.take_append_drop k l, List.mem_append] at h
      exact h.symm
  obtain ⟨a1, a2⟩ := least_spec hne
  obtain ⟨b1, b2⟩ := least_spec h
  have := a2 _ ((hm _).2 b1)
  have := b2 _ ((hm _).1 a1)
  omega

theorem infoI : (Try.prog.info? 3).map (fun i => (i.zero, i.size, i.bytes)) = some (some (.int .i64 0), 1, 8) := by kernel_rfl
theorem eiI : EI Try.prog 22 3 1 8 := ei_of Try.underlying22 infoI rfl (by decide)

set_option maxHeartbeats 2000000 in
theorem walk (ad : Option Addr) (l : List Int) (cap : Nat) (at_ : Int) (w : World) (h : Ints w (.slice ad l.length cap) l) (hl : ∀ n ∈ l, Fits n) (ha : Fits at_) :
    Calls Try.prog 5 #[.slice ad l.length cap, .int .i64 at_] w fun e w' => e = .returned (.bool true) ∧ Below w.heap.size w w' := by
  by_cases hg : 0 < l.length ∧ l.length ≤ 60
  · obtain ⟨hg1, hg2⟩ := hg
    have hlne : l ≠ [] := fun e => by rw [e] at hg1; simp at hg1
    obtain ⟨_, hcap, hcm⟩ := SlC.cap h
    have h1 := least_any ad l cap w h (by omega)
    obtain ⟨b, off, rfl, hbw, hcell⟩ := Ints.at h hg1
    have hsp := least_spec hlne
    obtain ⟨kk, hkk⟩ : ∃ kk : Nat, (kk : Int) = at_ % l.length := ⟨(at_ % l.length).toNat, by have := Int.emod_nonneg at_ (b := (l.length : Int)) (by omega); omega⟩
    have hkl : kk < l.length := by have := Int.emod_lt_of_pos at_ (b := (l.length : Int)) (by omega); omega
    have hturn := least_turned (k := kk) hlne
    have hsing : leastF [l.getD kk 0] = l.getD kk 0 := rfl
    have hck := hcell kk hkl
    have hlen : (l.drop kk ++ l.take kk).length = l.length := by simp; omega
    generalize hL : leastF l = L at *
    generalize hn : l.length = n at *
    have HN := Go.Lib.hid hn
    have H := Go.Lib.hid h
    have H1 := Go.Lib.hid h1
    have HC := Go.Lib.hid hcell
    have HS := Go.Lib.hid hsp
    have HT := Go.Lib.hid hturn
    have HK := Go.Lib.hid hkk
    have HLEN := Go.Lib.hid hlen
    have HLne := Go.Lib.hid hlne
    clear h h1 hcell hsp hturn hkk hlen hn hL hl hlne hsing
    have hne0 : ((n : Int) == 0) = false := by rw [beq_eq_false_iff_ne]; omega
    obtain ⟨i0, hi, hz0, hz1, hz2⟩ := info_parts infoI
    go_enter Try.func5, Try.ntmps5
    go_wp2_with (go_at_call 15; refine H1.out.mono ?_; rintro e w' ⟨rfl, rfl⟩)
    go_loop [6, 7] (fun t i => ∃ k : Nat, k ≤ n ∧ i = .int .i64 k ∧ t = .bool ((l.take k).contains L)) (fun _ i => n - (intOf i).toNat)
    case atStart => exact ⟨0, by omega, rfl, by simp⟩
    case round =>
      obtain ⟨k, hk, rfl, rfl⟩ := hrel
      by_cases hlt : k < n
      · have hc := HC.out k hlt
        have hmem : l.getD k 0 ∈ l := by rw [List.getD_eq_getElem?_getD, List.getElem?_eq_getElem (by rw [HN.out]; exact hlt)]; simp
        have hge : L ≤ l.getD k 0 := HS.out.2 _ hmem
        have hstep : Hid ((l.take (k + 1)).contains L = ((l.take k).contains L || l.getD k 0 == L)) := Go.Lib.hid (by
          rw [List.take_succ_eq_append_getElem (by rw [HN.out]; exact hlt)]
          simp only [List.contains_eq_any_beq, List.any_append, List.any_cons, List.any_nil, Bool.or_false]
          congr 1
          rw [List.getD_eq_getElem?_getD, List.getElem?_eq_getElem (by rw [HN.out]; exact hlt)]
          simp [Bool.beq_comm])
        clear hmem
        generalize l.getD k 0 = v at *
        generalize (l.take k).contains L = mt at *
        cases mt
        all_goals
          go_wp2_with fail
          all_goals
            go_round
            case rel => exact ⟨k + 1, by omega, by go_num, by rw [hstep.out]; simp⟩
            case measure => simp [intOf]; omega
      · have hmet : (l.take k).contains L = true := by
          rw [List.take_of_length_le (by rw [HN.out]; omega)]
          simpa using HS.out.1
        rw [hmet]
        go_wp2_with fail
        refine (round_any _ _ _ ha (by omega) (by omega)).mono ?_
        rintro e w' ⟨rfl, rfl⟩
        rw [← HK.out]
        go_wp2_with fail
        have q1 : kk ≤ n := by omega
        have q2 : ¬ cap = kk := by omega
        have q3 : kk ≤ cap := by omega
        have q4 : ¬ cap = 0 := by omega
        refine Go.Mix.wp_region_mix (Es := [0, 4, 8]) (fun _ => True) mixed (by kernel_rfl) trivial (fun _ => ?_)
        (refine Go.Mix.mix_eff rfl (fun K hK => ?_); go_simp; refine hK _ _ trivial ?_; clear hK K)
        iterate 3 (refine Go.Mix.mix_step rfl (fun K hK => ?_); go_simp; refine hK _ _ ?_; clear hK K)
        have hsub1 : Ints w (.slice (some ⟨b, off + kk, none⟩) (n - kk) (cap - kk)) (l.drop kk) := by
          have := Ints.sub H.out HN.out (i := kk) (j := n) (by omega) (Nat.le_refl _) (a' := some ⟨b, off + kk, none⟩) (fun _ => rfl) (fun h => by cases h)
          rwa [List.take_of_length_le (by rw [List.length_drop, HN.out]; exact Nat.le_refl _)] at this
        have hsub2 : Ints w (.slice (some ⟨b, off, none⟩) kk cap) (l.take kk) := by
          have := Ints.sub H.out HN.out (i := 0) (j := kk) (by omega) (by omega) (a' := some ⟨b, off, none⟩) (fun _ => rfl) (fun h => by cases h)
          simpa using this
        have hb0 : Below w.heap.size w (w.alloc (.cells #[] 3)).drew := ((Below.refl _ _).alloc (Nat.le_refl _) _).drew
        have hd : (l.drop kk).length = n - kk := by rw [List.length_drop, HN.out]
        have ht : (l.take kk).length = kk := by rw [List.length_take, HN.out]; omega
        have HSUB1 := Go.Lib.hid (hsub1.below hb0 (Nat.le_refl _))
        have HSUB2 := Go.Lib.hid hsub2
        have HD := Go.Lib.hid hd
        have HTk := Go.Lib.hid ht
        clear hsub1 hsub2 hd ht
        refine mix_app eiI (.tmp 46) (.tmp 49) rfl rfl rfl w.heap.size rfl rfl (owns_empty w w.heap.size 3 1 (Nat.le_refl _)).drew HSUB1.out (one_ints _ _) (by rw [HD.out]; unfold maxLen; omega) (by rw [HD.out]; omega) (by simp) ?_
        intro v1 w1 hown1 hg1
        have hb1 : Below w.heap.size w w1 := below_app hb0 (owns_empty w w.heap.size 3 1 (Nat.le_refl _)).drew hg1 (Nat.le_refl _) (by simp)
        have hs1 := hb1.size
        have HO1 := Go.Lib.hid hown1
        have HB1 := Go.Lib.hid hb1
        clear hown1 hg1 hb1 hb0
        refine ⟨trivial, ?_⟩
        iterate 3 (refine Go.Mix.mix_step rfl (fun K hK => ?_); go_simp; refine hK _ _ ?_; clear hK K)
        refine mix_app eiI (.tmp 50) (.tmp 53) rfl rfl rfl w.heap.size rfl rfl HO1.out (HSUB2.out.below HB1.out (Nat.le_refl _)) (one_ints _ _) (by rw [HD.out, HTk.out]; unfold maxLen; omega) (by rw [HD.out, HTk.out]; omega) hs1 ?_
        intro v2 w2 hown2 hg2
        have hb2 : Below w.heap.size w w2 := below_app HB1.out HO1.out hg2 (Nat.le_refl _) hs1
        have hints : Ints w2 v2 (l.drop kk ++ l.take kk) := by
          have := SlC.of_owns hown2
          unfold Ints
          rw [List.map_append, List.length_append]
          simpa using this
        obtain ⟨a2, cap2, rfl, hn2, hc2⟩ := hints.slice
        have hs2 := hb2.size
        have HB2 := Go.Lib.hid hb2
        have hleast := least_any a2 (l.drop kk ++ l.take kk) cap2 w2.drew hints (by rw [HLEN.out]; omega)
        rw [HT.out, HLEN.out] at hleast
        rw [HLEN.out]
        have HL2 := Go.Lib.hid hleast
        have hck2 : w2.cell? ⟨b, off + kk, none⟩ = some (.int .i64 (l.getD kk 0)) := by rw [HB2.out.cell (p := ⟨b, off + kk, none⟩) hbw]; exact hck
        clear hown2 hg2 hb2 hints hleast hck
        refine ⟨trivial, ?_⟩
        (refine Go.Mix.mix_step rfl (fun K hK => ?_); go_simp; refine hK _ _ ?_; clear hK K)
        refine Go.Mix.mix_nil ?_
        go_wp2_with fail
        have hx : ∀ w3 : Subtype (Below w2.heap.size w2), w3.1.cell? ⟨b, off + kk, none⟩ = some (.int .i64 (l.getD kk 0)) := fun w3 => by
          rw [w3.2.cell (p := ⟨b, off + kk, none⟩) (by show b < _; omega)]; exact hck2
        have hsing : leastF [l.getD kk 0] = l.getD kk 0 := rfl
        generalize l.getD kk 0 = y at *
        have HSG := Go.Lib.hid hsing
        have C0 := Below.refl w2.heap.size w2
        clear hck2 hsing
        refine Go.Mix.wp_region_mix (Es := [3, 12, 13, 21]) (Below w2.heap.size w2) mixed (by kernel_rfl) C0.drew (fun _ => ?_)
        iterate 3 (refine Go.Mix.mix_step rfl (fun K hK => ?_); go_simp; refine hK _ _ ?_; clear hK K)
        refine Go.Mix.mix_eff rfl (fun K hK => ?_)
        go_simp
        refine HL2.out.mono ?_
        rintro e w' ⟨rfl, rfl⟩
        refine hK _ _ C0.drew ?_
        clear hK K
        iterate 8 (refine Go.Mix.mix_step rfl (fun K hK => ?_); go_simp; refine hK _ _ ?_; clear hK K)
        refine Go.Mix.mix_eff rfl (fun K hK => ?_)
        go_simp
        refine hK _ _ (C0.drew.alloc (Nat.le_refl _) _) ?_
        clear hK K
        refine Go.Mix.mix_eff rfl (fun K hK => ?_)
        go_simp
        refine (least_any _ [y] _ _ (slc_new _ 1 1 3 [.int .i64 y] rfl (by decide)).drew (by simp)).mono ?_
        rintro e w' ⟨rfl, rfl⟩
        refine hK _ _ (C0.drew.alloc (Nat.le_refl _) _) ?_
        clear hK K
        rw [HSG.out]
        iterate 7 (refine Go.Mix.mix_step rfl (fun K hK => ?_); go_simp; refine hK _ _ ?_; clear hK K)
        refine Go.Mix.mix_eff rfl (fun K hK => ?_)
        go_simp
        refine (awake_any _).mono ?_
        rintro e w4 ⟨rfl, hw4⟩
        have C4 := (C0.drew.alloc (Nat.le_refl _) (.cells #[.int .i64 y] 3)).trans (hw4.mono (by simp))
        refine hK _ _ C4 ?_
        clear hK K
        iterate 2 (refine Go.Mix.mix_step rfl (fun K hK => ?_); go_simp; refine hK _ _ ?_; clear hK K)
        refine Go.Mix.mix_nil ?_
        go_wp2_with fail
        go_ret
        exact ⟨rfl, HB2.out.trans (C4.mono hs2)⟩
  · have hor : l.length = 0 ∨ 60 < l.length := by omega
    clear hg
    rcases hor with h0 | h0
    · rw [h0]
      go_enter Try.func5, Try.ntmps5
      go_wp2_with (go_at_call 8; refine (awake_any _).mono ?_; rintro e w' ⟨rfl, hw⟩)
      all_goals go_ret
      all_goals exact ⟨rfl, hw⟩
    · have hne0 : ((l.length : Int) == 0) = false := by rw [beq_eq_false_iff_ne]; omega
      go_enter Try.func5, Try.ntmps5
      go_wp2_with (go_at_call 8; refine (awake_any _).mono ?_; rintro e w' ⟨rfl, hw⟩)
      all_goals go_ret
      all_goals exact ⟨rfl, hw⟩

set_option maxRecDepth 100000 in
theorem lifted (os : Os) (started : os.Started) (H : Type) (enc : TypeId × Value → H) :
    ReturnsInHanded {} Try.checked os 5 .any (Rows.ttlLeastSpec.pre6 enc Try.prog Try.f5 Rows.ttlLeastRow.domain false) (Rows.ttlLeastSpec.post enc Try.prog Try.f5 false true false false) := by
  refine returnsInHanded_of_change (C := Try.checked) own started (by kernel_rfl) Try.func5
    (ChangeSpec.witness6 (enc := enc) (C := Try.checked) false ⟨#[], #[.slice none 0 0, .int .i64 0], []⟩ 8 (by kernel_rfl) (by kernel_rfl) (by kernel_rfl) (by kernel_rfl)) ?_
  intro W base args ds gs before hval0 hW hcnd _
  have hval : ∀ (j : Nat) t v, Try.f5.params[j]? = some t → args[j]? = some v → Value.okWide Try.prog W .any base t v := hval0
  refine law_post enc 2 (by kernel_rfl) rfl rfl (by kernel_rfl) (fun ds h => match ds, h with | [_, _], _ => rfl) hW ?_
  obtain ⟨p, q, hA0, hV, rfl, _, _⟩ := hW
  have hA : DataW.TrodAll enc Try.prog W 0 (fun _ => true) true Try.f5.params.toList args.toList ds p := hA0
  rw [Try.params5] at hA hval
  obtain ⟨v0, vs0, d0, ds0, p0, q0, hargs, rfl, rfl, h0, r0⟩ := trodAll_cons hA
  obtain ⟨v1, vs1, d1, ds1, p1, q1, rfl, rfl, rfl, h1, r1⟩ := trodAll_cons r0
  obtain ⟨rfl, rfl, rfl⟩ := trodAll_nil r1
  obtain rfl : args = #[v0, v1] := by cases args; simp_all
  obtain ⟨a0, z0, c0, rfl, w0, f0⟩ := open_Ints Try.underlying22 Try.underlying3 (by kernel_rfl) (hval 0 22 v0 rfl rfl) h0
  obtain ⟨a1, rfl, rfl, rfl, w1⟩ := open_int Try.underlying3 (hval 1 3 v1 rfl rfl) h1
  exact walk a0 z0 c0 a1 W w0 f0 (fits_of_wf w1)

theorem over : Rows.ttlLeastRow.holds Try.pinned (OpenSpec.ofChange Rows.ttlLeastSpec) :=
  OpenClaim.holds_of_wide 5 Try.f5 rfl rfl rfl rfl rfl rfl rfl ⟨rfl, rfl, rfl, rfl, rfl⟩ rfl rfl rfl rfl rfl (by kernel_rfl) Try.func5 (by kernel_rfl)
    (of_decide_eq_true (by kernel_rfl)) (by unfold Func.isWrapper; first | (rw [if_pos (by decide +kernel)]; kernel_rfl) | (rw [if_neg (by decide +kernel)]; exact ⟨rfl, rfl⟩))
    (fun os started H enc _ => lifted os started H enc)

/-- the statement -/
theorem proved : Rows.TtlLeastSaid := over
#print axioms proved
end Go.Proofs.Ytmndmjbckhfmfaa.ttlLeast

