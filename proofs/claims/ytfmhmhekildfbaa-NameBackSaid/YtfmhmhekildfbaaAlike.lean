/- The contracts of freshetalike.Texts, Short, Round. -/
import Derived.Test.YtfmhmhekildfbaaRefC
namespace Go.Proofs.Ytfmhmhekildfbaa
open Go.RowKit

theorem slc_bounds {w : World} {sz n m cap : Nat} {a : Option Addr} {cs : List Value} (h : SlC w sz (.slice a n cap) m cs) : n ≤ cap ∧ cap ≤ maxLen := by
  obtain ⟨_, a', cap', hv, h1, h2, _⟩ := h
  simp only [Value.slice.injEq] at hv
  obtain ⟨_, rfl, rfl⟩ := hv
  exact ⟨h1, h2⟩

set_option maxRecDepth 100000 in
set_option maxHeartbeats 2000000 in
theorem Texts_any (x y : List (List UInt8)) (a1 a2 : Option Addr) (c1 c2 : Nat) (w : World) (hx : Strs w (.slice a1 x.length c1) x) (hy : Strs w (.slice a2 y.length c2) y) :
    Calls Try.prog 16 #[.slice a1 x.length c1, .slice a2 y.length c2] w fun e w' => e = .returned (.bool (decide (x = y))) ∧ Below w.heap.size w w' := by
  obtain ⟨hn1, hc1⟩ := slc_bounds hx
  obtain ⟨hn2, hc2⟩ := slc_bounds hy
  have HX := Go.Lib.hid hx
  have HY := Go.Lib.hid hy
  clear hx hy
  generalize hn : x.length = n at *
  generalize hm : y.length = m at *
  have HN := Go.Lib.hid hn
  have HM := Go.Lib.hid hm
  clear hn hm
  unfold maxLen at hc1 hc2
  by_cases hnm : n = m
  · subst hnm
    go_enter Try.func16, Try.ntmps16
    go_wp2_with fail
    go_loopw [5] (fun i wr => ∃ k : Nat, i = .int .i64 k ∧ k ≤ n ∧ x.take k = y.take k ∧ Below w.heap.size w wr) (fun i _ => n - (intOf i).toNat)
    case atStart => exact ⟨0, rfl, by omega, by simp, Below.refl _ _⟩
    case round =>
      obtain ⟨k, rfl, hk, heq, hbr⟩ := hrel
      have HEQ := Go.Lib.hid heq
      have HBR := Go.Lib.hid hbr
      clear heq hbr
      by_cases hlt : k < n
      · have hs1 := HX.out.below HBR.out (Nat.le_refl _)
        have hs2 := HY.out.below HBR.out (Nat.le_refl _)
        rw [← HN.out] at hs1
        rw [← HM.out] at hs2
        obtain ⟨b1, of1, rfl, _, q1⟩ := Strs.at hs1 (by rw [HN.out]; omega)
        obtain ⟨b2, of2, rfl, _, q2⟩ := Strs.at hs2 (by rw [HM.out]; omega)
        have l1 := q1 k (by rw [HN.out]; omega)
        have l2 := q2 k (by rw [HM.out]; omega)
        have ht1 := getD_take_succ x [] (k := k) (by rw [HN.out]; exact hlt)
        have ht2 := getD_take_succ y [] (k := k) (by rw [HM.out]; exact hlt)
        have hno : Hid (¬ x.getD k [] = y.getD k [] → decide (x = y) = false) := Go.Lib.hid (fun h => by
          rw [decide_eq_false_iff_not]; rintro rfl; exact h rfl)
        have HT1 := Go.Lib.hid ht1
        have HT2 := Go.Lib.hid ht2
        clear hs1 hs2 q1 q2 ht1 ht2
        generalize x.getD k [] = u at *
        generalize y.getD k [] = v at *
        go_wp2_with fail
        refine Go.Mix.wp_region_mix (Es := []) (AtW wr.drew) mixed (by kernel_rfl) rfl (fun _ => ?_)
        have ld1 := AtW.cell (w0 := wr.drew) (p := ⟨b1, of1 + k, none⟩) l1
        have ld2 := AtW.cell (w0 := wr.drew) (p := ⟨b2, of2 + k, none⟩) l2
        by_cases huv : u = v
        · have e2 := bne_mk_false huv
          iterate 9 (refine Go.Mix.mix_step rfl (fun K hK => ?_); go_simp; refine hK _ _ ?_; clear hK K)
          refine Go.Mix.mix_nil ?_
          go_wp2_with fail
          go_roundw
          case rel => exact ⟨k + 1, by go_num, by omega, by rw [HT1.out, HT2.out, HEQ.out, huv], HBR.out.drew⟩
          case measure => simp [intOf]; omega
        · have e2 := bne_mk_true huv
          have e3 := beq_mk_false huv
          have e4 := ne_mk huv
          iterate 9 (refine Go.Mix.mix_step rfl (fun K hK => ?_); go_simp; refine hK _ _ ?_; clear hK K)
          refine Go.Mix.mix_nil ?_
          go_wp2_with fail
          go_ret
          exact ⟨ret_bool (hno.out huv).symm, HBR.out.drew⟩
      · obtain rfl : k = n := by omega
        have hfin : Hid (decide (x = y) = true) := Go.Lib.hid (by
          rw [decide_eq_true_iff]
          have := HEQ.out
          rw [List.take_of_length_le (by rw [HN.out]; exact Nat.le_refl _), List.take_of_length_le (by rw [HM.out]; exact Nat.le_refl _)] at this
          exact this)
        go_wp2_with fail
        go_ret
        exact ⟨ret_bool hfin.out.symm, HBR.out⟩
  · have hfin : Hid (decide (x = y) = false) := Go.Lib.hid (by
      rw [decide_eq_false_iff_not]
      rintro rfl
      exact hnm (HN.out.symm.trans HM.out))
    have e1 : ((n : Int) != (m : Int)) = true := by
      rw [bne_iff_ne]; omega
    go_enter Try.func16, Try.ntmps16
    go_wp2_with fail
    go_ret
    exact ⟨ret_bool hfin.out.symm, Below.refl _ _⟩

/-- how many bytes texts have -/
def sumL (ls : List (List UInt8)) : Nat := (ls.map List.length).sum
theorem sumL_snoc (ls : List (List UInt8)) (x : List UInt8) : sumL (ls ++ [x]) = sumL ls + x.length := by simp [sumL]
theorem sumL_take_le (ls : List (List UInt8)) (k : Nat) : sumL (ls.take k) ≤ sumL ls := by
  have e : sumL (ls.take k) + sumL (ls.drop k) = sumL ls := by
    unfold sumL
    rw [← List.sum_append, ← List.map_append, List.take_append_drop]
  omega
theorem sumL_mem {ls : List (List UInt8)} {x : List UInt8} (h : x ∈ ls) : x.length ≤ sumL ls := by
  induction ls with
  | nil => cases h
  | cons y ls ih =>
    rcases List.mem_cons.1 h with rfl | h
    · simp [sumL]
    · have := ih h
      simp [sumL] at this ⊢
      omega

set_option maxRecDepth 100000 in
set_option maxHeartbeats 2000000 in
theorem Short_any (ls : List (List UInt8)) (a : Option Addr) (cap : Nat) (top : Nat) (w : World) (hst : Strs w (.slice a ls.length cap) ls) (ht : top ≤ 100000) (hsz : ∀ l ∈ ls, l.length ≤ maxLen) :
    Calls Try.prog 25 #[.slice a ls.length cap, .int .i64 top] w fun e w' => e = .returned (.bool (decide (ls.length + sumL ls ≤ top))) ∧ w = w' := by
  obtain ⟨hn1, hc1⟩ := slc_bounds hst
  have HX := Go.Lib.hid hst
  have HSZ := Go.Lib.hid hsz
  clear hst hsz
  generalize hn : ls.length = n at *
  have HN := Go.Lib.hid hn
  clear hn
  unfold maxLen at hc1
  go_enter Try.func25, Try.ntmps25
  go_wp2_with fail
  go_loop [5, 6] (fun v i => ∃ k N : Nat, i = .int .i64 k ∧ v = .int .i64 N ∧ k ≤ n ∧ N = n + sumL (ls.take k) ∧ N ≤ n + 200000) (fun _ i => n - (intOf i).toNat)
  case atStart => exact ⟨0, n, rfl, rfl, by omega, by simp [sumL], by omega⟩
  case round =>
    obtain ⟨k, N, rfl, rfl, hk, hN, hNb⟩ := hrel
    have HNN := Go.Lib.hid hN
    have hmono := sumL_take_le ls k
    have hbig : Hid (top < N → decide (n + sumL ls ≤ top) = false) := Go.Lib.hid (fun h => by rw [decide_eq_false_iff_not]; omega)
    clear hN hmono
    by_cases hlt : k < n
    · by_cases hle : N ≤ top
      · have hst := HX.out
        rw [← HN.out] at hst
        obtain ⟨b, off, rfl, hbw, hcell⟩ := Strs.at hst (by rw [HN.out]; omega)
        have hc2 := hcell k (by rw [HN.out]; exact hlt)
        have hmem : ls.getD k [] ∈ ls := by rw [List.getD_eq_getElem?_getD, List.getElem?_eq_getElem (by rw [HN.out]; exact hlt)]; simp
        have hxs := HSZ.out _ hmem
        have hxb := sumL_mem hmem
        have hstep := getD_take_succ ls [] (k := k) (by rw [HN.out]; exact hlt)
        have hsum : sumL (ls.take (k + 1)) = sumL (ls.take k) + (ls.getD k []).length := by rw [hstep, sumL_snoc]
        have hsx := size_mk (ls.getD k [])
        have hlong : Hid (top < (ls.getD k []).length → decide (n + sumL ls ≤ top) = false) := Go.Lib.hid (fun h => by rw [decide_eq_false_iff_not]; omega)
        have HSUM := Go.Lib.hid hsum
        clear hst hcell hmem hstep hsum hbw hxb
        unfold maxLen at hxs
        generalize ls.getD k [] = x at *
        by_cases hx : top < x.length
        · have q1 : (top : Int) < (x.length : Int) := by omega
          have q2 : (N : Int) ≤ (top : Int) := by omega
          go_wp2_with fail
          go_ret
          exact ⟨ret_bool (hlong.out hx).symm, rfl⟩
        · have q1 : ¬ (top : Int) < (x.length : Int) := by omega
          have q2 : (N : Int) ≤ (top : Int) := by omega
          go_wp2_with fail
          go_round
          case rel => exact ⟨k + 1, N + x.length, by go_num, by go_num, by omega, by rw [HSUM.out, HNN.out]; omega, by omega⟩
          case measure => simp [intOf]; omega
      · have q2 : ¬ (N : Int) ≤ (top : Int) := by omega
        go_wp2_with fail
        go_ret
        exact ⟨ret_bool (by rw [hbig.out (by omega)]), rfl⟩
    · obtain rfl : k = n := by omega
      have hall : Hid (decide (k + sumL ls ≤ top) = decide ((N : Int) ≤ (top : Int))) := Go.Lib.hid (by
        have := HNN.out
        rw [List.take_of_length_le (by rw [HN.out]; exact Nat.le_refl _)] at this
        rw [this]
        rw [decide_eq_decide]
        omega)
      go_wp2_with fail
      go_ret
      exact ⟨ret_bool (by rw [hall.out]; first | rfl | simp), rfl⟩

set_option maxRecDepth 100000 in
theorem Round_any (k n : Int) (w : World) (h0 : 0 < n) (hn : n ≤ 4611686018427387904) :
    Calls Try.prog 36 #[.int .i64 k, .int .i64 n] w fun e w' => e = .returned (.int .i64 (k % n)) ∧ w = w' := by
  have hne : ¬ n = 0 := by omega
  have b1 : -n < k.tmod n ∧ k.tmod n < n := by
    have h1 := Int.tmod_lt_of_pos k h0
    have h2 : -n < k.tmod n := by
      have := Int.tmod_lt_of_pos (-k) h0
      rw [Int.neg_tmod] at this
      omega
    exact ⟨h2, h1⟩
  have hfin : Hid (k % n = (k.tmod n + n) % n) := Go.Lib.hid (by
    rw [Int.add_emod_right, Int.tmod_def, Int.sub_mul_emod_self_left])
  go_enter Try.func36, Try.ntmps36
  go_wp2
  go_ret
  exact ⟨ret_int hfin.out.symm, rfl⟩
end Go.Proofs.Ytfmhmhekildfbaa

