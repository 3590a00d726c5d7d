/- The contracts of freshetalike.Records, Small, RRs (of lists that are alike), Message (of messages that are alike). -/
import Derived.Test.YtblbphnmflbepaaMsg
import Derived.Test.YtblbphnmflbepaaSm
import Derived.BigQuiet
namespace Go.Proofs.Ytblbphnmflbepaa
open Go.RowKit Go.Shelf Go.Sq
set_option linter.unusedVariables false

/-- how much records have -/
def sumR (l : List Rc.RR) : Nat := (l.map fun r => r.name.length + r.data.length).sum
theorem sumR_snoc (l : List Rc.RR) (x : Rc.RR) : sumR (l ++ [x]) = sumR l + (x.name.length + x.data.length) := by simp [sumR]
theorem sumR_take_le (l : List Rc.RR) (k : Nat) : sumR (l.take k) ≤ sumR l := by
  have e : sumR (l.take k) + sumR (l.drop k) = sumR l := by
    unfold sumR
    rw [← List.sum_append, ← List.map_append, List.take_append_drop]
  omega
theorem sumR_mem {l : List Rc.RR} {x : Rc.RR} (h : x ∈ l) : x.name.length + x.data.length ≤ sumR l := by
  induction l with
  | nil => cases h
  | cons y l ih =>
    rcases List.mem_cons.1 h with rfl | h
    · simp [sumR]
    · have := ih h
      simp [sumR] at this ⊢
      omega
def recordsB (l : List Rc.RR) (top : Nat) : Bool := decide (l.length + sumR l ≤ top)
theorem recordsB_true {l : List Rc.RR} {top : Nat} (h : recordsB l top = true) : l.length ≤ top ∧ ∀ r ∈ l, r.name.length ≤ top ∧ r.data.length ≤ top := by
  unfold recordsB at h
  rw [decide_eq_true_eq] at h
  refine ⟨by omega, fun r hr => ?_⟩
  have := sumR_mem hr
  omega
theorem rr_step {l : List Rc.RR} {k n : Nat} (hn : l.length = n) (h : k < n) : l.take (k + 1) = l.take k ++ [l.getD k r0] ∧ l.getD k r0 ∈ l := by
  subst hn
  constructor
  · rw [List.take_succ_eq_append_getElem h]
    simp [h]
  · rw [List.getD_eq_getElem?_getD, List.getElem?_eq_getElem h]
    simp

set_option maxRecDepth 100000 in
set_option maxHeartbeats 4000000 in
theorem Records_any (l : List Rc.RR) (a : Option Addr) (cap : Nat) (top : Nat) (w : World) (hst : RRs w (.slice a l.length cap) l) (ht : top ≤ 100000) (hok : ∀ r ∈ l, RROk r) :
    Calls Try.prog 36 #[.slice a l.length cap, .int .i64 top] w fun e w' => e = .returned (.bool (recordsB l top)) ∧ Below w.heap.size w w' := by
  obtain ⟨hn1, hc1⟩ := slc_bounds hst
  have HB := Go.Lib.hid (Below.refl w.heap.size w)
  generalize hn : l.length = n at *
  have hdef : recordsB l top = decide (n + sumR l ≤ top) := by unfold recordsB; rw [hn]
  generalize recordsB l top = res at *
  have HX := Go.Lib.hid hst
  have HOK := Go.Lib.hid hok
  have HDEF := Go.Lib.hid hdef
  clear hst hok hdef
  have HN := Go.Lib.hid hn
  clear hn
  unfold maxLen at hc1
  go_enter Try.func36, Try.ntmps36
  go_wp2_with fail
  go_loopw [5, 6] (fun v i wr => ∃ k N : Nat, i = .int .i64 k ∧ v = .int .i64 N ∧ k ≤ n ∧ N = n + sumR (l.take k) ∧ N ≤ n + 300000 ∧ Below w.heap.size w wr) (fun _ i _ => n - (intOf i).toNat)
  case atStart => exact ⟨0, n, rfl, rfl, by omega, by simp [sumR], by omega, HB.out⟩
  case round =>
    obtain ⟨k, N, rfl, rfl, hk, hN, hNb, hbr⟩ := hrel
    clear HB
    have HNN := Go.Lib.hid hN
    have hmono := sumR_take_le l k
    have hbig : Hid (top < N → res = false) := Go.Lib.hid (fun h => by rw [HDEF.out, decide_eq_false_iff_not]; omega)
    clear hN hmono
    have HB := Go.Lib.hid hbr
    clear hbr
    by_cases hlt : k < n
    · by_cases hle : N ≤ top
      · have hst := HX.out.below HB.out (Nat.le_refl _)
        rw [← HN.out] at hst
        obtain ⟨b, off, rfl, hbw, hcell⟩ := RRs.at hst (by rw [HN.out]; omega)
        obtain ⟨c0, _, _, _, c4⟩ := hcell k (by rw [HN.out]; exact hlt)
        obtain ⟨hstep, hmem⟩ := rr_step HN.out hlt
        have hxs := HOK.out _ hmem
        have hxb := sumR_mem hmem
        have hsum : sumR (l.take (k + 1)) = sumR (l.take k) + ((l.getD k r0).name.length + (l.getD k r0).data.length) := by rw [hstep, sumR_snoc]
        have hlong : Hid (top < (l.getD k r0).name.length ∨ top < (l.getD k r0).data.length → res = false) := Go.Lib.hid (fun h => by rw [HDEF.out, decide_eq_false_iff_not]; omega)
        have HSUM := Go.Lib.hid hsum
        clear hst hcell hmem hstep hsum hxb
        generalize l.getD k r0 = x at *
        obtain ⟨xn, xt, xc, xl, xd⟩ := x
        obtain ⟨hx1, hx2⟩ := hxs
        unfold maxLen at hx1 hx2
        simp only at c0 c4 hx1 hx2
        have s1 : (mk xn).size = xn.length := size_mk xn
        have s2 : (mk xd).size = xd.length := size_mk xd
        have q2 : (N : Int) ≤ (top : Int) := by omega
        by_cases hx : top < xn.length
        · have q1 : (top : Int) < (xn.length : Int) := by omega
          have hres := Go.Lib.hid (hlong.out (.inl hx))
          clear hx hlong
          go_wp2_with fail
          go_ret
          exact ⟨ret_bool hres.out.symm, HB.out⟩
        · have q1 : ¬ (top : Int) < (xn.length : Int) := by omega
          by_cases hy : top < xd.length
          · have q3 : (top : Int) < (xd.length : Int) := by omega
            have hres := Go.Lib.hid (hlong.out (.inr hy))
            clear hx hy hlong
            go_wp2_with fail
            go_ret
            exact ⟨ret_bool hres.out.symm, HB.out⟩
          · have q3 : ¬ (top : Int) < (xd.length : Int) := by omega
            clear hlong
            have w1 : IntKind.i64.wrap ((N : Int) + (xn.length : Int)) = (N : Int) + (xn.length : Int) := wrapi (by omega) (by omega)
            have w2 : IntKind.i64.wrap ((N : Int) + (xn.length : Int) + (xd.length : Int)) = (N : Int) + (xn.length : Int) + (xd.length : Int) := wrapi (by omega) (by omega)
            have C0 := BelowC.cell (W := wr) c0 hbw
            have C4 := BelowC.cell (W := wr) c4 hbw
            have hne : Nonempty (Subtype (Below wr.heap.size wr)) := ⟨⟨wr, Below.refl _ _⟩⟩
            go_wp2_with fail
            refine Go.Mix.wp_region_mix (Es := []) (Below wr.heap.size wr) mixed (by kernel_rfl) (Below.refl _ _).drew (fun _ => ?_)
            clear c0 c4
            iterate 16 (refine Go.Mix.mix_step rfl (fun K hK => ?_); have HKK := Go.Lib.hid hK; clear hK; go_simp; refine HKK.out _ _ ?_; clear HKK K)
            refine Go.Mix.mix_nil ?_
            go_wp2_with fail
            go_roundw
            case rel => exact ⟨k + 1, N + xn.length + xd.length, by go_num, by go_num, by omega, by rw [HSUM.out, HNN.out]; omega, by omega, HB.out.drew⟩
            case measure => simp [intOf]; omega
      · have q2 : ¬ (N : Int) ≤ (top : Int) := by omega
        have hres := Go.Lib.hid (hbig.out (by omega))
        go_wp2_with fail
        go_ret
        exact ⟨ret_bool (by rw [hres.out]), HB.out⟩
    · obtain rfl : k = n := by omega
      have hall : Hid (res = decide ((N : Int) ≤ (top : Int))) := Go.Lib.hid (by
        have := HNN.out
        rw [List.take_of_length_le (by rw [HN.out]; exact Nat.le_refl _)] at this
        rw [HDEF.out, this, decide_eq_decide]
        omega)
      go_wp2_with fail
      go_ret
      exact ⟨ret_bool (by rw [hall.out]; first | rfl | simp), HB.out⟩

/-- is a message looked at? -/
def smallB (m : Msg) (top : Nat) : Bool := decide (m.qs.length ≤ 8) && (m.qs.all fun q => decide (q.name.length ≤ 400)) && recordsB m.an top && recordsB m.sv top && recordsB m.ad top

end Go.Proofs.Ytblbphnmflbepaa

