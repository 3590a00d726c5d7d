/- slices.Values at texts: its contract, for whatever loop. -/
import Derived.Test.YtfmhmhekildfbaaSeq
namespace Go.Proofs.Ytfmhmhekildfbaa
open Go.RowKit Go.Shelf

attribute [local go_sem] Oper.semAt_some

set_option maxRecDepth 100000 in
set_option maxHeartbeats 2000000 in
theorem valuesS1_in (n : Nat) (hn : 1 ≤ n) (l Bs lo hi b off len cap : Nat) (zs : List (List UInt8)) (hz : zs.length = len) (hreach : len ≤ 1099511627776) (hb1 : lo ≤ b) (hb2 : b < hi) (J Jx : List (List UInt8) → World → Prop)
    (hY : ∀ pre x W, J pre W → pre.length < len → YieldAt Fence.wide (n - 1) Try.prog l #[.string (mk x)] W fun e W' =>
      (e = .returned (.bool true) ∧ J (pre ++ [x]) W' ∧ Kr lo hi W W') ∨ (e = .returned (.bool false) ∧ Jx (pre ++ [x]) W'))
    (W : World) (hBs : W.cell? ⟨Bs, 0, none⟩ = some (.slice (some ⟨b, off, none⟩) len cap)) (hc : ∀ j, j < len → W.cell? ⟨b, off + j, none⟩ = some (.string (mk (zs[j]?.getD [])))) (h0 : J [] W) :
    CallsIn Fence.wide n Try.prog 57 #[.func (.yield l) #[] #[], .pointer (some ⟨Bs, 0, none⟩)] W fun e W' => (∃ v, e = .returned v) ∧
      ((∃ ys, ys = zs ∧ J ys W') ∨ (∃ pre, pre <+: zs ∧ Jx pre W')) := by
  refine callsIn_of_wp Try.func57 rfl trivial ?_ rfl
  simp only [Try.ntmps57, List.size_toArray, List.length_cons, List.length_nil, Nat.reduceAdd, Nat.reduceSub, Array.replicate_succ, Array.replicate_zero, List.push_toArray, List.append_toArray, List.nil_append, List.cons_append]
  gi_wp2
  gi_loopw [7] (fun i wr => ∃ k : Nat, k ≤ len ∧ i = .int .i64 k ∧ J (zs.take k) wr ∧ Kr lo hi W wr)
    (fun i _ => len - (intOf i).toNat)
  case atStart => exact ⟨0, Nat.zero_le _, rfl, by simpa using h0, Kr.refl _ _ _⟩
  case round =>
    obtain ⟨k, hk, rfl, hJs, hnx⟩ := hrel
    by_cases hlt : k < len
    · have hcx : wr.cell? ⟨b, off + k, none⟩ = some (.string (mk (zs[k]?.getD []))) := (hnx.cell (p := ⟨b, off + k, none⟩) hb1 hb2 rfl).trans (hc k hlt)
      obtain ⟨fn, tmps, assign, body, hy, hR⟩ := hY _ (zs[k]?.getD []) wr hJs (by rw [List.length_take, hz]; omega)
      have hsn : zs.take (k + 1) = zs.take k ++ [zs[k]?.getD []] := by
        rw [List.take_succ_eq_append_getElem (by omega)]
        simp [hz, hlt]
      generalize zs[k]?.getD [] = x at *
      gi_wp2
      refine hR.mono ?_
      rintro e W3 (⟨rfl, hJ3, hk3⟩ | ⟨rfl, hJx3⟩)
      · gi_wp2
        go_roundw
        case rel => exact ⟨k + 1, by omega, by simp, by rw [hsn]; exact hJ3, hnx.trans hk3⟩
        case measure => simp [intOf]; omega
      · gi_wp2
        refine bodyPost_ret (results_none rfl _ _ _) rfl ?_
        exact ⟨⟨_, rfl⟩, .inr ⟨_, by rw [← hsn]; exact List.take_prefix _ _, hJx3⟩⟩
    · obtain rfl : k = len := by omega
      gi_wp2
      go_end0
      exact ⟨⟨_, rfl⟩, .inl ⟨_, by rw [← hz, List.take_length], hJs⟩⟩

set_option maxRecDepth 100000 in
set_option maxHeartbeats 1000000 in
theorem valuesS1_nil_in (n : Nat) (l Bs : Nat) (J : List (List UInt8) → World → Prop) (W : World) (hBs : W.cell? ⟨Bs, 0, none⟩ = some (.slice none 0 0)) (h0 : J [] W) :
    CallsIn Fence.wide n Try.prog 57 #[.func (.yield l) #[] #[], .pointer (some ⟨Bs, 0, none⟩)] W fun e W' => (∃ v, e = .returned v) ∧ J [] W' := by
  refine callsIn_of_wp Try.func57 rfl trivial ?_ rfl
  simp only [Try.ntmps57, List.size_toArray, List.length_cons, List.length_nil, Nat.reduceAdd, Nat.reduceSub, Array.replicate_succ, Array.replicate_zero, List.push_toArray, List.append_toArray, List.nil_append, List.cons_append]
  gi_wp2
  gi_loopw [7] (fun i wr => i = .int .i64 0 ∧ J [] wr) (fun _ _ => 0)
  case atStart => exact ⟨rfl, h0⟩
  case round =>
    obtain ⟨rfl, hJs⟩ := hrel
    gi_wp2
    go_end0
    exact ⟨⟨_, rfl⟩, hJs⟩

/-- slices.Values(s): the slice value is boxed; the function value captures the box -/
theorem valuesS_any (a : Option Addr) (len cap : Nat) (w : World) :
    Calls Try.prog 53 #[.slice a len cap] w fun e w' => e = .returned (.func (.func 57) #[] #[.pointer (some ⟨w.heap.size, 0, none⟩)]) ∧ w' = w.alloc (.cells #[.slice a len cap] 23) := by
  go_enter Try.func53, Try.ntmps53
  go_wp2
  go_ret
  exact ⟨rfl, rfl⟩

/-- a row of texts in a block of a span -/
def StrsIn (lo hi : Nat) (W : World) (sv : Value) (zs : List (List UInt8)) : Prop :=
  (sv = .slice none 0 0 ∧ zs = []) ∨ ∃ b off cap, sv = .slice (some ⟨b, off, none⟩) zs.length cap ∧ lo ≤ b ∧ b < hi ∧ ∀ j, j < zs.length → W.cell? ⟨b, off + j, none⟩ = some (.string (mk (zs[j]?.getD [])))

theorem valuesS_stops (n : Nat) (hn : 1 ≤ n) (Bs lo hi : Nat) (sv : Value) (zs : List (List UInt8)) (hreach : zs.length ≤ 1099511627776) (w : World) (hBs : Bs < w.heap.size) (hhi : hi ≤ w.heap.size)
    (hc : w.cell? ⟨Bs, 0, none⟩ = some sv) (hI : StrsIn lo hi w sv zs) :
    SeqStopsK Fence.wide n Try.prog 57 #[.pointer (some ⟨Bs, 0, none⟩)] (fun x : List UInt8 => #[Value.string (mk x)]) (Kr lo hi) (fun ys => ys = zs) (fun pre => pre <+: zs) zs.length w := fun l J Jx W hW _ _ hY h0 => by
  have hc' := (hW.cell (p := ⟨Bs, 0, none⟩) hBs).trans hc
  rcases hI with ⟨rfl, rfl⟩ | ⟨b, off, cap, rfl, hb1, hb2, hcs⟩
  · exact (valuesS1_nil_in n l Bs J W hc' h0).mono fun e W' ⟨he, hj⟩ => ⟨he, .inl ⟨_, rfl, hj⟩⟩
  · exact valuesS1_in n hn l Bs lo hi b off zs.length cap zs rfl hreach hb1 hb2 J Jx hY W hc' (fun j hj => (hW.cell (p := ⟨b, off + j, none⟩) (show b < _ by omega)).trans (hcs j hj)) h0
end Go.Proofs.Ytfmhmhekildfbaa

