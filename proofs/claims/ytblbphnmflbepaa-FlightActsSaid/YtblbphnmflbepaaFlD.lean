/- Flight: slices.Insert at what was sent: at the end, and into a new row. -/
import Derived.Test.YtblbphnmflbepaaFlC
import Derived.Shelf.Spec.SlicesInsertGrow
namespace Go.Proofs.Ytblbphnmflbepaa
open Go.RowKit Go.Lib
set_option linter.unusedVariables false

theorem sn_info : ∃ i z, Try.prog.info? 36 = some i ∧ i.zero = some z ∧ i.size = 9 ∧ i.bytes ≤ 256 ∧ z.cells.size = 9 := by
  have h : (Try.prog.info? 36).map (fun i => (i.size, decide (i.bytes ≤ 256), i.zero.map (fun z => z.cells.size))) = some (9, true, some 9) := by kernel_rfl
  cases hq : Try.prog.info? 36 with
  | none => rw [hq] at h; cases h
  | some i =>
    rw [hq] at h
    simp only [Option.map_some, Option.some.injEq, Prod.mk.injEq] at h
    obtain ⟨h1, h2, h3⟩ := h
    cases hz : i.zero with
    | none => rw [hz] at h3; cases h3
    | some z =>
      rw [hz] at h3
      exact ⟨i, z, rfl, hz, h1, of_decide_eq_true h2, by simpa using h3⟩

set_option maxHeartbeats 4000000 in
set_option maxRecDepth 100000 in
/-- at the end, there is room -/
theorem insert_end_room (b off n c vb voff vc : Nat) (vs : List Value) (w : World) (hroom : n + 1 ≤ c) (hc63 : c ≤ 9223372036854775807)
    (hvl : vs.length = 9) (hsp : ∀ j, j < 9 → (w.cell? ⟨b, off + n * 9 + j, none⟩).isSome = true) (hfz : ∀ j, j < 9 → w.frozen? ⟨b, off + n * 9 + j, none⟩ = false)
    (hvs : ∀ j v, vs[j]? = some v → w.cell? ⟨vb, voff + j, none⟩ = some v) (h1v : ∀ v ∈ vs, v.oneCell' = true) :
    Calls Try.prog 28 #[.slice (some ⟨b, off, none⟩) n c, .int .i64 n, .slice (some ⟨vb, voff, none⟩) 1 vc] w fun e w' =>
      e = .returned (.slice (some ⟨b, off, none⟩) (n + 1) c) ∧ w' = w.setCells b (off + n * 9) vs := by
  obtain ⟨i0, z, hi0, hz0, hzs, hzb, hzc⟩ := sn_info
  have mixed : Try.prog.follows .mixedOrders = true := by kernel_rfl
  have hsrc : Src Try.prog i0.size 72 (.slice (some ⟨vb, voff, none⟩) 1 vc) 1 vs w := by
    rw [hzs]
    exact Src.ofSlice w Try.underlying72 ⟨vb, voff, none⟩ 1 vc vs (by omega) (fun j u hj => by rw [Addr.add_lit]; exact hvs j u hj) h1v
  have hrun : ∀ ty, (Builtin.append_ #[72, 72] ty #[.slice (some ⟨b, off, none⟩) n c, .slice (some ⟨vb, voff, none⟩) 1 vc]).run Try.prog w = .ok (.slice (some ⟨b, off, none⟩) (n + 1) c) (w.setCells b (off + n * 9) vs) := fun ty => by
    have h := run_append_room_src w 72 72 ty 36 i0 Try.underlying72 hi0 b off n c _ 1 vs hsrc hroom (by rw [hvl, hzs]; exact hsp) (by rw [hvl, hzs]; exact hfz)
    rw [hzs] at h
    exact h
  clear hsrc hsp hfz hvs h1v hi0
  go_enter Try.func28, Try.ntmps28
  go_wp2_with (at_builtin; refine Lib.wpList_append_run _ rfl _ _ _ _ rfl _ _ rfl rfl _ _ (hrun _) ?_)
  go_ret
  exact ⟨rfl, rfl⟩

set_option maxHeartbeats 4000000 in
set_option maxRecDepth 100000 in
/-- at the end, no room: a new row -/
theorem insert_end_grow (base : Option Addr) (n c vb voff vc : Nat) (cs vs : List Value) (w : World) (hnc : n ≤ c) (hroom : c < n + 1) (hbig : n ≤ 274877906944)
    (hcl : cs.length = n * 9) (hvl : vs.length = 9) (hnil : base = none → n = 0)
    (hcs : ∀ a, base = some a → ∀ j v, cs[j]? = some v → w.cell? (a.add j) = some v)
    (hvs : ∀ j v, vs[j]? = some v → w.cell? ⟨vb, voff + j, none⟩ = some v) (h1v : ∀ v ∈ vs, v.oneCell' = true) :
    Calls Try.prog 28 #[.slice base n c, .int .i64 n, .slice (some ⟨vb, voff, none⟩) 1 vc] w fun e w' =>
      ∃ zs : Array Value, zs.size = (grownCap w (n + 1) c 36 - (n + 1)) * 9 ∧ e = .returned (.slice (some ⟨w.heap.size, 0, none⟩) (n + 1) (grownCap w (n + 1) c 36)) ∧
      w' = w.drew.alloc (.cells ((cs ++ vs).toArray ++ zs) 36) := by
  obtain ⟨i0, z, hi0, hz0, hzs, hzb, hzc⟩ := sn_info
  have mixed : Try.prog.follows .mixedOrders = true := by kernel_rfl
  have hsrc : Src Try.prog i0.size 72 (.slice (some ⟨vb, voff, none⟩) 1 vc) 1 vs w := by
    rw [hzs]
    exact Src.ofSlice w Try.underlying72 ⟨vb, voff, none⟩ 1 vc vs (by omega) (fun j u hj => by rw [Addr.add_lit]; exact hvs j u hj) h1v
  have hold : (Builtin.firstCells i0.size n (.slice base n c)).run Try.prog w.drew = .ok cs.toArray w.drew := by
    rw [hzs]
    cases base with
    | none =>
      have h0 := hnil rfl
      subst h0
      obtain rfl : cs = [] := List.length_eq_zero_iff.1 (by omega)
      exact run_firstCells_none w.drew 9 0 0 c
    | some a => exact run_firstCells_some w.drew 9 n a n c cs (by omega) (fun j v hj => hcs a rfl j v hj)
  have hfit : (n + 1) * i0.bytes ≤ 140737488355328 := Nat.le_trans (Nat.mul_le_mul (by omega : n + 1 ≤ 274877906945) hzb) (by decide)
  have hrun : ∀ ty, (Builtin.append_ #[72, 72] ty #[.slice base n c, .slice (some ⟨vb, voff, none⟩) 1 vc]).run Try.prog w = _ := fun ty =>
    run_append_grow_src w 72 72 ty 36 i0 _ Try.underlying72 hi0 hz0 base n c cs hold _ 1 vs hsrc hroom (by omega) (growslice_fits hroom hfit)
  have hzl : (Builtin.zeroCells z.cells (grownCap w (n + 1) c 36 - (n + 1))).size = (grownCap w (n + 1) c 36 - (n + 1)) * 9 := by
    simp [Builtin.zeroCells, hzc]
  generalize grownCap w (n + 1) c 36 = G at *
  generalize Builtin.zeroCells z.cells (G - (n + 1)) = zs at *
  clear hsrc hvs h1v hi0 hold hfit hzb hzs hz0
  go_enter Try.func28, Try.ntmps28
  cases base with
  | none =>
    have h0 := hnil rfl
    subst h0
    go_wp2_with (at_builtin; refine Lib.wpList_append_run _ rfl _ _ _ _ rfl _ _ rfl rfl _ _ (hrun _) ?_)
    go_ret
    exact ⟨zs, hzl, rfl, rfl⟩
  | some a =>
    obtain ⟨ab, ao, asp⟩ := a
    go_wp2_with (at_builtin; refine Lib.wpList_append_run _ rfl _ _ _ _ rfl _ _ rfl rfl _ _ (hrun _) ?_)
    all_goals (go_ret; exact ⟨zs, hzl, rfl, rfl⟩)
end Go.Proofs.Ytblbphnmflbepaa

