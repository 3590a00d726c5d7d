/- Flight: slices.Insert at what was sent: amid, no room: a new row. -/
import Derived.Test.YtblbphnmflbepaaFlD
namespace Go.Proofs.Ytblbphnmflbepaa
open Go.RowKit Go.Lib
set_option linter.unusedVariables false

set_option maxHeartbeats 4000000 in
set_option maxRecDepth 100000 in
/-- amid, no room: a new row: what stood ahead of i, the new one, what stood from i on; the old row as it was -/
theorem insert_grow (b off n c i vb voff vc : Nat) (cs vs : List Value) (w : World) (hi : i < n) (hnc : n ≤ c) (hroom : c < n + 1) (hbig : n ≤ 274877906944)
    (hcl : cs.length = n * 9) (hvl : vs.length = 9)
    (hcs : ∀ j v, cs[j]? = some v → w.cell? ⟨b, off + j, none⟩ = some v)
    (hvs : ∀ j v, vs[j]? = some v → w.cell? ⟨vb, voff + j, none⟩ = some v) (h1c : ∀ v ∈ cs, v.oneCell' = true) (h1v : ∀ v ∈ vs, v.oneCell' = true) :
    Calls Try.prog 28 #[.slice (some ⟨b, off, none⟩) n c, .int .i64 i, .slice (some ⟨vb, voff, none⟩) 1 vc] w fun e w' =>
      ∃ ROW : Array Value, ROW.size = grownCap w (n + 1) c 36 * 9 ∧ ROW.toList.take (i * 9) = cs.take (i * 9) ∧
      e = .returned (.slice (some ⟨w.heap.size, 0, none⟩) (n + 1) (grownCap w (n + 1) c 36)) ∧
      w' = (((w.alloc (.cells ROW 36)).drew.setCells w.heap.size (i * 9) vs).drew).setCells w.heap.size ((i + 1) * 9) (cs.drop (i * 9)) := by
  obtain ⟨i0, z, hi0, hz0, hzs, hzb, hzc⟩ := sn_info
  have mixed : Try.prog.follows .mixedOrders = true := by kernel_rfl
  have hz2 : ¬ ((i : Int) = (n : Int)) := by omega
  have hz3 : (c : Int) < (n : Int) + 1 := by omega
  have hbw : b < w.heap.size := block_lt_of_cell (hcs 0 _ (List.getElem?_eq_getElem (by omega)))
  have hvw : vb < w.heap.size := block_lt_of_cell (hvs 0 _ (List.getElem?_eq_getElem (by omega)))
  have hkk : (n : Int) + 1 - (i : Int) = ((n + 1 - i : Nat) : Int) := by omega
  have hik : i + (n + 1 - i) = n + 1 := by omega
  have hold : (Builtin.firstCells i0.size i (.slice (some ⟨b, off, none⟩) i c)).run Try.prog w.drew = .ok (cs.take (i * 9)).toArray w.drew := by
    rw [hzs]
    exact run_firstCells_some w.drew 9 i ⟨b, off, none⟩ i c (cs.take (i * 9)) (by rw [List.length_take]; omega) (fun j v hj => by
      rw [Addr.add_lit]
      rw [List.getElem?_take] at hj
      split at hj
      · exact hcs j v hj
      · cases hj)
  have hfit : (n + 1) * i0.bytes ≤ 140737488355328 := Nat.le_trans (Nat.mul_le_mul (by omega : n + 1 ≤ 274877906945) hzb) (by decide)
  have hfit2 : (n + 1 - i) * i0.bytes ≤ 281474976710656 := Nat.le_trans (Nat.mul_le_mul_right _ (by omega : n + 1 - i ≤ n + 1)) (by omega)
  have hrz : ∀ ty, (Builtin.append_ #[72, 3] ty #[.slice (some ⟨b, off, none⟩) i c, .int .i64 ((n : Int) + 1 - (i : Int))]).run Try.prog w =
      .ok (.slice (some ⟨w.heap.size, 0, none⟩) (n + 1) (grownCap w (n + 1) c 36)) (w.drew.alloc (.cells ((cs.take (i * 9)).toArray ++ Builtin.zeroCells z.cells (n + 1 - i) ++ Builtin.zeroCells z.cells (grownCap w (n + 1) c 36 - (n + 1))) 36)) := fun ty => by
    have h := Lib.run_append_grow_zeros w 72 3 ty 36 i0 _ .i64 .i64 Try.underlying72 Try.underlying3 hi0 hz0 (some ⟨b, off, none⟩) i c (cs.take (i * 9)) hold (n + 1 - i) (by omega) (by omega) (by omega) (by omega) hfit2 (by rw [hik]; exact growslice_fits hroom hfit)
    rw [hik] at h
    rw [hkk]
    exact h
  obtain ⟨G, hG⟩ : ∃ G, G = grownCap w (n + 1) c 36 := ⟨_, rfl⟩
  have hGn : n + 1 ≤ G := by rw [hG]; exact grownCap_ge w _ _ _
  have hG63 : G ≤ 9223372036854775807 := by
    have := grownCap_le_maxLen w (n + 1) c 36 (by unfold maxLen; omega)
    rw [← hG] at this
    unfold maxLen at this
    omega
  obtain ⟨ROW, hROW⟩ : ∃ ROW : Array Value, ROW = (cs.take (i * 9)).toArray ++ Builtin.zeroCells z.cells (n + 1 - i) ++ Builtin.zeroCells z.cells (G - (n + 1)) := ⟨_, rfl⟩
  rw [← hG] at hrz ⊢
  rw [← hROW] at hrz
  have hRs : ROW.size = G * 9 := by
    rw [hROW]
    simp [Builtin.zeroCells, hzc]
    omega
  have hRt : ROW.toList.take (i * 9) = cs.take (i * 9) := by
    have hl : ROW.toList = cs.take (i * 9) ++ ((Builtin.zeroCells z.cells (n + 1 - i)).toList ++ (Builtin.zeroCells z.cells (G - (n + 1))).toList) := by
      rw [hROW]; simp
    rw [hl, List.take_left' (by rw [List.length_take]; omega)]
  clear hROW
  obtain ⟨W1, hW1⟩ : ∃ W1, W1 = w.drew.alloc (.cells ROW 36) := ⟨_, rfl⟩
  rw [← hW1] at hrz
  have hN : ∀ j, j < (n + 1) * 9 → (W1.cell? ⟨w.heap.size, j, none⟩).isSome = true := fun j hj => by
    rw [hW1, World.cell?_alloc_at (w := w.drew) ROW _ w.heap.size j rfl, Array.getElem?_eq_getElem (by omega)]; rfl
  have hNf : ∀ j, W1.frozen? ⟨w.heap.size, j, none⟩ = false := fun j => by rw [hW1]; exact World.frozen?_alloc_at (w := w.drew) ROW _ w.heap.size j rfl
  have hOb : ∀ j v, w.cell? ⟨b, j, none⟩ = some v → W1.cell? ⟨b, j, none⟩ = some v := fun j v h => by rw [hW1, World.cell?_alloc_past (w := w.drew) _ b j hbw]; exact h
  have hOv : ∀ j v, w.cell? ⟨vb, j, none⟩ = some v → W1.cell? ⟨vb, j, none⟩ = some v := fun j v h => by rw [hW1, World.cell?_alloc_past (w := w.drew) _ vb j hvw]; exact h
  have hcpA : ∀ (W : World), (∀ x, W.cell? x = W1.cell? x) → (∀ x, W.frozen? x = W1.frozen? x) → ∀ ty dc, (Builtin.copy_ #[72, 72] ty #[.slice (some ⟨w.heap.size, i * 9, none⟩) (n + 1 - i) dc, .slice (some ⟨vb, voff, none⟩) 1 vc]).run Try.prog W = .ok (goInt (1 : Nat)) (W.setCells w.heap.size (i * 9) vs) := fun W hWc hWf ty dc =>
    run_copy_rows W _ _ ty 36 9 w.heap.size (i * 9) (n + 1 - i) dc ⟨vb, voff, none⟩ 1 vc 1 vs Try.underlying72 sn_size (by simp only [Nat.min_def]; split <;> omega) (by rw [hvl])
      (fun j v hj => by rw [Addr.add_lit, hWc]; exact hOv _ v (hvs j v hj))
      (fun j hj => by rw [hWc]; exact hN _ (by omega)) (fun j hj => by rw [hWf]; exact hNf _) h1v
  have hGi : ¬ (G = i) := by omega
  have hGim : ¬ (G = i + 1) := by omega
  have hci : ¬ (c = i) := by omega
  have hbN : b ≠ w.heap.size := by omega
  have hdl : (cs.drop (i * 9)).length = (n - i) * 9 := by rw [List.length_drop, hcl]; omega
  have hcpB : ∀ (W : World), (∀ x, W.cell? x = (W1.setCells w.heap.size (i * 9) vs).cell? x) → (∀ x, W.frozen? x = (W1.setCells w.heap.size (i * 9) vs).frozen? x) → ∀ ty dc sc, (Builtin.copy_ #[72, 72] ty #[.slice (some ⟨w.heap.size, (i + 1) * 9, none⟩) (n - i) dc, .slice (some ⟨b, off + i * 9, none⟩) (n - i) sc]).run Try.prog W = .ok (goInt (n - i : Nat)) (W.setCells w.heap.size ((i + 1) * 9) (cs.drop (i * 9))) := fun W hWc hWf ty dc sc =>
    run_copy_rows W _ _ ty 36 9 w.heap.size ((i + 1) * 9) (n - i) dc ⟨b, off + i * 9, none⟩ (n - i) sc (n - i) (cs.drop (i * 9)) Try.underlying72 sn_size (by simp only [Nat.min_def]; split <;> omega) hdl
      (fun j v hj => by
        rw [Addr.add_lit, hWc, World.cell?_setCells_out _ _ _ _ _ (fun h _ => absurd h hbN), Nat.add_assoc]
        exact hOb _ v (hcs (i * 9 + j) v (by rwa [List.getElem?_drop] at hj)))
      (fun j hj => by rw [hWc]; exact isSome_setCells _ _ _ _ (fun t ht => hN _ (by omega)) _ (hN _ (by omega)))
      (fun j hj => by rw [hWf, World.frozen?_setCells]; exact hNf _) (fun v hv => h1c v (List.mem_of_mem_drop hv))
  subst hW1
  have hE1 : ∀ x, ((w.alloc (.cells ROW 36)).drew).cell? x = (w.drew.alloc (.cells ROW 36)).cell? x := fun x => rfl
  have hE2 : ∀ x, ((w.alloc (.cells ROW 36)).drew).frozen? x = (w.drew.alloc (.cells ROW 36)).frozen? x := fun x => rfl
  have hF1 : ∀ x, (((w.alloc (.cells ROW 36)).drew.setCells w.heap.size (i * 9) vs).drew).cell? x = ((w.drew.alloc (.cells ROW 36)).setCells w.heap.size (i * 9) vs).cell? x := fun x => rfl
  have hF2 : ∀ x, (((w.alloc (.cells ROW 36)).drew.setCells w.heap.size (i * 9) vs).drew).frozen? x = ((w.drew.alloc (.cells ROW 36)).setCells w.heap.size (i * 9) vs).frozen? x := fun x => rfl
  have hw1 : IntKind.i64.wrap ((i : Int) + 1) = (i : Int) + 1 := by rw [IntKind.wrap_i64]; omega
  have hw2 : IntKind.i64.wrap ((n : Int) + 1) = (n : Int) + 1 := by rw [IntKind.wrap_i64]; omega
  have hw3 : IntKind.i64.wrap ((n : Int) + 1 - (i : Int)) = (n : Int) + 1 - (i : Int) := by rw [IntKind.wrap_i64]; omega
  have hb1 : (0 : Int) ≤ (i : Int) + 1 := by omega
  have hin : i ≤ n := by omega
  have htn : ((i : Int) + 1).toNat = i + 1 := by omega
  have hb3 : (i : Int) ≤ (n : Int) := by omega
  clear hkk hik hold hG hcs hvs h1c h1v hN hNf hOb hOv hfit hfit2 hi0 hz0 hzs hzb hzc
  go_enter Try.func28, Try.ntmps28
  go_wp2_with (first
    | (at_builtin; refine Lib.wpList_append_run _ rfl _ _ _ _ rfl _ _ rfl rfl _ _ (hrz _) ?_)
    | (at_builtin; refine wpList_copy_runI _ rfl _ _ 72 72 rfl _ _ rfl rfl (hcpA _ hE1 hE2 _ _) ?_))
  go_region_law_o (refine step_copy_runI rfl _ _ 72 72 rfl (.slice (some ⟨w.heap.size, (i + 1) * 9, none⟩) (n - i) (G - (i + 1))) (.slice (some ⟨b, off + i * 9, none⟩) (n - i) (c - i)) (by simp [Act.eval, Act.put]) (by simp [Act.eval, Act.put]) (hcpB _ hF1 hF2 3 (G - (i + 1)) (c - i)) ?_)
  go_wp2
  go_ret
  exact ⟨ROW, hRs, hRt, rfl, rfl⟩
end Go.Proofs.Ytblbphnmflbepaa

