/- Flight: slices.Insert at a row that is owned: all four roads. -/
import Derived.Test.YtblbphnmflbepaaFlE
namespace Go.Proofs.Ytblbphnmflbepaa
open Go.RowKit Go.Lib
set_option linter.unusedVariables false

theorem setCells_row {g : Nat} {e : TypeId} : ∀ (vs : List Value) (o : Nat) (w : World) (cur : Array Value), w.heap[g]? = some (.cells cur e (0, 0)) →
    ∃ cur' : Array Value, (w.setCells g o vs).heap[g]? = some (.cells cur' e (0, 0)) ∧ cur'.size = cur.size ∧ w.grownBy (w.setCells g o vs) (some g)
  | [], o, w, cur, h => ⟨cur, h, rfl, World.grownBy.refl w _⟩
  | v :: r, o, w, cur, h => by
    have hs : w.setCell ⟨g, o, none⟩ v = w.setRow g (cur.setIfInBounds o v) := setCell_eq_setRow w g o cur e (0, 0) v h
    have h1 : (w.setRow g (cur.setIfInBounds o v)).heap[g]? = some (.cells (cur.setIfInBounds o v) e (0, 0)) := setRow_heap w g cur _ e _ h
    obtain ⟨c2, h2, hz, hg⟩ := setCells_row r (o + 1) _ _ h1
    have hg0 : w.grownBy (w.setRow g (cur.setIfInBounds o v)) (some g) := ⟨rfl, rfl, rfl, by simp, fun k _ hk => setRow_other w g k _ (fun e => hk (by simp [e]))⟩
    refine ⟨c2, ?_, by rw [hz]; simp, ?_⟩
    · rw [World.setCells, hs]; exact h2
    · rw [World.setCells, hs]; exact hg0.trans hg
theorem owns_of_cells {w : World} {base g n cap : Nat} {e : TypeId} {cur : Array Value} {xs : List Value} (hg : w.heap[g]? = some (.cells cur e (0, 0))) (hb : base ≤ g) (hn : n ≤ cap) (hc : cap ≤ maxLen) (hs : cur.size = cap * 9)
    (hl : xs.length = n * 9) (hx : ∀ j, j < n * 9 → w.cell? ⟨g, j, none⟩ = xs[j]?) : w.ownsRow base e 9 (.slice (some ⟨g, 0, none⟩) n cap) n xs := by
  refine ⟨hl, .inr ⟨g, cap, cur, rfl, hb, hg, hn, hc, hs, ?_⟩⟩
  apply List.ext_getElem?
  intro j
  rw [List.getElem?_take]
  split
  · rename_i h
    have := hx j h
    rw [← this]
    simp [World.cell?, hg]
  · rename_i h
    rw [List.getElem?_eq_none (by omega)]
theorem frozen_row {w : World} {g : Nat} {cur : Array Value} {e : TypeId} (h : w.heap[g]? = some (.cells cur e (0, 0))) (j : Nat) : w.frozen? ⟨g, j, none⟩ = false := by simp [World.frozen?, h]
theorem cell_row {w : World} {g : Nat} {cur : Array Value} {e : TypeId} {f : Nat × Nat} (h : w.heap[g]? = some (.cells cur e f)) (j : Nat) : w.cell? ⟨g, j, none⟩ = cur[j]? := by simp [World.cell?, h]
theorem grownBy_drew (w : World) (row : Option Nat) : w.grownBy w.drew row := ⟨rfl, rfl, rfl, Nat.le_refl _, fun _ _ _ => rfl⟩

/-- the cells after the two copies -/
theorem inserted_cells {w : World} {g i n : Nat} {cs vs : List Value} (hi : i ≤ n) (hcl : cs.length = n * 9) (hvl : vs.length = 9)
    (hsp : ∀ j, j < (n + 1) * 9 → (w.cell? ⟨g, j, none⟩).isSome = true) (hh : ∀ j, j < i * 9 → w.cell? ⟨g, j, none⟩ = cs[j]?) (W : World)
    (hW : (∀ x, W.cell? x = ((w.setCells g ((i + 1) * 9) (cs.drop (i * 9))).setCells g (i * 9) vs).cell? x) ∨ (∀ x, W.cell? x = ((w.setCells g (i * 9) vs).setCells g ((i + 1) * 9) (cs.drop (i * 9))).cell? x)) :
    ∀ j, j < (n + 1) * 9 → W.cell? ⟨g, j, none⟩ = (cs.take (i * 9) ++ vs ++ cs.drop (i * 9))[j]? := by
  intro j hj
  have hdl : (cs.drop (i * 9)).length = (n - i) * 9 := by rw [List.length_drop, hcl]; omega
  have htl : (cs.take (i * 9)).length = i * 9 := by rw [List.length_take, hcl]; omega
  have A : ∀ (u : World), (∀ j, j < (n + 1) * 9 → (u.cell? ⟨g, j, none⟩).isSome = true) → ∀ k, i * 9 ≤ k → k < i * 9 + 9 → (u.setCells g (i * 9) vs).cell? ⟨g, k, none⟩ = vs[k - i * 9]? := fun u hu k h1 h2 => by
    have := World.cell?_setCells_in g vs (i * 9) u (fun t ht => hu _ (by omega)) (k - i * 9) (by omega)
    rw [show i * 9 + (k - i * 9) = k by omega] at this
    rw [this, List.getElem?_eq_getElem (by omega)]
  have B : ∀ (u : World), (∀ j, j < (n + 1) * 9 → (u.cell? ⟨g, j, none⟩).isSome = true) → ∀ k, (i + 1) * 9 ≤ k → k < (n + 1) * 9 → (u.setCells g ((i + 1) * 9) (cs.drop (i * 9))).cell? ⟨g, k, none⟩ = (cs.drop (i * 9))[k - (i + 1) * 9]? := fun u hu k h1 h2 => by
    have := World.cell?_setCells_in g (cs.drop (i * 9)) ((i + 1) * 9) u (fun t ht => hu _ (by omega)) (k - (i + 1) * 9) (by omega)
    rw [show (i + 1) * 9 + (k - (i + 1) * 9) = k by omega] at this
    rw [this, List.getElem?_eq_getElem (by omega)]
  have A0 : ∀ (u : World) k, (k < i * 9 ∨ i * 9 + 9 ≤ k) → (u.setCells g (i * 9) vs).cell? ⟨g, k, none⟩ = u.cell? ⟨g, k, none⟩ := fun u k hk =>
    World.cell?_setCells_out g vs _ u ⟨g, k, none⟩ (fun _ _ => by show k < i * 9 ∨ i * 9 + vs.length ≤ k; omega)
  have B0 : ∀ (u : World) k, k < (i + 1) * 9 → (u.setCells g ((i + 1) * 9) (cs.drop (i * 9))).cell? ⟨g, k, none⟩ = u.cell? ⟨g, k, none⟩ := fun u k hk =>
    World.cell?_setCells_out g _ _ u ⟨g, k, none⟩ (fun _ _ => by show k < (i + 1) * 9 ∨ _ ≤ k; omega)
  have sA : ∀ j, j < (n + 1) * 9 → ((w.setCells g (i * 9) vs).cell? ⟨g, j, none⟩).isSome = true := fun k hk => isSome_setCells g vs _ w (fun t ht => hsp _ (by omega)) k (hsp k hk)
  have sB : ∀ j, j < (n + 1) * 9 → ((w.setCells g ((i + 1) * 9) (cs.drop (i * 9))).cell? ⟨g, j, none⟩).isSome = true := fun k hk => isSome_setCells g _ _ w (fun t ht => hsp _ (by omega)) k (hsp k hk)
  by_cases h1 : j < i * 9
  · have e : (cs.take (i * 9) ++ vs ++ cs.drop (i * 9))[j]? = cs[j]? := by
      rw [List.append_assoc, List.getElem?_append_left (by omega), List.getElem?_take, if_pos h1]
    rw [e, ← hh j h1]
    rcases hW with hW | hW
    · rw [hW, A0 _ j (.inl h1), B0 _ j (by omega)]
    · rw [hW, B0 _ j (by omega), A0 _ j (.inl h1)]
  · by_cases h2 : j < i * 9 + 9
    · have e : (cs.take (i * 9) ++ vs ++ cs.drop (i * 9))[j]? = vs[j - i * 9]? := by
        rw [List.append_assoc, List.getElem?_append_right (by omega), htl, List.getElem?_append_left (by omega)]
      rw [e]
      rcases hW with hW | hW
      · rw [hW, A _ sB j (by omega) h2]
      · rw [hW, B0 _ j (by omega), A _ hsp j (by omega) h2]
    · have e : (cs.take (i * 9) ++ vs ++ cs.drop (i * 9))[j]? = (cs.drop (i * 9))[j - (i + 1) * 9]? := by
        rw [List.getElem?_append_right (by rw [List.length_append]; omega), List.length_append, htl, hvl, show j - (i * 9 + 9) = j - (i + 1) * 9 by omega]
      rw [e]
      rcases hW with hW | hW
      · rw [hW, A0 _ j (.inr (by omega)), B _ hsp j (by omega) hj]
      · rw [hW, B _ sA j (by omega) hj]
end Go.Proofs.Ytblbphnmflbepaa

