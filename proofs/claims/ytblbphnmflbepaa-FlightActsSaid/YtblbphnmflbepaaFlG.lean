/- Flight: slices.Insert at a row that is owned. -/
import Derived.Test.YtblbphnmflbepaaFlF
namespace Go.Proofs.Ytblbphnmflbepaa
open Go.RowKit Go.Lib
set_option linter.unusedVariables false

theorem insert_any (base n i vb voff vc : Nat) (v : Value) (cs vs : List Value) (w : World) (vcur : Array Value) (tv : TypeId) (hbase : base ≤ w.heap.size)
    (hown : w.ownsRow base 36 9 v n cs) (hi : i ≤ n) (hbig : n ≤ 274877906944) (h1c : ∀ v ∈ cs, v.oneCell' = true) (hvl : vs.length = 9) (h1v : ∀ v ∈ vs, v.oneCell' = true)
    (hvb : w.heap[vb]? = some (.cells vcur tv (0, 0))) (hvs : ∀ j v, vs[j]? = some v → w.cell? ⟨vb, voff + j, none⟩ = some v) (hne : v.ownBlock ≠ some vb) :
    Calls Try.prog 28 #[v, .int .i64 i, .slice (some ⟨vb, voff, none⟩) 1 vc] w fun e w' =>
      ∃ v', e = .returned v' ∧ w'.ownsRow base 36 9 v' (n + 1) (cs.take (i * 9) ++ vs ++ cs.drop (i * 9)) ∧ w.grownBy w' v.ownBlock ∧ (v'.ownBlock = v.ownBlock ∨ v'.ownBlock = some w.heap.size) := by
  have hl : (cs.take (i * 9) ++ vs ++ cs.drop (i * 9)).length = (n + 1) * 9 := by
    have := hown.1
    simp only [List.length_append, List.length_take, List.length_drop]
    omega
  have hGl : ∀ c, grownCap w (n + 1) c 36 ≤ maxLen := fun c => grownCap_le_maxLen w (n + 1) c _ (by unfold maxLen; omega)
  have hend : ∀ (bs : Option Addr) (c : Nat), i = n → n ≤ c → c < n + 1 → (bs = none → n = 0) → (∀ a, bs = some a → ∀ j v, cs[j]? = some v → w.cell? (a.add j) = some v) →
      Calls Try.prog 28 #[.slice bs n c, .int .i64 i, .slice (some ⟨vb, voff, none⟩) 1 vc] w fun e w' =>
      ∃ v', e = .returned v' ∧ w'.ownsRow base 36 9 v' (n + 1) (cs.take (i * 9) ++ vs ++ cs.drop (i * 9)) ∧ w.grownBy w' v.ownBlock ∧ (v'.ownBlock = v.ownBlock ∨ v'.ownBlock = some w.heap.size) := by
    intro bs c hin hnc hroom hnil hcs
    subst hin
    refine (insert_end_grow bs i c vb voff vc cs vs w hnc hroom hbig hown.1 hvl hnil hcs hvs h1v).mono ?_
    rintro e w' ⟨zs, hz, rfl, rfl⟩
    have hG := grownCap_ge w (i + 1) c 36
    have hx : cs.take (i * 9) ++ vs ++ cs.drop (i * 9) = cs ++ vs := by
      rw [List.take_of_length_le (by rw [hown.1]; omega), List.drop_of_length_le (by rw [hown.1]; omega), List.append_nil]
    refine ⟨_, rfl, ?_, (grownBy_drew w _).trans (World.grownBy_alloc w.drew _ _), .inr rfl⟩
    have hb2 : (w.drew.alloc (.cells ((cs ++ vs).toArray ++ zs) 36)).heap[w.heap.size]? = some (.cells ((cs ++ vs).toArray ++ zs) 36 (0, 0)) := by
      show (w.heap.push _)[w.heap.size]? = _
      simp
    refine owns_of_cells hb2 hbase hG (hGl c) ?_ hl ?_
    · have := hown.1
      rw [Array.size_append, hz, List.size_toArray, List.length_append]
      omega
    · intro j hj
      have := hown.1
      rw [cell_row hb2, hx, Array.getElem?_append_left (by rw [List.size_toArray, List.length_append]; omega), List.getElem?_toArray]
  rcases hown.2 with ⟨rfl, hn0⟩ | ⟨g, cap, cur, rfl, hbg, hg, hnc, hcm, hcz, htk⟩
  · subst hn0
    exact hend none 0 (by omega) (by omega) (by omega) (fun _ => rfl) (fun a h => by cases h)
  · have hgv : vb ≠ g := fun h => hne (by rw [h]; rfl)
    have hcs : ∀ j v, cs[j]? = some v → w.cell? ⟨g, 0 + j, none⟩ = some v := fun j v h => by
      rw [Nat.zero_add, cell_row hg]
      rw [← htk, List.getElem?_take] at h
      split at h
      · rw [← h]; simp
      · cases h
    have hgl : g < w.heap.size := (Array.getElem?_eq_some_iff.1 hg).1
    have hc63 : cap ≤ 9223372036854775807 := by unfold maxLen at hcm; omega
    have hh : ∀ j, j < i * 9 → w.cell? ⟨g, j, none⟩ = cs[j]? := fun j hj => by
      have := hown.1
      have h := hcs j _ (List.getElem?_eq_getElem (by omega))
      rw [Nat.zero_add] at h
      rw [h, List.getElem?_eq_getElem]
    by_cases hroom : n + 1 ≤ cap
    · have hsp : ∀ j, j < (n + 1) * 9 → (w.cell? ⟨g, j, none⟩).isSome = true := fun j hj => by
        rw [cell_row hg, Array.getElem?_eq_getElem (by omega)]; rfl
      by_cases hin : i = n
      · subst hin
        have hd0 : cs.drop (i * 9) = [] := List.drop_of_length_le (by rw [hown.1]; omega)
        refine (insert_end_room g 0 i cap vb voff vc vs w hroom hc63 hvl (fun j hj => by rw [Nat.zero_add]; exact hsp _ (by omega)) (fun j hj => frozen_row hg _) hvs h1v).mono ?_
        rintro e w' ⟨rfl, rfl⟩
        obtain ⟨c2, h2, hz2, hgr⟩ := setCells_row vs (0 + i * 9) w cur hg
        refine ⟨_, rfl, ?_, hgr, .inl rfl⟩
        refine owns_of_cells h2 hbg hroom hcm (by rw [hz2, hcz]) hl ?_
        refine inserted_cells (Nat.le_refl _) hown.1 hvl hsp hh _ (.inr fun x => ?_)
        rw [hd0, Nat.zero_add]
        rfl
      · refine (insert_shift g 0 n cap i vb voff vc cs vs w (by omega) hroom hc63 hgv hown.1 hvl hcs (fun j hj => by rw [Nat.zero_add]; exact hsp j hj) (fun j _ => frozen_row hg _) hvs h1c h1v tv 36 vcur.size cur.size
          (by simp [World.shape?, hvb]) (by simp [World.shape?, hg]) (by omega) (frozen_row hvb _) (frozen_row hvb _)).mono ?_
        rintro e w' ⟨rfl, rfl⟩
        obtain ⟨c1, h1, hz1, hg1⟩ := setCells_row (cs.drop (i * 9)) (0 + (i + 1) * 9) w.drew cur hg
        obtain ⟨c2, h2, hz2, hg2⟩ := setCells_row vs (0 + i * 9) _ c1 h1
        refine ⟨_, rfl, ?_, ((grownBy_drew w _).trans hg1).trans hg2, .inl rfl⟩
        refine owns_of_cells h2 hbg hroom hcm (by rw [hz2, hz1, hcz]) hl ?_
        refine inserted_cells hi hown.1 hvl (w := w.drew) hsp hh _ (.inl fun x => ?_)
        rw [Nat.zero_add, Nat.zero_add]
    · by_cases hin : i = n
      · exact hend (some ⟨g, 0, none⟩) cap hin hnc (by omega) (fun h => by cases h) (fun a h j v hv => by
          cases h
          rw [Addr.add_lit]
          exact hcs j v hv)
      · refine (insert_grow g 0 n cap i vb voff vc cs vs w (by omega) hnc (by omega) hbig hown.1 hvl hcs hvs h1c h1v).mono ?_
        rintro e w' ⟨ROW, hRs, hRt, rfl, rfl⟩
        have hG := grownCap_ge w (n + 1) cap 36
        generalize hGG : grownCap w (n + 1) cap 36 = G at *
        have hb1 : ((w.alloc (.cells ROW 36)).drew).heap[w.heap.size]? = some (.cells ROW 36 (0, 0)) := by
          show (w.heap.push _)[w.heap.size]? = _
          simp
        obtain ⟨c1, h1, hz1, hg1⟩ := setCells_row vs (i * 9) _ ROW hb1
        obtain ⟨c2, h2, hz2, hg2⟩ := setCells_row (cs.drop (i * 9)) ((i + 1) * 9) (((w.alloc (.cells ROW 36)).drew.setCells w.heap.size (i * 9) vs).drew) c1 h1
        have hgA : w.grownBy (w.alloc (.cells ROW 36)).drew none := (World.grownBy_alloc w _ none).trans (grownBy_drew _ _)
        have hgB := (hgA.andThen hg1 (fun j h => .inl (by cases h; exact Nat.le_refl _))).trans (grownBy_drew _ _)
        have hgC := hgB.andThen hg2 (fun j h => .inl (by cases h; exact Nat.le_refl _))
        refine ⟨_, rfl, ?_, hgC.but _, .inr rfl⟩
        refine owns_of_cells h2 hbase hG (by rw [← hGG]; exact hGl cap) (by rw [hz2, hz1, hRs]) hl ?_
        refine inserted_cells hi hown.1 hvl (w := (w.alloc (.cells ROW 36)).drew) (fun j hj => by rw [cell_row hb1, Array.getElem?_eq_getElem (by omega)]; rfl) (fun j hj => ?_) _ (.inr fun x => ?_)
        · rw [cell_row hb1]
          have e1 : ROW.toList[j]? = (ROW.toList.take (i * 9))[j]? := by rw [List.getElem?_take, if_pos hj]
          have e2 : cs[j]? = (cs.take (i * 9))[j]? := by rw [List.getElem?_take, if_pos hj]
          rw [e2, ← hRt, ← e1]
          simp
        · rw [← drew_setCells]
          first | rfl | simp
end Go.Proofs.Ytblbphnmflbepaa

