/- Flight: the table's Drop. -/
import Derived.Test.YtblbphnmflbepaaFlJ
namespace Go.Proofs.Ytblbphnmflbepaa
open Go.RowKit Go.Lib
set_option linter.unusedVariables false

set_option maxHeartbeats 4000000 in
set_option maxRecDepth 100000 in
theorem Drop_any (base b : Nat) (most : Int) (l : List Sn) (t : Int) (w : World) (hT : IsTab base b most l w) (hup : JobsUp l) (hn : l.length ≤ 274877906944) (hbase : base ≤ w.heap.size) :
    Calls Try.prog 13 #[.pointer (some ⟨b, 0, none⟩), .int .i64 t] w fun e w' =>
      e = .returned (.tuple #[snV (dropN l t).2.1, .int .i64 (dropN l t).2.2]) ∧ IsTab base b most (dropN l t).1 w' ∧ Below base w w' ∧ KeepsT b w w' := by
  have hof := fun W h => Of_any base b most l t W (hT.below h) hup (by omega)
  have hc := fun W h => place_any base b most l t W (hT.below h) hup (by omega)
  have hT0 := hT
  obtain ⟨hbb, v, hb, ho⟩ := hT
  obtain ⟨a, cap, rfl, hnc, hcm⟩ := (SlC.of_owns ho).slice
  have hbl := (Array.getElem?_eq_some_iff.1 hb).1
  obtain ⟨k, hk⟩ : ∃ k, k = posN l t := ⟨_, rfl⟩
  have hb1 : Below w.heap.size w (w.alloc (.cells (snA s0) 36)) := (Below.refl _ w).alloc (Nat.le_refl _) _
  rw [← hk] at hc
  cases hh : hasN l t with
  | false =>
    have hr : Hid (dropN l t = (l, s0, 5)) := Go.Lib.hid (by unfold dropN; rw [hh]; rfl)
    have hro : ofN l t = (s0, false) := by unfold ofN; rw [hh]; rfl
    rw [hro] at hof
    have HOF := Go.Lib.hid hof
    have HT0 := Go.Lib.hid hT0
    clear hof hT0
    clear hc hb ho hup hk
    go_enter Try.func13, Try.ntmps13
    go_wp2_with fail
    refine (HOF.out _ hb1).mono ?_; rintro e wb ⟨rfl, hx⟩
    have hb2 := hb1.trans (hx.mono (by simp))
    have hwz : w.heap.size < wb.heap.size := by have := hx.size; simp at this; omega
    have hbox : wb.heap[w.heap.size]? = some (.cells (snA s0) 36 (0, 0)) := (hx.block _ (by simp)).trans (heap_alloc_new _ _)
    have hbox2 : (wb.alloc (.cells (snA s0) 36)).heap[w.heap.size]? = some (.cells (snA s0) 36 (0, 0)) := by
      rw [Lib.alloc_old wb _ _ hwz]; exact hbox
    have HB2 := Go.Lib.hid hb2
    have HBX := Go.Lib.hid hbox2
    clear hb2 hbox2
    obtain ⟨X, hX⟩ : ∃ X, wb.alloc (.cells #[.int .i64 s0.job, .int .i64 s0.id, .int .i64 s0.port, .string (mk s0.sn), .int .i64 s0.sa, .string (mk s0.qn), .int .i64 s0.qt, .int .i64 s0.qc, .string (mk s0.zone)] 36) = X := ⟨_, rfl⟩
    have hX2 : Hid (X = wb.alloc (.cells (snA s0) 36)) := Go.Lib.hid hX.symm
    have hbX : X.heap[w.heap.size]? = some (.cells (snA s0) 36 (0, 0)) := by rw [hX2.out]; exact HBX.out
    have hfr : ∀ i, X.frozen? ⟨w.heap.size, i, none⟩ = false := frozen_row hbX
    obtain ⟨b0, b1, b2, b3, b4, b5, b6, b7, b8⟩ := SnBlk.of_heap hbX
    obtain ⟨d0, d1, d2, d3, d4, d5, d6, d7, d8⟩ := SnBlk.of_heap (w := X) (b := wb.heap.size) (s := s0) (T := 36) (fr := (0, 0)) (by rw [hX2.out]; exact heap_alloc_new _ _)
    have HBXX := Go.Lib.hid hbX
    clear hbX
    clear hx hbox
    go_wp2_with fail
    refine ret_sn2 (w := X) (s := s0) (s1 := s0) (g := w.heap.size) (y := .int .i64 5) rfl rfl rfl rfl HBXX.out ⟨by rw [hr.out], ?_, ?_, ?_⟩
    all_goals rw [hX2.out]
    · rw [hr.out]
      exact HT0.out.below (below_row (HB2.out.alloc (Nat.le_of_lt hwz) _) (Nat.le_refl _) _)
    · exact below_row ((HB2.out.alloc (Nat.le_of_lt hwz) _).mono hbase) hbase _
    · exact KeepsT.below hbl (below_row (HB2.out.alloc (Nat.le_of_lt hwz) _) (Nat.le_refl _) _)
  | true =>
    have hkl : k < l.length := by rw [hk]; exact posN_lt hh
    have hr : Hid (dropN l t = (l.take k ++ l.drop (k + 1), l.getD k s0, 0)) := Go.Lib.hid (by unfold dropN; rw [hh, hk]; rfl)
    have hro : ofN l t = (l.getD k s0, true) := by unfold ofN; rw [hh, hk]; rfl
    rw [hro] at hof
    rw [hh] at hc
    generalize l.getD k s0 = s at *
    have hgb : (Value.slice a l.length cap).ownBlock ≠ some b := own_ne ho hb tab_ne
    have hgz : (Value.slice a l.length cap).ownBlock ≠ some w.heap.size := by
      rcases ho.2 with ⟨h, _⟩ | ⟨g, _, _, h, _, hg, _⟩
      · rw [h]; exact fun e => by cases e
      · rw [h]
        have := (Array.getElem?_eq_some_iff.1 hg).1
        simp only [Value.ownBlock, ne_eq, Option.some.injEq]
        omega
    have w1 : IntKind.i64.wrap ((k : Int) + 1) = (k : Int) + 1 := wrapi (by omega) (by omega)
    have HOF := Go.Lib.hid hof
    have HC := Go.Lib.hid hc
    have HO := Go.Lib.hid ho
    have HB := Go.Lib.hid hb
    have HGB := Go.Lib.hid hgb
    have HGZ := Go.Lib.hid hgz
    clear hof hc ho hb hgb hgz
    clear hT0 hup hk hh hro
    go_enter Try.func13, Try.ntmps13
    go_wp2_with fail
    refine (HOF.out _ hb1).mono ?_; rintro e wb ⟨rfl, hx⟩
    have hb2 := hb1.trans (hx.mono (by simp))
    have hwz : w.heap.size < wb.heap.size := by have := hx.size; simp at this; omega
    have hbox : wb.heap[w.heap.size]? = some (.cells (snA s0) 36 (0, 0)) := (hx.block _ (by simp)).trans (heap_alloc_new _ _)
    have hb2a := hb2.alloc (Nat.le_of_lt hwz) (.cells (snA s) 36)
    have HB2 := Go.Lib.hid hb2
    have HBX := Go.Lib.hid hbox
    have HB2A := Go.Lib.hid hb2a
    clear hb2 hbox hb2a
    clear hx
    go_wp2_with fail
    refine (HC.out _ HB2A.out).mono ?_; rintro e wc ⟨rfl, hx⟩
    have hb3 := HB2A.out.trans (hx.mono (by simp; omega))
    have hwz2 : wb.heap.size < wc.heap.size := by have := hx.size; simp at this; omega
    have hbx : wc.heap[w.heap.size]? = some (.cells (snA s0) 36 (0, 0)) := by
      rw [hx.block _ (by simp; omega), Lib.alloc_old wb _ _ hwz]; exact HBX.out
    have hby : wc.heap[wb.heap.size]? = some (.cells (snA s) 36 (0, 0)) := (hx.block _ (by simp)).trans (heap_alloc_new _ _)
    have hbt : wc.heap[b]? = _ := (hb3.block b hbl).trans HB.out
    have x1 : wc.cell? ⟨b, 1, none⟩ = some (.slice a l.length cap) := by simp [World.cell?, hbt]
    have ho3 := owns_below HO.out hb3
    have hgy : (Value.slice a l.length cap).ownBlock ≠ some wb.heap.size := by
      rcases HO.out.2 with ⟨h, _⟩ | ⟨g, _, _, h, _, hg, _⟩
      · rw [h]; exact fun e => by cases e
      · rw [h]
        have := (Array.getElem?_eq_some_iff.1 hg).1
        simp only [Value.ownBlock, ne_eq, Option.some.injEq]
        omega
    have hdel := delete_any base l.length k (.slice a l.length cap) (encN l) wc ho3 hkl (encN_one l)
    have HB3 := Go.Lib.hid hb3
    have HBX2 := Go.Lib.hid hbx
    have HBY := Go.Lib.hid hby
    have HBT := Go.Lib.hid hbt
    have HO3 := Go.Lib.hid ho3
    have HGY := Go.Lib.hid hgy
    have HDEL := Go.Lib.hid hdel
    clear hb3 hbx hby hbt ho3 hgy hdel
    clear hx HBX
    go_wp2_with fail
    refine HDEL.out.mono ?_; rintro e wd ⟨v', rfl, hod, hgd, hvv⟩
    obtain ⟨a', cap', rfl, _, _⟩ := (SlC.of_owns hod).slice
    have hzd := hgd.size
    have hnew : (Value.slice a' (l.length - 1) cap').ownBlock ≠ some w.heap.size := by rw [hvv]; exact HGZ.out
    have HNEW := Go.Lib.hid hnew
    have HVV := Go.Lib.hid hvv
    clear hnew hvv
    have dbt : wd.heap[b]? = _ := (hgd.block b (by have := HB3.out.size; omega) (fun e => HGB.out e.symm)).trans HBT.out
    have dbx : wd.heap[w.heap.size]? = _ := (hgd.block _ (by omega) (fun e => HGZ.out e.symm)).trans HBX2.out
    have dby : wd.heap[wb.heap.size]? = _ := (hgd.block _ (by omega) (fun e => HGY.out e.symm)).trans HBY.out
    have y1 : wd.cell? ⟨b, 1, none⟩ = some (.slice a l.length cap) := by simp [World.cell?, dbt]
    have y2 : wd.frozen? ⟨b, 1, none⟩ = false := by simp [World.frozen?, dbt]
    have hset : wd.setCell ⟨b, 1, none⟩ (.slice a' (l.length - 1) cap') = wd.setRow b #[.int .i64 most, .slice a' (l.length - 1) cap'] := setCell_eq_setRow wd b 1 _ _ (0, 0) _ dbt
    have hbw : b ≠ w.heap.size := by omega
    have hbw2 : b ≠ wb.heap.size := by omega
    have hfx : (wd.setCell ⟨b, 1, none⟩ (.slice a' (l.length - 1) cap')).heap[w.heap.size]? = some (.cells (snA s0) 36 (0, 0)) := by rw [hset, setRow_other _ _ _ _ (Ne.symm hbw)]; exact dbx
    have hfy : (wd.setCell ⟨b, 1, none⟩ (.slice a' (l.length - 1) cap')).heap[wb.heap.size]? = some (.cells (snA s) 36 (0, 0)) := by rw [hset, setRow_other _ _ _ _ (Ne.symm hbw2)]; exact dby
    have hft : (wd.setCell ⟨b, 1, none⟩ (.slice a' (l.length - 1) cap')).heap[b]? = some (.cells #[.int .i64 most, .slice a' (l.length - 1) cap'] 74 (0, 0)) := by rw [hset]; exact heap_row dbt
    have hvb : (Value.slice a' (l.length - 1) cap').ownBlock ≠ some b := own_ne hod dbt tab_ne
    obtain ⟨e0, e1, e2, e3, e4, e5, e6, e7, e8⟩ := SnBlk.of_heap hfy
    have hown : (wd.setCell ⟨b, 1, none⟩ (.slice a' (l.length - 1) cap')).ownsRow base 36 9 (.slice a' (l.length - 1) cap') (l.length - 1) (encN (l.take k ++ l.drop (k + 1))) := by
      rw [encN_append, encN_take, encN_drop]
      refine World.ownsRow.kept hod (w' := wd.setCell ⟨b, 1, none⟩ (.slice a' (l.length - 1) cap')) (row := some b) ⟨rfl, rfl, rfl, by rw [hset, setRow_size]; exact Nat.le_refl _, fun k hk hne => by rw [hset, setRow_other _ _ _ _ (fun e => hne (by rw [e]))]⟩ ?_
      first | exact .inr (fun e => hvb e) | exact hvb | exact fun e => hvb e.symm
    have hbelow : Below base w (wd.setCell ⟨b, 1, none⟩ (.slice a' (l.length - 1) cap')) := ((HB3.out.mono hbase).grown hgd (by have := HB3.out.size; omega) (fun k hk => by
      rcases HO.out.2 with ⟨h, _⟩ | ⟨g, _, _, h, hbg, _⟩
      · rw [h] at hk; cases hk
      · rw [h] at hk; simp only [Value.ownBlock, Option.some.injEq] at hk; omega)).setCell (p := ⟨b, 1, none⟩) hbb _
    have hkeep : KeepsT b w (wd.setCell ⟨b, 1, none⟩ (.slice a' (l.length - 1) cap')) := KeepsT.act hbl HB3.out HBT.out hgd HGB.out (.inl HVV.out)
    have HFX := Go.Lib.hid hfx
    have HFY := Go.Lib.hid hfy
    have HFT := Go.Lib.hid hft
    have HOWN := Go.Lib.hid hown
    have HBEL := Go.Lib.hid hbelow
    have HKEEP := Go.Lib.hid hkeep
    clear hfx hfy hft hown hbelow hkeep
    clear hset dbt dbx dby hod hgd hvb
    have hfr : ∀ i, (wd.setCell ⟨b, 1, none⟩ (.slice a' (l.length - 1) cap')).frozen? ⟨w.heap.size, i, none⟩ = false := frozen_row HFX.out
    obtain ⟨b0, b1, b2, b3, b4, b5, b6, b7, b8⟩ := SnBlk.of_heap HFX.out
    go_wp2_with fail
    refine ret_sn2 (w := wd.setCell ⟨b, 1, none⟩ (.slice a' (l.length - 1) cap')) (s := s) (s1 := s0) (g := w.heap.size) (y := .int .i64 0) rfl rfl rfl rfl HFX.out ⟨by rw [hr.out], ?_, ?_, ?_⟩
    · rw [hr.out]
      have hlen : (l.take k ++ l.drop (k + 1)).length = l.length - 1 := by simp; omega
      refine ⟨hbb, _, by rw [setRow_other _ _ _ _ hbw]; exact HFT.out, ?_⟩
      rw [hlen]
      refine World.ownsRow.kept HOWN.out (row := some w.heap.size) ⟨rfl, rfl, rfl, by rw [setRow_size]; exact Nat.le_refl _, fun k hk hne => by rw [setRow_other _ _ _ _ (fun e => hne (by rw [e]))]⟩ ?_
      first | exact .inr (fun e => HNEW.out e) | exact HNEW.out | exact fun e => HNEW.out e.symm
    · exact below_row HBEL.out hbase _
    · exact HKEEP.out.setRow hbl (Nat.le_refl _) _
end Go.Proofs.Ytblbphnmflbepaa

