/- Flight: the reference's table: Add. -/
import Derived.Test.YtblbphnmflbepaaFlT
namespace Go.Proofs.Ytblbphnmflbepaa
open Go.RowKit Go.Lib
set_option linter.unusedVariables false

theorem pos_found {l : List Sn} {t : Int} {k : Nat} (hup : JobsUp l) (hk : k ≤ l.length) (hlo : ∀ a, a < k → jobAt l a < t) (hhi : k < l.length → t ≤ jobAt l k) : posN l t = k :=
  (pos_eq l t k ⟨hk, hlo, fun b h1 h2 => by
    rcases Nat.lt_or_ge k b with h | h
    · exact Int.le_of_lt (Int.lt_of_le_of_lt (hhi (by omega)) (hup k b h h2))
    · obtain rfl : k = b := by omega
      exact hhi h2⟩).symm
/-- what the walk of Add knows at a place -/
structure AddAt (c : Nat) (most : Int) (v : Value) (rb : Nat) (s : Sn) (W : World) : Prop where
  c0 : W.cell? ⟨c, 0, none⟩ = some (.int .i64 most)
  c1 : W.cell? ⟨c, 1, none⟩ = some v
  bx : SnBlk W rb s
set_option maxHeartbeats 8000000 in
set_option maxRecDepth 100000 in
theorem refAdd_any (base c : Nat) (most : Int) (l : List Sn) (s : Sn) (w : World) (hR : IsRef base c most l w) (hup : JobsUp l) (hn : l.length ≤ 100000) (hbase : base ≤ w.heap.size) :
    Calls Try.prog 11 #[.pointer (some ⟨c, 0, none⟩), snV s] w fun e w' =>
      e = .returned (.int .i64 (addN most l s).2) ∧ IsRef base c most (addN most l s).1 w' ∧ Below base w w' ∧ KeepsC c w w' := by
  have mixed : Try.prog.follows .mixedOrders = true := by kernel_rfl
  have hRl := hR.lt
  have hR0 := hR
  obtain ⟨hcb, v, hc, ho⟩ := hR
  obtain ⟨X, hX⟩ : ∃ X, w.alloc (.cells #[.int .i64 s.job, .int .i64 s.id, .int .i64 s.port, .string (mk s.sn), .int .i64 s.sa, .string (mk s.qn), .int .i64 s.qt, .int .i64 s.qc, .string (mk s.zone)] 46) = X := ⟨_, rfl⟩
  have hwX : Below w.heap.size w X := by rw [← hX]; exact (Below.refl _ _).alloc (Nat.le_refl _) _
  have hbox : X.heap[w.heap.size]? = some (.cells (snA s) 46 (0, 0)) := by rw [← hX]; exact heap_alloc_new _ _
  have hoX := owns_below ho hwX
  have hs := SlC.of_owns hoX
  obtain ⟨a, cap, rfl, hnc, hcm⟩ := hs.slice
  have hcX : X.heap[c]? = some (.cells #[.int .i64 most, .slice a l.length cap] 30 (0, 0)) := (hwX.block c hRl).trans hc
  generalize hN : l.length = N at *
  have HS := Go.Lib.hid hs
  have HN := Go.Lib.hid hN
  have HUP := Go.Lib.hid hup
  have HWX := Go.Lib.hid hwX
  have HBOX := Go.Lib.hid hbox
  have HOX := Go.Lib.hid hoX
  have HCX := Go.Lib.hid hcX
  have HR0 := Go.Lib.hid hR0
  clear hs hN hup hwX hbox hoX hcX hR0
  clear ho hc
  go_enter Try.func11, Try.ntmps11
  go_wp2_with fail
  clear hX
  go_loopw [5] (fun i wr => ∃ k : Nat, i = .int .i64 k ∧ k ≤ N ∧ (∀ a, a < k → jobAt l a < s.job) ∧ Below X.heap.size X wr) (fun i _ => N - (RowKit.intOf i).toNat)
  case atStart => exact ⟨0, rfl, Nat.zero_le _, fun a h => by omega, Below.refl _ _⟩
  case round =>
    obtain ⟨k, rfl, hk, hno, hbr⟩ := hrel
    have hcr : wr.heap[c]? = some (.cells #[.int .i64 most, .slice a N cap] 30 (0, 0)) := (hbr.block c (Array.getElem?_eq_some_iff.1 HCX.out).1).trans HCX.out
    have hbxr := (hbr.block _ (Array.getElem?_eq_some_iff.1 HBOX.out).1).trans HBOX.out
    have lc := (Array.getElem?_eq_some_iff.1 hcr).1
    have lb := (Array.getElem?_eq_some_iff.1 hbxr).1
    obtain ⟨d0, d1, d2, d3, d4, d5, d6, d7, d8⟩ := SnBlk.of_heap hbxr
    have y0 := BelowC.cell (W := wr) d0 lb
    have y1 := BelowC.cell (W := wr) d1 lb
    have y2 := BelowC.cell (W := wr) d2 lb
    have y3 := BelowC.cell (W := wr) d3 lb
    have y4 := BelowC.cell (W := wr) d4 lb
    have y5 := BelowC.cell (W := wr) d5 lb
    have y6 := BelowC.cell (W := wr) d6 lb
    have y7 := BelowC.cell (W := wr) d7 lb
    have y8 := BelowC.cell (W := wr) d8 lb
    have x0 := BelowC.cell (W := wr) (show wr.cell? ⟨c, 0, none⟩ = some (.int .i64 most) by simp [World.cell?, hcr]) lc
    have x1 := BelowC.cell (W := wr) (show wr.cell? ⟨c, 1, none⟩ = some (.slice a N cap) by simp [World.cell?, hcr]) lc
    have hne : Nonempty (Subtype (Below wr.heap.size wr)) := ⟨⟨wr, Below.refl _ _⟩⟩
    have HNO := Go.Lib.hid hno
    have HB := Go.Lib.hid hbr
    have HCR := Go.Lib.hid hcr
    have HBXR := Go.Lib.hid hbxr
    clear hno hbr hcr hbxr
    clear d0 d1 d2 d3 d4 d5 d6 d7 d8
    by_cases hlt : k < N
    · obtain ⟨g, off, rfl, hgw, hcell⟩ := Sns.at (by unfold Sns; rw [HN.out]; exact HS.out.below HB.out (Nat.le_refl _) : Sns wr (.slice a N cap) l) (by rw [HN.out]; omega)
      have hat := hcell k (by rw [HN.out]; exact hlt)
      have hje := jobAt_eq l k
      have e0 := BelowC.cell (W := wr) (hat.box).e0 hgw
      have HJE := Go.Lib.hid hje
      clear hje
      clear hcell hat
      generalize (l.getD k s0).job = jb at *
      by_cases hj : jb < s.job
      · go_wp2_with fail
        refine Go.Mix.wp_region_mixT (Es := []) 19 (Below wr.heap.size wr) mixed (by kernel_rfl) (Below.refl _ _).drew ?_
        iterate 19 (refine Go.Mix.mixT_step rfl (fun K hK => ?_); have HKK := Go.Lib.hid hK; clear hK; go_simp; refine HKK.out _ _ ?_; clear HKK K)
        refine Go.Mix.mixT_last rfl (fun K hK => ?_)
        have HKK := Go.Lib.hid hK
        clear hK
        go_simp
        refine HKK.out _ _ ?_
        clear HKK K
        go_wp2_with fail
        go_roundw
        case rel =>
          refine ⟨k + 1, by go_num, by omega, fun a ha => ?_, HB.out.drew⟩
          rcases Nat.lt_or_ge a k with h | h
          · exact HNO.out a h
          · obtain rfl : a = k := by omega
            rw [HJE.out]; exact hj
        case measure => simp [RowKit.intOf]; omega
      · by_cases hj2 : jb = s.job
        · obtain ⟨hp, hh⟩ := srch_hit (t := s.job) HUP.out (by rw [HN.out]; exact hlt) (HJE.out.trans hj2)
          have hr : Hid (addN most l s = (l.set k s, 0)) := Go.Lib.hid (by unfold addN; rw [hh, hp]; rfl)
          have hj3 : (jb == s.job) = true := beq_iff_eq.2 hj2
          clear hp hh hj2
          go_wp2_with fail
          refine Go.Mix.wp_region_mixT (Es := []) 19 (Below wr.heap.size wr) mixed (by kernel_rfl) (Below.refl _ _).drew ?_
          iterate 19 (refine Go.Mix.mixT_step rfl (fun K hK => ?_); have HKK := Go.Lib.hid hK; clear hK; go_simp; refine HKK.out _ _ ?_; clear HKK K)
          refine Go.Mix.mixT_last rfl (fun K hK => ?_)
          have HKK := Go.Lib.hid hK
          clear hK
          go_simp
          refine HKK.out _ _ ?_
          clear HKK K
          go_wp2_with fail
          refine Go.Mix.wp_region_mixT (Es := []) 19 (Below wr.heap.size wr) mixed (by kernel_rfl) (Below.refl _ _).drew.drew ?_
          iterate 19 (refine Go.Mix.mixT_step rfl (fun K hK => ?_); have HKK := Go.Lib.hid hK; clear hK; go_simp; refine HKK.out _ _ ?_; clear HKK K)
          refine Go.Mix.mixT_last rfl (fun K hK => ?_)
          have HKK := Go.Lib.hid hK
          clear hK
          go_simp
          refine HKK.out _ _ ?_
          clear HKK K
          have hSY := HS.out.below HB.out (Nat.le_refl _)
          obtain ⟨Y, hY⟩ : ∃ Y, Y = wr.drew.drew := ⟨_, rfl⟩
          have hwY : Below wr.heap.size wr Y := by rw [hY]; exact (Below.refl _ _).drew.drew
          have hYs : Y.heap.size = wr.heap.size := by rw [hY]; rfl
          have hcY : Y.heap[c]? = some (.cells #[.int .i64 most, .slice (some ⟨g, off, none⟩) N cap] 30 (0, 0)) := by rw [hY]; exact HCR.out
          have hbY : Y.heap[w.heap.size]? = some (.cells (snA s) 46 (0, 0)) := by rw [hY]; exact HBXR.out
          have hsY := hSY.below hwY (Nat.le_refl _)
          have hlen := HN.out
          rw [← hY]
          have xc1 : Y.cell? ⟨c, 1, none⟩ = some (.slice (some ⟨g, off, none⟩) N cap) := by simp [World.cell?, hcY]
          have xf1 : Y.frozen? ⟨c, 1, none⟩ = false := frozen_row hcY _
          have hlY := (Array.getElem?_eq_some_iff.1 hcY).1
          obtain ⟨Z0, hZ0⟩ : ∃ Z0, Y.alloc (.cells #[] 46) = Z0 := ⟨_, rfl⟩
          have hwZ : Below Y.heap.size Y Z0 := by rw [← hZ0]; exact (Below.refl _ _).alloc (Nat.le_refl _) _
          have hown0 : Z0.ownsRow Y.heap.size 46 9 (.slice (some ⟨Y.heap.size, 0, none⟩) 0 0) 0 [] := by rw [← hZ0]; exact World.ownsRow_made Y #[] 0 (Nat.le_refl _) (Nat.zero_le _) rfl
          have hcZ : Z0.heap[c]? = some (.cells #[.int .i64 most, .slice (some ⟨g, off, none⟩) N cap] 30 (0, 0)) := (hwZ.block c hlY).trans hcY
          have zc1 : Z0.cell? ⟨c, 1, none⟩ = some (.slice (some ⟨g, off, none⟩) N cap) := by simp [World.cell?, hcZ]
          have hsZ := hsY.below hwZ (Nat.le_refl _)
          have hone := encN_one l
          have HWY := Go.Lib.hid hwY
          have HYS := Go.Lib.hid hYs
          have HCY := Go.Lib.hid hcY
          have HBY := Go.Lib.hid hbY
          have HSZ := Go.Lib.hid hsZ
          have HLEN := Go.Lib.hid hlen
          have HWZ := Go.Lib.hid hwZ
          have HOWN0 := Go.Lib.hid hown0
          have HCZ := Go.Lib.hid hcZ
          have HONE := Go.Lib.hid hone
          clear hwY hYs hcY hbY hsZ hlen hwZ hown0 hcZ hone
          clear hSY hY x0 x1 y0 y1 y2 y3 y4 y5 y6 y7 y8 hne e0 xc1 xf1 hsY
          go_wp2_with (at_builtin; refine wpList_app eiRS _ _ rfl rfl Y.heap.size (v := .slice (some ⟨Y.heap.size, 0, none⟩) 0 0) (src := .slice (some ⟨g, off, none⟩) N cap) rfl rfl HOWN0.out HSZ.out HONE.out (by unfold maxLen; omega) (by omega) HWZ.out.size ?_)
          intro v1 Z1 hown1 hg1
          have hb1 : Below Y.heap.size Y Z1 := HWZ.out.grown hg1 HWZ.out.size (fun q hq => by simp only [Value.ownBlock, Option.some.injEq] at hq; omega)
          rcases hown1.2 with ⟨_, hn0⟩ | ⟨g1, cap1, cur1, rfl, hbg1, hg1h, hnc1, hcm1, hcz1, htk1⟩
          · omega
          have hc1 : Z1.heap[c]? = some (.cells #[.int .i64 most, .slice (some ⟨g, off, none⟩) N cap] 30 (0, 0)) := (hb1.block c hlY).trans HCY.out
          have u1 : Z1.cell? ⟨c, 1, none⟩ = some (.slice (some ⟨g, off, none⟩) N cap) := by simp [World.cell?, hc1]
          have u2 : Z1.frozen? ⟨c, 1, none⟩ = false := frozen_row hc1 _
          have hset : Z1.setCell ⟨c, 1, none⟩ (.slice (some ⟨g1, 0, none⟩) N cap1) = Z1.setRow c #[.int .i64 most, .slice (some ⟨g1, 0, none⟩) N cap1] := setCell_eq_setRow Z1 c 1 _ _ (0, 0) _ hc1
          obtain ⟨Z2, hZ2⟩ : ∃ Z2, Z1.setCell ⟨c, 1, none⟩ (.slice (some ⟨g1, 0, none⟩) N cap1) = Z2 := ⟨_, rfl⟩
          rw [hZ2] at hset
          have hc2 : Z2.heap[c]? = some (.cells #[.int .i64 most, .slice (some ⟨g1, 0, none⟩) N cap1] 30 (0, 0)) := by rw [hset]; exact heap_row hc1
          have hbx2 : Z2.heap[w.heap.size]? = some (.cells (snA s) 46 (0, 0)) := by
            rw [hset, setRow_other _ _ _ _ (by omega), hb1.block _ (Array.getElem?_eq_some_iff.1 HBY.out).1]
            exact HBY.out
          have hg2 : Z2.heap[g1]? = some (.cells cur1 46 (0, 0)) := by rw [hset, setRow_other _ _ _ _ (by omega)]; exact hg1h
          have hown2 : Z2.ownsRow Y.heap.size 46 9 (.slice (some ⟨g1, 0, none⟩) N cap1) N (encN l) := ⟨hown1.1, .inr ⟨g1, cap1, cur1, rfl, hbg1, hg2, hnc1, hcm1, hcz1, htk1⟩⟩
          obtain ⟨hown3, hgr3⟩ := owns_setE (s := s) (show Z2.drew.ownsRow Y.heap.size 46 9 (.slice (some ⟨g1, 0, none⟩) N cap1) N (encN l) from hown2) HLEN.out hlt
          have hsame : ∀ q, q < Y.heap.size → q ≠ c → Z2.heap[q]? = Y.heap[q]? := fun q hq hqc => by rw [hset, setRow_other _ _ _ _ hqc]; exact hb1.block q hq
          have hz2 : Y.heap.size ≤ Z2.heap.size := by rw [hset, setRow_size]; exact hb1.size
          have hb2 : Below base w Z2 := by
            rw [← hZ2]
            exact ((((HWX.out.trans (HB.out.mono HWX.out.size)).trans (HWY.out.mono (by have := HWX.out.size; have := HB.out.size; omega))).trans (hb1.mono (by have := HWX.out.size; have := HB.out.size; have := HWY.out.size; omega))).mono hbase).setCell (p := ⟨c, 1, none⟩) hcb _
          have lb2 := (Array.getElem?_eq_some_iff.1 hbx2).1
          obtain ⟨d0, d1, d2, d3, d4, d5, d6, d7, d8⟩ := SnBlk.of_heap hbx2
          have y0 := BelowC.cell (W := Z2) d0 lb2
          have y1 := BelowC.cell (W := Z2) d1 lb2
          have y2 := BelowC.cell (W := Z2) d2 lb2
          have y3 := BelowC.cell (W := Z2) d3 lb2
          have y4 := BelowC.cell (W := Z2) d4 lb2
          have y5 := BelowC.cell (W := Z2) d5 lb2
          have y6 := BelowC.cell (W := Z2) d6 lb2
          have y7 := BelowC.cell (W := Z2) d7 lb2
          have y8 := BelowC.cell (W := Z2) d8 lb2
          have x1 := BelowC.cell (W := Z2) (show Z2.cell? ⟨c, 1, none⟩ = some (.slice (some ⟨g1, 0, none⟩) N cap1) by simp [World.cell?, hc2]) (Array.getElem?_eq_some_iff.1 hc2).1
          have hne : Nonempty (Subtype (Below Z2.heap.size Z2)) := ⟨⟨Z2, Below.refl _ _⟩⟩
          have hsp : ∀ j, j < (snA s).size → (Z2.drew.cell? ⟨g1, k * 9 + j, none⟩).isSome = true := fun j hj => by
            have : (snA s).size = 9 := rfl
            have h2 : (k + 1) * 9 ≤ cap1 * 9 := Nat.mul_le_mul_right _ (by omega)
            show (Z2.cell? _).isSome = true
            rw [cell_row hg2, Array.getElem?_eq_getElem (by omega)]; rfl
          have hfz : ∀ j, j < (snA s).size → Z2.drew.frozen? ⟨g1, k * 9 + j, none⟩ = false := fun j hj => frozen_row hg2 _
          have hYw : w.heap.size ≤ Y.heap.size := by have := HWX.out.size; have := HB.out.size; have := HWY.out.size; omega
          have HC2 := Go.Lib.hid hc2
          have HBX2 := Go.Lib.hid hbx2
          have HG2 := Go.Lib.hid hg2
          have HOWN3 := Go.Lib.hid hown3
          have HGR3 := Go.Lib.hid hgr3
          have HSAME := Go.Lib.hid hsame
          have HZ2 := Go.Lib.hid hz2
          have HB2 := Go.Lib.hid hb2
          have HSP := Go.Lib.hid hsp
          have HFZ := Go.Lib.hid hfz
          have HYW := Go.Lib.hid hYw
          have HSET := Go.Lib.hid hset
          clear hc2 hbx2 hg2 hown3 hgr3 hsame hz2 hb2 hsp hfz hYw hset
          clear hown1 hown2 hg1h htk1 hc1 hb1 hg1 zc1 hZ0 d0 d1 d2 d3 d4 d5 d6 d7 d8
          go_wp2_with fail
          clear hZ2 u1 u2
          refine Go.Mix.wp_region_mixT (Es := []) 7 (Below Z2.heap.size Z2) mixed (by kernel_rfl) (Below.refl _ _).drew ?_
          iterate 7 (refine Go.Mix.mixT_step rfl (fun K hK => ?_); have HKK := Go.Lib.hid hK; clear hK; go_simp; refine HKK.out _ _ ?_; clear HKK K)
          refine mixT_store_cells 46 (.tmp 63) (.tmp 62) rfl rfl rfl g1 (k * 9) (snA s) rfl rfl rs_size HSP.out HFZ.out (snA_one s) ?_
          clear y0 y1 y2 y3 y4 y5 y6 y7 y8 x1 hne
          go_wp2_with fail
          go_ret
          rw [hr.out]
          have hbw : base ≤ Y.heap.size := by have := HYW.out; omega
          refine ⟨rfl, ⟨hcb, .slice (some ⟨g1, 0, none⟩) N cap1, ?_, ?_⟩, ?_, ?_, ?_⟩
          · show (Z2.drew.setCells g1 (k * 9) (snC s)).heap[c]? = _
            rw [HGR3.out.block c (by have := HZ2.out; show c < Z2.heap.size; omega) (fun e => by simp only [Option.some.injEq] at e; omega)]
            exact HC2.out
          · rw [List.length_set, HLEN.out]
            exact owns_base HOWN3.out hbw
          · exact HB2.out.drew.grown HGR3.out (by have := HZ2.out; show base ≤ Z2.heap.size; omega) (fun q hq => by simp only [Option.some.injEq] at hq; omega)
          · show w.heap.size ≤ (Z2.drew.setCells g1 (k * 9) (snC s)).heap.size
            have h1 := HGR3.out.size
            have h2 := HZ2.out
            have h3 := HYW.out
            have h4 : Z2.drew.heap.size = Z2.heap.size := rfl
            omega
          · intro q hq hqc
            have h1 := HZ2.out
            have h2 := HYW.out
            show (Z2.drew.setCells g1 (k * 9) (snC s)).heap[q]? = _
            rw [HGR3.out.block q (by show q < Z2.heap.size; omega) (fun e => by simp only [Option.some.injEq] at e; omega)]
            show Z2.heap[q]? = _
            rw [HSAME.out q (by omega) hqc, HWY.out.block q (by have := HWX.out.size; have := HB.out.size; omega), HB.out.block q (by have := HWX.out.size; omega), HWX.out.block q hq]
        · have hjn : s.job < jb := by omega
          have hp := pos_found (t := s.job) HUP.out (by rw [HN.out]; exact hk) HNO.out (fun _ => by rw [HJE.out]; omega)
          have hh : hasN l s.job = false := by unfold hasN; rw [hp]; exact decide_eq_false fun h => by rw [HJE.out] at h; exact hj2 h.2
          have hj3 : (jb == s.job) = false := beq_eq_false_iff_ne.2 hj2
          by_cases hm : most ≤ (N : Int)
          · have hr : Hid (addN most l s = (l, 4)) := Go.Lib.hid (by unfold addN; rw [hh, HN.out, if_pos hm]; rfl)
            clear hp hh hj2
            go_wp2_with fail
            refine Go.Mix.wp_region_mixT (Es := []) 19 (Below wr.heap.size wr) mixed (by kernel_rfl) (Below.refl _ _).drew ?_
            iterate 19 (refine Go.Mix.mixT_step rfl (fun K hK => ?_); have HKK := Go.Lib.hid hK; clear hK; go_simp; refine HKK.out _ _ ?_; clear HKK K)
            refine Go.Mix.mixT_last rfl (fun K hK => ?_)
            have HKK := Go.Lib.hid hK
            clear hK
            go_simp
            refine HKK.out _ _ ?_
            clear HKK K
            go_wp2_with fail
            refine Go.Mix.wp_region_mixT (Es := []) 19 (Below wr.heap.size wr) mixed (by kernel_rfl) (Below.refl _ _).drew.drew ?_
            iterate 19 (refine Go.Mix.mixT_step rfl (fun K hK => ?_); have HKK := Go.Lib.hid hK; clear hK; go_simp; refine HKK.out _ _ ?_; clear HKK K)
            refine Go.Mix.mixT_last rfl (fun K hK => ?_)
            have HKK := Go.Lib.hid hK
            clear hK
            go_simp
            refine HKK.out _ _ ?_
            clear HKK K
            go_wp2_with fail
            refine Go.Mix.wp_region_mixT (Es := []) 9 (Below wr.heap.size wr) mixed (by kernel_rfl) (Below.refl _ _).drew.drew.drew ?_
            iterate 9 (refine Go.Mix.mixT_step rfl (fun K hK => ?_); have HKK := Go.Lib.hid hK; clear hK; go_simp; refine HKK.out _ _ ?_; clear HKK K)
            refine Go.Mix.mixT_last rfl (fun K hK => ?_)
            have HKK := Go.Lib.hid hK
            clear hK
            go_simp
            refine HKK.out _ _ ?_
            clear HKK K
            have hbz := HWX.out.trans (HB.out.mono HWX.out.size)
            go_wp2_with fail
            go_ret
            rw [hr.out]
            exact ⟨rfl, HR0.out.below hbz.drew.drew.drew, (hbz.mono hbase).drew.drew.drew, KeepsC.below hbz.drew.drew.drew⟩
          · have hr : Hid (addN most l s = (l.take k ++ [s] ++ l.drop k, 0)) := Go.Lib.hid (by unfold addN; rw [hh, HN.out, if_neg hm, hp]; rfl)
            clear hp hh hj2
            go_wp2_with fail
            refine Go.Mix.wp_region_mixT (Es := []) 19 (Below wr.heap.size wr) mixed (by kernel_rfl) (Below.refl _ _).drew ?_
            iterate 19 (refine Go.Mix.mixT_step rfl (fun K hK => ?_); have HKK := Go.Lib.hid hK; clear hK; go_simp; refine HKK.out _ _ ?_; clear HKK K)
            refine Go.Mix.mixT_last rfl (fun K hK => ?_)
            have HKK := Go.Lib.hid hK
            clear hK
            go_simp
            refine HKK.out _ _ ?_
            clear HKK K
            go_wp2_with fail
            refine Go.Mix.wp_region_mixT (Es := []) 19 (Below wr.heap.size wr) mixed (by kernel_rfl) (Below.refl _ _).drew.drew ?_
            iterate 19 (refine Go.Mix.mixT_step rfl (fun K hK => ?_); have HKK := Go.Lib.hid hK; clear hK; go_simp; refine HKK.out _ _ ?_; clear HKK K)
            refine Go.Mix.mixT_last rfl (fun K hK => ?_)
            have HKK := Go.Lib.hid hK
            clear hK
            go_simp
            refine HKK.out _ _ ?_
            clear HKK K
            go_wp2_with fail
            refine Go.Mix.wp_region_mixT (Es := []) 9 (Below wr.heap.size wr) mixed (by kernel_rfl) (Below.refl _ _).drew.drew.drew ?_
            iterate 9 (refine Go.Mix.mixT_step rfl (fun K hK => ?_); have HKK := Go.Lib.hid hK; clear hK; go_simp; refine HKK.out _ _ ?_; clear HKK K)
            refine Go.Mix.mixT_last rfl (fun K hK => ?_)
            have HKK := Go.Lib.hid hK
            clear hK
            go_simp
            refine HKK.out _ _ ?_
            clear HKK K
            obtain ⟨Fl, hFl⟩ : ∃ Fl, Fl = encN (l.take k ++ [s] ++ l.drop k) := ⟨_, rfl⟩
            have hlen := HN.out
            have hl1 : (encN (l.take k)).length = k * 9 := by rw [encN_length, List.length_take]; omega
            have hl3 : (encN (l.drop k)).length = (N - k) * 9 := by rw [encN_length, List.length_drop]; omega
            have hl2 : (snC s).length = 9 := rfl
            have hFe : Fl = encN (l.take k) ++ snC s ++ encN (l.drop k) := by rw [hFl, encN_append, encN_append]; simp [encN]
            have hFlen : Fl.length = (N + 1) * 9 := by rw [hFe, List.length_append, List.length_append, hl1, hl2, hl3]; omega
            have hq8 : Fl.take (0 * 9) ++ encN (l.take k) = Fl.take ((0 + k) * 9) := by
              rw [Nat.zero_mul, List.take_zero, List.nil_append, Nat.zero_add, hFe, List.append_assoc, List.take_left' hl1]
            have e1' : Fl.take (k * 9) = encN (l.take k) := by rw [hFe, List.append_assoc, List.take_left' hl1]
            have e2' : Fl.take ((k + 1) * 9) = encN (l.take k) ++ snC s := by rw [hFe, List.take_left' (by rw [List.length_append, hl1, hl2]; omega)]
            have hq11 : Fl.take (k * 9) ++ snC s = Fl.take ((k + 1) * 9) := by rw [e1', e2']
            have hq18 : Fl.take ((k + 1) * 9) ++ encN (l.drop k) = Fl.take ((k + 1 + (N - k)) * 9) := by
              rw [e2', List.take_of_length_le (l := Fl) (by rw [hFlen]; omega), hFe]
            clear e1' e2'
            have hSY := HS.out.below HB.out (Nat.le_refl _)
            obtain ⟨Y, hY⟩ : ∃ Y, Y = wr.drew.drew.drew := ⟨_, rfl⟩
            have hwY : Below wr.heap.size wr Y.drew := by rw [hY]; exact (Below.refl _ _).drew.drew.drew.drew
            have hYs : Y.heap.size = wr.heap.size := by rw [hY]; rfl
            have hcY : Y.heap[c]? = some (.cells #[.int .i64 most, .slice (some ⟨g, off, none⟩) N cap] 30 (0, 0)) := by rw [hY]; exact HCR.out
            obtain ⟨A, hA, hA2⟩ : ∃ A : Option Addr, (if cap = k then (some ⟨g, off, none⟩) else (some ⟨g, off + k * 9, none⟩ : Option Addr)) = A ∧ SlC wr 9 (.slice A (N - k) (cap - k)) (N - k) (encN (l.drop k)) := by
              refine ⟨_, rfl, ?_⟩
              have h := SlC.sub hSY (i := k) (j := N) hk (Nat.le_refl _) (a' := if cap = k then (some ⟨g, off, none⟩ : Option Addr) else some ⟨g, off + k * 9, none⟩) (fun h => by rw [if_neg (by omega)]) (fun h => by split at h <;> cases h)
              rw [← encN_drop, List.take_of_length_le (by rw [hl3]; exact Nat.le_refl _)] at h
              exact h
            have hs1 : SlC wr 9 (.slice (some ⟨g, off, none⟩) k cap) k (encN (l.take k)) := by
              have h := SlC.sub hSY (i := 0) (j := k) (Nat.zero_le _) hk (a' := some ⟨g, off, none⟩) (fun _ => by rw [Nat.zero_mul, Nat.add_zero]) (fun h => by cases h)
              rw [Nat.sub_zero, Nat.sub_zero, Nat.zero_mul, List.drop_zero, ← encN_take] at h
              exact h
            have hb6 : k ≤ cap := by omega
            have hone1 := encN_one (l.take k)
            have hone2 := encN_one (l.drop k)
            have hb3 : (k : Int) ≤ (N : Int) := by omega
            have X1 : ∀ w3 : Subtype (GA wr.heap.size Fl (snC s) Y.drew), w3.1.cell? ⟨c, 1, none⟩ = some (.slice (some ⟨g, off, none⟩) N cap) := fun w3 => x1 ⟨w3.1, hwY.trans w3.2.bl⟩
            have Y0 : ∀ w3 : Subtype (GA wr.heap.size Fl (snC s) Y.drew), w3.1.cell? ⟨w.heap.size, 0, none⟩ = some (.int .i64 s.job) := fun w3 => y0 ⟨w3.1, hwY.trans w3.2.bl⟩
            have Y1 : ∀ w3 : Subtype (GA wr.heap.size Fl (snC s) Y.drew), w3.1.cell? ⟨w.heap.size, 1, none⟩ = some (.int .i64 s.id) := fun w3 => y1 ⟨w3.1, hwY.trans w3.2.bl⟩
            have Y2 : ∀ w3 : Subtype (GA wr.heap.size Fl (snC s) Y.drew), w3.1.cell? ⟨w.heap.size, 2, none⟩ = some (.int .i64 s.port) := fun w3 => y2 ⟨w3.1, hwY.trans w3.2.bl⟩
            have Y3 : ∀ w3 : Subtype (GA wr.heap.size Fl (snC s) Y.drew), w3.1.cell? ⟨w.heap.size, 3, none⟩ = some (.string (mk s.sn)) := fun w3 => y3 ⟨w3.1, hwY.trans w3.2.bl⟩
            have Y4 : ∀ w3 : Subtype (GA wr.heap.size Fl (snC s) Y.drew), w3.1.cell? ⟨w.heap.size, 4, none⟩ = some (.int .i64 s.sa) := fun w3 => y4 ⟨w3.1, hwY.trans w3.2.bl⟩
            have Y5 : ∀ w3 : Subtype (GA wr.heap.size Fl (snC s) Y.drew), w3.1.cell? ⟨w.heap.size, 5, none⟩ = some (.string (mk s.qn)) := fun w3 => y5 ⟨w3.1, hwY.trans w3.2.bl⟩
            have Y6 : ∀ w3 : Subtype (GA wr.heap.size Fl (snC s) Y.drew), w3.1.cell? ⟨w.heap.size, 6, none⟩ = some (.int .i64 s.qt) := fun w3 => y6 ⟨w3.1, hwY.trans w3.2.bl⟩
            have Y7 : ∀ w3 : Subtype (GA wr.heap.size Fl (snC s) Y.drew), w3.1.cell? ⟨w.heap.size, 7, none⟩ = some (.int .i64 s.qc) := fun w3 => y7 ⟨w3.1, hwY.trans w3.2.bl⟩
            have Y8 : ∀ w3 : Subtype (GA wr.heap.size Fl (snC s) Y.drew), w3.1.cell? ⟨w.heap.size, 8, none⟩ = some (.string (mk s.zone)) := fun w3 => y8 ⟨w3.1, hwY.trans w3.2.bl⟩
            have hneG : Nonempty (Subtype (GA wr.heap.size Fl (snC s) Y.drew)) := ⟨⟨Y.drew, GA.refl _ _ _ _⟩⟩
            have hlc : c < wr.heap.size := lc
            have hin : ∀ W, GA wr.heap.size Fl (snC s) Y.drew W → wr.heap.size ≤ W.heap.size ∧ Below wr.heap.size wr W := fun W h => by
              have h1 := h.bl.size
              have h2 : Y.drew.heap.size = wr.heap.size := hYs
              exact ⟨by omega, hwY.trans h.bl⟩
            have HL1 := Go.Lib.hid hl1
            have HL2 := Go.Lib.hid hl2
            have HL3 := Go.Lib.hid hl3
            have HFE := Go.Lib.hid hFe
            have HFLEN := Go.Lib.hid hFlen
            have HQ8 := Go.Lib.hid hq8
            have HQ11 := Go.Lib.hid hq11
            have HQ18 := Go.Lib.hid hq18
            have HWY := Go.Lib.hid hwY
            have HYS := Go.Lib.hid hYs
            have HCY := Go.Lib.hid hcY
            have HA2 := Go.Lib.hid hA2
            have HS1 := Go.Lib.hid hs1
            have HO1 := Go.Lib.hid hone1
            have HO2 := Go.Lib.hid hone2
            have HIN := Go.Lib.hid hin
            have HLEN := Go.Lib.hid hlen
            clear hl1 hl2 hl3 hFe hFlen hq8 hq11 hq18 hwY hYs hcY hA2 hs1 hone1 hone2 hin hlen
            clear hSY x0 x1 y0 y1 y2 y3 y4 y5 y6 y7 y8 hne
            go_wp2_with fail
            rw [← hY]
            clear hY
            refine Go.Mix.wp_region_mixD [1, 8, 10, 11, 18] 21 (GA wr.heap.size Fl (snC s)) (FAdd wr.heap.size k N Fl (snC s)) SAdd [(8, 1, 75), (11, 8, 82), (11, 10, 84), (18, 11, 85)] mixed (by kernel_rfl) (fun i e q hm => ?hsz) GA.trans (GA.refl _ _ _) (fun i v w w' h hg => h.stable hk HFLEN.out hg) (fun i => ⟨.slice none 0 0, _, _, _, rfl⟩) ?_
            case hsz =>
              simp only [List.mem_cons, Prod.mk.injEq, List.not_mem_nil, or_false] at hm
              rcases hm with ⟨_, _, rfl⟩ | ⟨_, _, rfl⟩ | ⟨_, _, rfl⟩ | ⟨_, _, rfl⟩ <;> exact of_decide_eq_true rfl
            iterate 1 (refine Go.Mix.mixD_step rfl (fun K hK => ?_); have HKK := Go.Lib.hid hK; clear hK; go_simp; refine HKK.out _ ?_; clear HKK K)
            refine Go.Mix.mixD_eff rfl rfl (fun w7 hw7 hn7 => ?_) (fun v1 hv1 => ?_)
            · clear hn7
              obtain ⟨i1, i2⟩ := HIN.out w7 hw7
              go_simp
              have hnew := heap_alloc_new w7 (.cells #[] 46)
              refine ⟨GA.of_below ((Below.refl _ _).alloc (Nat.le_refl _) _) i1, ⟨_, _, _, rfl⟩, ⟨fun _ => ⟨⟨by simp, .inr ⟨w7.heap.size, 0, #[], rfl, i1, hnew, Nat.le_refl _, Nat.zero_le _, rfl, by simp⟩⟩, fun _ => ⟨_, rfl⟩⟩, fun h => absurd h (by decide), fun h => absurd h (by decide), fun h => absurd h (by decide), fun h => absurd h (by decide)⟩⟩
            obtain ⟨a1, n1, c1', rfl⟩ := hv1
            iterate 6 (refine Go.Mix.mixD_step rfl (fun K hK => ?_); have HKK := Go.Lib.hid hK; clear hK; go_simp; refine HKK.out _ ?_; clear HKK K)
            refine Go.Mix.mixD_eff rfl rfl (fun w7 hw7 hn7 => ?_) (fun v8 hv8 => ?_)
            · have f1 : FOwn wr.heap.size Fl 0 (.slice a1 n1 c1') w7 := (hn7 1 75 (by simp)).f1 rfl
              obtain ⟨i1, i2⟩ := HIN.out w7 hw7
              obtain ⟨v', w', hr, g1, g2, a', c', rfl⟩ := app_effect (sC := snC s) f1 i1 (HS1.out.below i2 (Nat.le_refl _)) HO1.out HQ8.out (by rw [HFLEN.out]; omega) (by omega) 28
              simp only [Nat.zero_add] at hr g2
              exact effR_run (.tmp 75) (.tmp 81) rfl rfl rfl hr ⟨g1, ⟨_, _, _, rfl⟩, ⟨fun h => absurd h (by decide), fun _ => g2, fun h => absurd h (by decide), fun h => absurd h (by decide), fun h => absurd h (by decide)⟩⟩
            obtain ⟨a8, n8, c8, rfl⟩ := hv8
            iterate 1 (refine Go.Mix.mixD_step rfl (fun K hK => ?_); have HKK := Go.Lib.hid hK; clear hK; go_simp; refine HKK.out _ ?_; clear HKK K)
            refine Go.Mix.mixD_eff rfl rfl (fun w7 hw7 hn7 => ?_) (fun v10 hv10 => ?_)
            · clear hn7
              obtain ⟨i1, i2⟩ := HIN.out w7 hw7
              go_simp
              have hnew := heap_alloc_new w7 (.cells (snA s) 46)
              refine ⟨GA.of_below ((Below.refl _ _).alloc (Nat.le_refl _) _) i1, ⟨_, _, _, rfl⟩, ⟨fun h => absurd h (by decide), fun h => absurd h (by decide), fun _ => ⟨w7.heap.size, rfl, i1, snA s, hnew, rfl, rfl⟩, fun h => absurd h (by decide), fun h => absurd h (by decide)⟩⟩
            obtain ⟨a10, n10, c10, rfl⟩ := hv10
            refine Go.Mix.mixD_eff rfl rfl (fun w7 hw7 hn7 => ?_) (fun v11 hv11 => ?_)
            · have f8 : FOwn wr.heap.size Fl k (.slice a8 n8 c8) w7 := (hn7 8 82 (by simp)).f8 rfl
              have f10 : FNew wr.heap.size (snC s) (.slice a10 n10 c10) w7 := (hn7 10 84 (by simp)).f10 rfl
              obtain ⟨i1, i2⟩ := HIN.out w7 hw7
              obtain ⟨v', w', hr, g1, g2, a', c', rfl⟩ := app_effect (sC := snC s) f8 i1 (f10.slc HL2.out) (snA_one s) HQ11.out (by rw [HFLEN.out]; omega) (by omega) 28
              exact effR_run (.tmp 82) (.tmp 84) rfl rfl rfl hr ⟨g1, ⟨_, _, _, rfl⟩, ⟨fun h => absurd h (by decide), fun h => absurd h (by decide), fun h => absurd h (by decide), fun _ => g2, fun h => absurd h (by decide)⟩⟩
            obtain ⟨a11, n11, c11, rfl⟩ := hv11
            iterate 6 (refine Go.Mix.mixD_step rfl (fun K hK => ?_); have HKK := Go.Lib.hid hK; clear hK; go_simp; refine HKK.out _ ?_; clear HKK K)
            refine Go.Mix.mixD_eff rfl rfl (fun w7 hw7 hn7 => ?_) (fun v18 hv18 => ?_)
            · have f11 : FOwn wr.heap.size Fl (k + 1) (.slice a11 n11 c11) w7 := (hn7 11 85 (by simp)).f11 rfl
              obtain ⟨i1, i2⟩ := HIN.out w7 hw7
              obtain ⟨v', w', hr, g1, g2, a', c', rfl⟩ := app_effect (sC := snC s) f11 i1 (HA2.out.below i2 (Nat.le_refl _)) HO2.out HQ18.out (by rw [HFLEN.out]; omega) (by omega) 28
              exact effR_run (.tmp 85) (.tmp 91) rfl rfl rfl hr ⟨g1, ⟨_, _, _, rfl⟩, ⟨fun h => absurd h (by decide), fun h => absurd h (by decide), fun h => absurd h (by decide), fun h => absurd h (by decide), fun _ => g2⟩⟩
            obtain ⟨a18, n18, c18, rfl⟩ := hv18
            iterate 2 (refine Go.Mix.mixD_step rfl (fun K hK => ?_); have HKK := Go.Lib.hid hK; clear hK; go_simp; refine HKK.out _ ?_; clear HKK K)
            refine Go.Mix.mixD_last rfl (fun w9 hg9 hP K hK => ?_)
            have f18 : FOwn wr.heap.size Fl (k + 1 + (N - k)) (.slice a18 n18 c18) w9 := hP.2.f18 rfl
            clear hP
            obtain ⟨i1, i2⟩ := HIN.out w9 hg9
            have hc9 : w9.heap[c]? = some (.cells #[.int .i64 most, .slice (some ⟨g, off, none⟩) N cap] 30 (0, 0)) := (i2.block c hlc).trans HCR.out
            have z1 : w9.cell? ⟨c, 1, none⟩ = some (.slice (some ⟨g, off, none⟩) N cap) := by simp [World.cell?, hc9]
            have z2 : w9.frozen? ⟨c, 1, none⟩ = false := frozen_row hc9 _
            have hset : w9.setCell ⟨c, 1, none⟩ (.slice a18 n18 c18) = w9.setRow c #[.int .i64 most, .slice a18 n18 c18] := setCell_eq_setRow w9 c 1 _ _ (0, 0) _ hc9
            have hne2 : (Value.slice a18 n18 c18).ownBlock ≠ some c := fun e => by
              have := (f18.1.lt c e).1
              omega
            have hown : (w9.setCell ⟨c, 1, none⟩ (.slice a18 n18 c18)).ownsRow wr.heap.size 46 9 (.slice a18 n18 c18) (N + 1) Fl := by
              have := World.ownsRow.kept f18.1 (w' := w9.setCell ⟨c, 1, none⟩ (.slice a18 n18 c18)) (row := some c) ⟨rfl, rfl, rfl, by rw [hset, setRow_size]; exact Nat.le_refl _, fun q hq hne => by rw [hset, setRow_other _ _ _ _ (fun e => hne (by rw [e]))]⟩ (.inr hne2)
              rw [show k + 1 + (N - k) = N + 1 by omega, List.take_of_length_le (by rw [HFLEN.out]; exact Nat.le_refl _)] at this
              exact this
            have hft : (w9.setCell ⟨c, 1, none⟩ (.slice a18 n18 c18)).heap[c]? = some (.cells #[.int .i64 most, .slice a18 n18 c18] 30 (0, 0)) := by rw [hset]; exact heap_row hc9
            have hbw := (HWX.out.trans (HB.out.mono HWX.out.size)).trans (i2.mono (by have := HWX.out.size; have := HB.out.size; omega))
            have hbz := (hbw.mono hbase).setCell (p := ⟨c, 1, none⟩) hcb (.slice a18 n18 c18)
            have hkz : KeepsC c w (w9.setCell ⟨c, 1, none⟩ (.slice a18 n18 c18)) := ⟨by rw [hset, setRow_size]; exact hbw.size, fun q hq hqc => by rw [hset, setRow_other _ _ _ _ hqc]; exact hbw.block q hq⟩
            have hws : w.heap.size ≤ wr.heap.size := by have := HWX.out.size; have := HB.out.size; omega
            have HOWN := Go.Lib.hid hown
            have HFT := Go.Lib.hid hft
            have HBZ := Go.Lib.hid hbz
            have HKZ := Go.Lib.hid hkz
            have HKK := Go.Lib.hid hK
            have HWS := Go.Lib.hid hws
            clear hown hft hbz hkz hK hws
            clear hset hne2 hc9 f18 i2 hg9 X1 Y0 Y1 Y2 Y3 Y4 Y5 Y6 Y7 Y8 hneG
            rw [if_pos (show Region.wanted _ _ = true from rfl)]
            go_simp
            refine HKK.out _ _ ?_
            clear HKK K
            go_wp2_with fail
            go_ret
            rw [hr.out]
            refine ⟨rfl, ⟨hcb, _, HFT.out, ?_⟩, HBZ.out, HKZ.out⟩
            have hll : (l.take k ++ [s] ++ l.drop k).length = N + 1 := by have := HLEN.out; simp; omega
            rw [hll, ← hFl]
            exact owns_base HOWN.out (by have := HWS.out; omega)
    · have hkl : l.length ≤ k := by rw [HN.out]; omega
      have hp := pos_found (t := s.job) HUP.out (by rw [HN.out]; exact hk) HNO.out (fun h => absurd h (by omega))
      have hh : hasN l s.job = false := by unfold hasN; rw [hp]; exact decide_eq_false fun h => absurd h.1 (by omega)
      by_cases hm : most ≤ (N : Int)
      · have hr : Hid (addN most l s = (l, 4)) := Go.Lib.hid (by unfold addN; rw [hh, HN.out, if_pos hm]; rfl)
        clear hp hh hkl
        go_wp2_with fail
        refine Go.Mix.wp_region_mixT (Es := []) 19 (Below wr.heap.size wr) mixed (by kernel_rfl) (Below.refl _ _).drew ?_
        iterate 19 (refine Go.Mix.mixT_step rfl (fun K hK => ?_); have HKK := Go.Lib.hid hK; clear hK; go_simp; refine HKK.out _ _ ?_; clear HKK K)
        refine Go.Mix.mixT_last rfl (fun K hK => ?_)
        have HKK := Go.Lib.hid hK
        clear hK
        go_simp
        refine HKK.out _ _ ?_
        clear HKK K
        go_wp2_with fail
        refine Go.Mix.wp_region_mixT (Es := []) 19 (Below wr.heap.size wr) mixed (by kernel_rfl) (Below.refl _ _).drew.drew ?_
        iterate 19 (refine Go.Mix.mixT_step rfl (fun K hK => ?_); have HKK := Go.Lib.hid hK; clear hK; go_simp; refine HKK.out _ _ ?_; clear HKK K)
        refine Go.Mix.mixT_last rfl (fun K hK => ?_)
        have HKK := Go.Lib.hid hK
        clear hK
        go_simp
        refine HKK.out _ _ ?_
        clear HKK K
        go_wp2_with fail
        refine Go.Mix.wp_region_mixT (Es := []) 9 (Below wr.heap.size wr) mixed (by kernel_rfl) (Below.refl _ _).drew.drew.drew ?_
        iterate 9 (refine Go.Mix.mixT_step rfl (fun K hK => ?_); have HKK := Go.Lib.hid hK; clear hK; go_simp; refine HKK.out _ _ ?_; clear HKK K)
        refine Go.Mix.mixT_last rfl (fun K hK => ?_)
        have HKK := Go.Lib.hid hK
        clear hK
        go_simp
        refine HKK.out _ _ ?_
        clear HKK K
        have hbz := HWX.out.trans (HB.out.mono HWX.out.size)
        go_wp2_with fail
        go_ret
        rw [hr.out]
        exact ⟨rfl, HR0.out.below hbz.drew.drew.drew, (hbz.mono hbase).drew.drew.drew, KeepsC.below hbz.drew.drew.drew⟩
      · have hr : Hid (addN most l s = (l.take k ++ [s] ++ l.drop k, 0)) := Go.Lib.hid (by unfold addN; rw [hh, HN.out, if_neg hm, hp]; rfl)
        clear hp hh hkl
        rcases HOX.out.2 with ⟨hv, hn0⟩ | ⟨g, cap', cur, hv, _⟩
        · simp only [Value.slice.injEq] at hv
          obtain ⟨rfl, rfl, rfl⟩ := hv
          obtain rfl : k = 0 := by omega
          have hl0 : l = [] := List.eq_nil_of_length_eq_zero HN.out
          subst hl0
          go_wp2_with fail
          refine Go.Mix.wp_region_mixT (Es := []) 19 (Below wr.heap.size wr) mixed (by kernel_rfl) (Below.refl _ _).drew ?_
          iterate 19 (refine Go.Mix.mixT_step rfl (fun K hK => ?_); have HKK := Go.Lib.hid hK; clear hK; go_simp; refine HKK.out _ _ ?_; clear HKK K)
          refine Go.Mix.mixT_last rfl (fun K hK => ?_)
          have HKK := Go.Lib.hid hK
          clear hK
          go_simp
          refine HKK.out _ _ ?_
          clear HKK K
          go_wp2_with fail
          refine Go.Mix.wp_region_mixT (Es := []) 19 (Below wr.heap.size wr) mixed (by kernel_rfl) (Below.refl _ _).drew.drew ?_
          iterate 19 (refine Go.Mix.mixT_step rfl (fun K hK => ?_); have HKK := Go.Lib.hid hK; clear hK; go_simp; refine HKK.out _ _ ?_; clear HKK K)
          refine Go.Mix.mixT_last rfl (fun K hK => ?_)
          have HKK := Go.Lib.hid hK
          clear hK
          go_simp
          refine HKK.out _ _ ?_
          clear HKK K
          go_wp2_with fail
          refine Go.Mix.wp_region_mixT (Es := []) 9 (Below wr.heap.size wr) mixed (by kernel_rfl) (Below.refl _ _).drew.drew.drew ?_
          iterate 9 (refine Go.Mix.mixT_step rfl (fun K hK => ?_); have HKK := Go.Lib.hid hK; clear hK; go_simp; refine HKK.out _ _ ?_; clear HKK K)
          refine Go.Mix.mixT_last rfl (fun K hK => ?_)
          have HKK := Go.Lib.hid hK
          clear hK
          go_simp
          refine HKK.out _ _ ?_
          clear HKK K
          obtain ⟨Fl, hFl⟩ : ∃ Fl, Fl = encN (([] : List Sn).take 0 ++ [s] ++ ([] : List Sn).drop 0) := ⟨_, rfl⟩
          have hlen := HN.out
          have hl2 : (snC s).length = 9 := rfl
          have hl1 : True := trivial
          have hl3 : True := trivial
          have hFe : Fl = snC s := by rw [hFl]; simp [encN]
          have hFlen : Fl.length = (0 + 1) * 9 := by rw [hFe]; rfl
          have hq8 : Fl.take (0 * 9) ++ encN (([] : List Sn).take 0) = Fl.take ((0 + 0) * 9) := by simp [encN]
          have hq11 : Fl.take (0 * 9) ++ snC s = Fl.take ((0 + 1) * 9) := by rw [hFe]; rfl
          have hq18 : Fl.take ((0 + 1) * 9) ++ encN (([] : List Sn).drop 0) = Fl.take ((0 + 1 + (0 - 0)) * 9) := by rw [hFe]; rfl
          have hSY := HS.out.below HB.out (Nat.le_refl _)
          obtain ⟨Y, hY⟩ : ∃ Y, Y = wr.drew.drew.drew := ⟨_, rfl⟩
          have hwY : Below wr.heap.size wr Y.drew := by rw [hY]; exact (Below.refl _ _).drew.drew.drew.drew
          have hYs : Y.heap.size = wr.heap.size := by rw [hY]; rfl
          have hcY : Y.heap[c]? = some (.cells #[.int .i64 most, .slice none 0 0] 30 (0, 0)) := by rw [hY]; exact HCR.out
          have hA2 : SlC wr 9 (.slice none 0 0) 0 (encN (([] : List Sn).drop 0)) := SlC.nil _ _
          have hs1 : SlC wr 9 (.slice none 0 0) 0 (encN (([] : List Sn).take 0)) := SlC.nil _ _
          have hb6 : 0 ≤ 0 := by omega
          have hone1 := encN_one (([] : List Sn).take 0)
          have hone2 := encN_one (([] : List Sn).drop 0)
          have hb3 : (0 : Int) ≤ (0 : Int) := by omega
          have X1 : ∀ w3 : Subtype (GA wr.heap.size Fl (snC s) Y.drew), w3.1.cell? ⟨c, 1, none⟩ = some (.slice none 0 0) := fun w3 => x1 ⟨w3.1, hwY.trans w3.2.bl⟩
          have Y0 : ∀ w3 : Subtype (GA wr.heap.size Fl (snC s) Y.drew), w3.1.cell? ⟨w.heap.size, 0, none⟩ = some (.int .i64 s.job) := fun w3 => y0 ⟨w3.1, hwY.trans w3.2.bl⟩
          have Y1 : ∀ w3 : Subtype (GA wr.heap.size Fl (snC s) Y.drew), w3.1.cell? ⟨w.heap.size, 1, none⟩ = some (.int .i64 s.id) := fun w3 => y1 ⟨w3.1, hwY.trans w3.2.bl⟩
          have Y2 : ∀ w3 : Subtype (GA wr.heap.size Fl (snC s) Y.drew), w3.1.cell? ⟨w.heap.size, 2, none⟩ = some (.int .i64 s.port) := fun w3 => y2 ⟨w3.1, hwY.trans w3.2.bl⟩
          have Y3 : ∀ w3 : Subtype (GA wr.heap.size Fl (snC s) Y.drew), w3.1.cell? ⟨w.heap.size, 3, none⟩ = some (.string (mk s.sn)) := fun w3 => y3 ⟨w3.1, hwY.trans w3.2.bl⟩
          have Y4 : ∀ w3 : Subtype (GA wr.heap.size Fl (snC s) Y.drew), w3.1.cell? ⟨w.heap.size, 4, none⟩ = some (.int .i64 s.sa) := fun w3 => y4 ⟨w3.1, hwY.trans w3.2.bl⟩
          have Y5 : ∀ w3 : Subtype (GA wr.heap.size Fl (snC s) Y.drew), w3.1.cell? ⟨w.heap.size, 5, none⟩ = some (.string (mk s.qn)) := fun w3 => y5 ⟨w3.1, hwY.trans w3.2.bl⟩
          have Y6 : ∀ w3 : Subtype (GA wr.heap.size Fl (snC s) Y.drew), w3.1.cell? ⟨w.heap.size, 6, none⟩ = some (.int .i64 s.qt) := fun w3 => y6 ⟨w3.1, hwY.trans w3.2.bl⟩
          have Y7 : ∀ w3 : Subtype (GA wr.heap.size Fl (snC s) Y.drew), w3.1.cell? ⟨w.heap.size, 7, none⟩ = some (.int .i64 s.qc) := fun w3 => y7 ⟨w3.1, hwY.trans w3.2.bl⟩
          have Y8 : ∀ w3 : Subtype (GA wr.heap.size Fl (snC s) Y.drew), w3.1.cell? ⟨w.heap.size, 8, none⟩ = some (.string (mk s.zone)) := fun w3 => y8 ⟨w3.1, hwY.trans w3.2.bl⟩
          have hneG : Nonempty (Subtype (GA wr.heap.size Fl (snC s) Y.drew)) := ⟨⟨Y.drew, GA.refl _ _ _ _⟩⟩
          have hlc : c < wr.heap.size := lc
          have hin : ∀ W, GA wr.heap.size Fl (snC s) Y.drew W → wr.heap.size ≤ W.heap.size ∧ Below wr.heap.size wr W := fun W h => by
            have h1 := h.bl.size
            have h2 : Y.drew.heap.size = wr.heap.size := hYs
            exact ⟨by omega, hwY.trans h.bl⟩
          have HL1 := Go.Lib.hid hl1
          have HL2 := Go.Lib.hid hl2
          have HL3 := Go.Lib.hid hl3
          have HFE := Go.Lib.hid hFe
          have HFLEN := Go.Lib.hid hFlen
          have HQ8 := Go.Lib.hid hq8
          have HQ11 := Go.Lib.hid hq11
          have HQ18 := Go.Lib.hid hq18
          have HWY := Go.Lib.hid hwY
          have HYS := Go.Lib.hid hYs
          have HCY := Go.Lib.hid hcY
          have HA2 := Go.Lib.hid hA2
          have HS1 := Go.Lib.hid hs1
          have HO1 := Go.Lib.hid hone1
          have HO2 := Go.Lib.hid hone2
          have HIN := Go.Lib.hid hin
          have HLEN := Go.Lib.hid hlen
          clear hl1 hl2 hl3 hFe hFlen hq8 hq11 hq18 hwY hYs hcY hA2 hs1 hone1 hone2 hin hlen
          clear hSY x0 x1 y0 y1 y2 y3 y4 y5 y6 y7 y8 hne
          go_wp2_with fail
          rw [← hY]
          clear hY
          refine Go.Mix.wp_region_mixD [1, 8, 10, 11, 18] 21 (GA wr.heap.size Fl (snC s)) (FAdd wr.heap.size 0 0 Fl (snC s)) SAdd [(8, 1, 75), (11, 8, 82), (11, 10, 84), (18, 11, 85)] mixed (by kernel_rfl) (fun i e q hm => ?hsz) GA.trans (GA.refl _ _ _) (fun i v w w' h hg => h.stable hk HFLEN.out hg) (fun i => ⟨.slice none 0 0, _, _, _, rfl⟩) ?_
          case hsz =>
            simp only [List.mem_cons, Prod.mk.injEq, List.not_mem_nil, or_false] at hm
            rcases hm with ⟨_, _, rfl⟩ | ⟨_, _, rfl⟩ | ⟨_, _, rfl⟩ | ⟨_, _, rfl⟩ <;> exact of_decide_eq_true rfl
          iterate 1 (refine Go.Mix.mixD_step rfl (fun K hK => ?_); have HKK := Go.Lib.hid hK; clear hK; go_simp; refine HKK.out _ ?_; clear HKK K)
          refine Go.Mix.mixD_eff rfl rfl (fun w7 hw7 hn7 => ?_) (fun v1 hv1 => ?_)
          · clear hn7
            obtain ⟨i1, i2⟩ := HIN.out w7 hw7
            go_simp
            have hnew := heap_alloc_new w7 (.cells #[] 46)
            refine ⟨GA.of_below ((Below.refl _ _).alloc (Nat.le_refl _) _) i1, ⟨_, _, _, rfl⟩, ⟨fun _ => ⟨⟨by simp, .inr ⟨w7.heap.size, 0, #[], rfl, i1, hnew, Nat.le_refl _, Nat.zero_le _, rfl, by simp⟩⟩, fun _ => ⟨_, rfl⟩⟩, fun h => absurd h (by decide), fun h => absurd h (by decide), fun h => absurd h (by decide), fun h => absurd h (by decide)⟩⟩
          obtain ⟨a1, n1, c1', rfl⟩ := hv1
          iterate 6 (refine Go.Mix.mixD_step rfl (fun K hK => ?_); have HKK := Go.Lib.hid hK; clear hK; go_simp; refine HKK.out _ ?_; clear HKK K)
          refine Go.Mix.mixD_eff rfl rfl (fun w7 hw7 hn7 => ?_) (fun v8 hv8 => ?_)
          · have f1 : FOwn wr.heap.size Fl 0 (.slice a1 n1 c1') w7 := (hn7 1 75 (by simp)).f1 rfl
            obtain ⟨i1, i2⟩ := HIN.out w7 hw7
            obtain ⟨v', w', hr, g1, g2, a', c', rfl⟩ := app_effect (sC := snC s) f1 i1 (HS1.out.below i2 (Nat.le_refl _)) HO1.out HQ8.out (by rw [HFLEN.out]; omega) (by omega) 28
            simp only [Nat.zero_add] at hr g2
            exact effR_run (.tmp 75) (.tmp 81) rfl rfl rfl hr ⟨g1, ⟨_, _, _, rfl⟩, ⟨fun h => absurd h (by decide), fun _ => g2, fun h => absurd h (by decide), fun h => absurd h (by decide), fun h => absurd h (by decide)⟩⟩
          obtain ⟨a8, n8, c8, rfl⟩ := hv8
          iterate 1 (refine Go.Mix.mixD_step rfl (fun K hK => ?_); have HKK := Go.Lib.hid hK; clear hK; go_simp; refine HKK.out _ ?_; clear HKK K)
          refine Go.Mix.mixD_eff rfl rfl (fun w7 hw7 hn7 => ?_) (fun v10 hv10 => ?_)
          · clear hn7
            obtain ⟨i1, i2⟩ := HIN.out w7 hw7
            go_simp
            have hnew := heap_alloc_new w7 (.cells (snA s) 46)
            refine ⟨GA.of_below ((Below.refl _ _).alloc (Nat.le_refl _) _) i1, ⟨_, _, _, rfl⟩, ⟨fun h => absurd h (by decide), fun h => absurd h (by decide), fun _ => ⟨w7.heap.size, rfl, i1, snA s, hnew, rfl, rfl⟩, fun h => absurd h (by decide), fun h => absurd h (by decide)⟩⟩
          obtain ⟨a10, n10, c10, rfl⟩ := hv10
          refine Go.Mix.mixD_eff rfl rfl (fun w7 hw7 hn7 => ?_) (fun v11 hv11 => ?_)
          · have f8 : FOwn wr.heap.size Fl 0 (.slice a8 n8 c8) w7 := (hn7 8 82 (by simp)).f8 rfl
            have f10 : FNew wr.heap.size (snC s) (.slice a10 n10 c10) w7 := (hn7 10 84 (by simp)).f10 rfl
            obtain ⟨i1, i2⟩ := HIN.out w7 hw7
            obtain ⟨v', w', hr, g1, g2, a', c', rfl⟩ := app_effect (sC := snC s) f8 i1 (f10.slc HL2.out) (snA_one s) HQ11.out (by rw [HFLEN.out]; omega) (by omega) 28
            exact effR_run (.tmp 82) (.tmp 84) rfl rfl rfl hr ⟨g1, ⟨_, _, _, rfl⟩, ⟨fun h => absurd h (by decide), fun h => absurd h (by decide), fun h => absurd h (by decide), fun _ => g2, fun h => absurd h (by decide)⟩⟩
          obtain ⟨a11, n11, c11, rfl⟩ := hv11
          iterate 6 (refine Go.Mix.mixD_step rfl (fun K hK => ?_); have HKK := Go.Lib.hid hK; clear hK; go_simp; refine HKK.out _ ?_; clear HKK K)
          refine Go.Mix.mixD_eff rfl rfl (fun w7 hw7 hn7 => ?_) (fun v18 hv18 => ?_)
          · have f11 : FOwn wr.heap.size Fl (0 + 1) (.slice a11 n11 c11) w7 := (hn7 11 85 (by simp)).f11 rfl
            obtain ⟨i1, i2⟩ := HIN.out w7 hw7
            obtain ⟨v', w', hr, g1, g2, a', c', rfl⟩ := app_effect (sC := snC s) f11 i1 (HA2.out.below i2 (Nat.le_refl _)) HO2.out HQ18.out (by rw [HFLEN.out]; omega) (by omega) 28
            exact effR_run (.tmp 85) (.tmp 91) rfl rfl rfl hr ⟨g1, ⟨_, _, _, rfl⟩, ⟨fun h => absurd h (by decide), fun h => absurd h (by decide), fun h => absurd h (by decide), fun h => absurd h (by decide), fun _ => g2⟩⟩
          obtain ⟨a18, n18, c18, rfl⟩ := hv18
          iterate 2 (refine Go.Mix.mixD_step rfl (fun K hK => ?_); have HKK := Go.Lib.hid hK; clear hK; go_simp; refine HKK.out _ ?_; clear HKK K)
          refine Go.Mix.mixD_last rfl (fun w9 hg9 hP K hK => ?_)
          have f18 : FOwn wr.heap.size Fl (0 + 1 + (0 - 0)) (.slice a18 n18 c18) w9 := hP.2.f18 rfl
          clear hP
          obtain ⟨i1, i2⟩ := HIN.out w9 hg9
          have hc9 : w9.heap[c]? = some (.cells #[.int .i64 most, .slice none 0 0] 30 (0, 0)) := (i2.block c hlc).trans HCR.out
          have z1 : w9.cell? ⟨c, 1, none⟩ = some (.slice none 0 0) := by simp [World.cell?, hc9]
          have z2 : w9.frozen? ⟨c, 1, none⟩ = false := frozen_row hc9 _
          have hset : w9.setCell ⟨c, 1, none⟩ (.slice a18 n18 c18) = w9.setRow c #[.int .i64 most, .slice a18 n18 c18] := setCell_eq_setRow w9 c 1 _ _ (0, 0) _ hc9
          have hne2 : (Value.slice a18 n18 c18).ownBlock ≠ some c := fun e => by
            have := (f18.1.lt c e).1
            omega
          have hown : (w9.setCell ⟨c, 1, none⟩ (.slice a18 n18 c18)).ownsRow wr.heap.size 46 9 (.slice a18 n18 c18) (0 + 1) Fl := by
            have := World.ownsRow.kept f18.1 (w' := w9.setCell ⟨c, 1, none⟩ (.slice a18 n18 c18)) (row := some c) ⟨rfl, rfl, rfl, by rw [hset, setRow_size]; exact Nat.le_refl _, fun q hq hne => by rw [hset, setRow_other _ _ _ _ (fun e => hne (by rw [e]))]⟩ (.inr hne2)
            rw [show 0 + 1 + (0 - 0) = 0 + 1 by omega, List.take_of_length_le (by rw [HFLEN.out]; exact Nat.le_refl _)] at this
            exact this
          have hft : (w9.setCell ⟨c, 1, none⟩ (.slice a18 n18 c18)).heap[c]? = some (.cells #[.int .i64 most, .slice a18 n18 c18] 30 (0, 0)) := by rw [hset]; exact heap_row hc9
          have hbw := (HWX.out.trans (HB.out.mono HWX.out.size)).trans (i2.mono (by have := HWX.out.size; have := HB.out.size; omega))
          have hbz := (hbw.mono hbase).setCell (p := ⟨c, 1, none⟩) hcb (.slice a18 n18 c18)
          have hkz : KeepsC c w (w9.setCell ⟨c, 1, none⟩ (.slice a18 n18 c18)) := ⟨by rw [hset, setRow_size]; exact hbw.size, fun q hq hqc => by rw [hset, setRow_other _ _ _ _ hqc]; exact hbw.block q hq⟩
          have hws : w.heap.size ≤ wr.heap.size := by have := HWX.out.size; have := HB.out.size; omega
          have HOWN := Go.Lib.hid hown
          have HFT := Go.Lib.hid hft
          have HBZ := Go.Lib.hid hbz
          have HKZ := Go.Lib.hid hkz
          have HKK := Go.Lib.hid hK
          have HWS := Go.Lib.hid hws
          clear hown hft hbz hkz hK hws
          clear hset hne2 hc9 f18 i2 hg9 X1 Y0 Y1 Y2 Y3 Y4 Y5 Y6 Y7 Y8 hneG
          rw [if_pos (show Region.wanted _ _ = true from rfl)]
          go_simp
          refine HKK.out _ _ ?_
          clear HKK K
          go_wp2_with fail
          go_ret
          rw [hr.out]
          refine ⟨rfl, ⟨hcb, _, HFT.out, ?_⟩, HBZ.out, HKZ.out⟩
          have hll : (([] : List Sn).take 0 ++ [s] ++ ([] : List Sn).drop 0).length = 0 + 1 := by rfl
          rw [hll, ← hFl]
          exact owns_base HOWN.out (by have := HWS.out; omega)
        · simp only [Value.slice.injEq] at hv
          obtain ⟨ha, -, -⟩ := hv
          obtain ⟨off, rfl⟩ : ∃ off, a = some ⟨g, off, none⟩ := ⟨0, ha⟩
          clear ha
          go_wp2_with fail
          refine Go.Mix.wp_region_mixT (Es := []) 19 (Below wr.heap.size wr) mixed (by kernel_rfl) (Below.refl _ _).drew ?_
          iterate 19 (refine Go.Mix.mixT_step rfl (fun K hK => ?_); have HKK := Go.Lib.hid hK; clear hK; go_simp; refine HKK.out _ _ ?_; clear HKK K)
          refine Go.Mix.mixT_last rfl (fun K hK => ?_)
          have HKK := Go.Lib.hid hK
          clear hK
          go_simp
          refine HKK.out _ _ ?_
          clear HKK K
          go_wp2_with fail
          refine Go.Mix.wp_region_mixT (Es := []) 19 (Below wr.heap.size wr) mixed (by kernel_rfl) (Below.refl _ _).drew.drew ?_
          iterate 19 (refine Go.Mix.mixT_step rfl (fun K hK => ?_); have HKK := Go.Lib.hid hK; clear hK; go_simp; refine HKK.out _ _ ?_; clear HKK K)
          refine Go.Mix.mixT_last rfl (fun K hK => ?_)
          have HKK := Go.Lib.hid hK
          clear hK
          go_simp
          refine HKK.out _ _ ?_
          clear HKK K
          go_wp2_with fail
          refine Go.Mix.wp_region_mixT (Es := []) 9 (Below wr.heap.size wr) mixed (by kernel_rfl) (Below.refl _ _).drew.drew.drew ?_
          iterate 9 (refine Go.Mix.mixT_step rfl (fun K hK => ?_); have HKK := Go.Lib.hid hK; clear hK; go_simp; refine HKK.out _ _ ?_; clear HKK K)
          refine Go.Mix.mixT_last rfl (fun K hK => ?_)
          have HKK := Go.Lib.hid hK
          clear hK
          go_simp
          refine HKK.out _ _ ?_
          clear HKK K
          obtain ⟨Fl, hFl⟩ : ∃ Fl, Fl = encN (l.take k ++ [s] ++ l.drop k) := ⟨_, rfl⟩
          have hlen := HN.out
          have hl1 : (encN (l.take k)).length = k * 9 := by rw [encN_length, List.length_take]; omega
          have hl3 : (encN (l.drop k)).length = (N - k) * 9 := by rw [encN_length, List.length_drop]; omega
          have hl2 : (snC s).length = 9 := rfl
          have hFe : Fl = encN (l.take k) ++ snC s ++ encN (l.drop k) := by rw [hFl, encN_append, encN_append]; simp [encN]
          have hFlen : Fl.length = (N + 1) * 9 := by rw [hFe, List.length_append, List.length_append, hl1, hl2, hl3]; omega
          have hq8 : Fl.take (0 * 9) ++ encN (l.take k) = Fl.take ((0 + k) * 9) := by
            rw [Nat.zero_mul, List.take_zero, List.nil_append, Nat.zero_add, hFe, List.append_assoc, List.take_left' hl1]
          have e1' : Fl.take (k * 9) = encN (l.take k) := by rw [hFe, List.append_assoc, List.take_left' hl1]
          have e2' : Fl.take ((k + 1) * 9) = encN (l.take k) ++ snC s := by rw [hFe, List.take_left' (by rw [List.length_append, hl1, hl2]; omega)]
          have hq11 : Fl.take (k * 9) ++ snC s = Fl.take ((k + 1) * 9) := by rw [e1', e2']
          have hq18 : Fl.take ((k + 1) * 9) ++ encN (l.drop k) = Fl.take ((k + 1 + (N - k)) * 9) := by
            rw [e2', List.take_of_length_le (l := Fl) (by rw [hFlen]; omega), hFe]
          clear e1' e2'
          have hSY := HS.out.below HB.out (Nat.le_refl _)
          obtain ⟨Y, hY⟩ : ∃ Y, Y = wr.drew.drew.drew := ⟨_, rfl⟩
          have hwY : Below wr.heap.size wr Y.drew := by rw [hY]; exact (Below.refl _ _).drew.drew.drew.drew
          have hYs : Y.heap.size = wr.heap.size := by rw [hY]; rfl
          have hcY : Y.heap[c]? = some (.cells #[.int .i64 most, .slice (some ⟨g, off, none⟩) N cap] 30 (0, 0)) := by rw [hY]; exact HCR.out
          obtain ⟨A, hA, hA2⟩ : ∃ A : Option Addr, (if cap = k then (some ⟨g, off, none⟩) else (some ⟨g, off + k * 9, none⟩ : Option Addr)) = A ∧ SlC wr 9 (.slice A (N - k) (cap - k)) (N - k) (encN (l.drop k)) := by
            refine ⟨_, rfl, ?_⟩
            have h := SlC.sub hSY (i := k) (j := N) hk (Nat.le_refl _) (a' := if cap = k then (some ⟨g, off, none⟩ : Option Addr) else some ⟨g, off + k * 9, none⟩) (fun h => by rw [if_neg (by omega)]) (fun h => by split at h <;> cases h)
            rw [← encN_drop, List.take_of_length_le (by rw [hl3]; exact Nat.le_refl _)] at h
            exact h
          have hs1 : SlC wr 9 (.slice (some ⟨g, off, none⟩) k cap) k (encN (l.take k)) := by
            have h := SlC.sub hSY (i := 0) (j := k) (Nat.zero_le _) hk (a' := some ⟨g, off, none⟩) (fun _ => by rw [Nat.zero_mul, Nat.add_zero]) (fun h => by cases h)
            rw [Nat.sub_zero, Nat.sub_zero, Nat.zero_mul, List.drop_zero, ← encN_take] at h
            exact h
          have hb6 : k ≤ cap := by omega
          have hone1 := encN_one (l.take k)
          have hone2 := encN_one (l.drop k)
          have hb3 : (k : Int) ≤ (N : Int) := by omega
          have X1 : ∀ w3 : Subtype (GA wr.heap.size Fl (snC s) Y.drew), w3.1.cell? ⟨c, 1, none⟩ = some (.slice (some ⟨g, off, none⟩) N cap) := fun w3 => x1 ⟨w3.1, hwY.trans w3.2.bl⟩
          have Y0 : ∀ w3 : Subtype (GA wr.heap.size Fl (snC s) Y.drew), w3.1.cell? ⟨w.heap.size, 0, none⟩ = some (.int .i64 s.job) := fun w3 => y0 ⟨w3.1, hwY.trans w3.2.bl⟩
          have Y1 : ∀ w3 : Subtype (GA wr.heap.size Fl (snC s) Y.drew), w3.1.cell? ⟨w.heap.size, 1, none⟩ = some (.int .i64 s.id) := fun w3 => y1 ⟨w3.1, hwY.trans w3.2.bl⟩
          have Y2 : ∀ w3 : Subtype (GA wr.heap.size Fl (snC s) Y.drew), w3.1.cell? ⟨w.heap.size, 2, none⟩ = some (.int .i64 s.port) := fun w3 => y2 ⟨w3.1, hwY.trans w3.2.bl⟩
          have Y3 : ∀ w3 : Subtype (GA wr.heap.size Fl (snC s) Y.drew), w3.1.cell? ⟨w.heap.size, 3, none⟩ = some (.string (mk s.sn)) := fun w3 => y3 ⟨w3.1, hwY.trans w3.2.bl⟩
          have Y4 : ∀ w3 : Subtype (GA wr.heap.size Fl (snC s) Y.drew), w3.1.cell? ⟨w.heap.size, 4, none⟩ = some (.int .i64 s.sa) := fun w3 => y4 ⟨w3.1, hwY.trans w3.2.bl⟩
          have Y5 : ∀ w3 : Subtype (GA wr.heap.size Fl (snC s) Y.drew), w3.1.cell? ⟨w.heap.size, 5, none⟩ = some (.string (mk s.qn)) := fun w3 => y5 ⟨w3.1, hwY.trans w3.2.bl⟩
          have Y6 : ∀ w3 : Subtype (GA wr.heap.size Fl (snC s) Y.drew), w3.1.cell? ⟨w.heap.size, 6, none⟩ = some (.int .i64 s.qt) := fun w3 => y6 ⟨w3.1, hwY.trans w3.2.bl⟩
          have Y7 : ∀ w3 : Subtype (GA wr.heap.size Fl (snC s) Y.drew), w3.1.cell? ⟨w.heap.size, 7, none⟩ = some (.int .i64 s.qc) := fun w3 => y7 ⟨w3.1, hwY.trans w3.2.bl⟩
          have Y8 : ∀ w3 : Subtype (GA wr.heap.size Fl (snC s) Y.drew), w3.1.cell? ⟨w.heap.size, 8, none⟩ = some (.string (mk s.zone)) := fun w3 => y8 ⟨w3.1, hwY.trans w3.2.bl⟩
          have hneG : Nonempty (Subtype (GA wr.heap.size Fl (snC s) Y.drew)) := ⟨⟨Y.drew, GA.refl _ _ _ _⟩⟩
          have hlc : c < wr.heap.size := lc
          have hin : ∀ W, GA wr.heap.size Fl (snC s) Y.drew W → wr.heap.size ≤ W.heap.size ∧ Below wr.heap.size wr W := fun W h => by
            have h1 := h.bl.size
            have h2 : Y.drew.heap.size = wr.heap.size := hYs
            exact ⟨by omega, hwY.trans h.bl⟩
          have HL1 := Go.Lib.hid hl1
          have HL2 := Go.Lib.hid hl2
          have HL3 := Go.Lib.hid hl3
          have HFE := Go.Lib.hid hFe
          have HFLEN := Go.Lib.hid hFlen
          have HQ8 := Go.Lib.hid hq8
          have HQ11 := Go.Lib.hid hq11
          have HQ18 := Go.Lib.hid hq18
          have HWY := Go.Lib.hid hwY
          have HYS := Go.Lib.hid hYs
          have HCY := Go.Lib.hid hcY
          have HA2 := Go.Lib.hid hA2
          have HS1 := Go.Lib.hid hs1
          have HO1 := Go.Lib.hid hone1
          have HO2 := Go.Lib.hid hone2
          have HIN := Go.Lib.hid hin
          have HLEN := Go.Lib.hid hlen
          clear hl1 hl2 hl3 hFe hFlen hq8 hq11 hq18 hwY hYs hcY hA2 hs1 hone1 hone2 hin hlen
          clear hSY x0 x1 y0 y1 y2 y3 y4 y5 y6 y7 y8 hne
          go_wp2_with fail
          rw [← hY]
          clear hY
          refine Go.Mix.wp_region_mixD [1, 8, 10, 11, 18] 21 (GA wr.heap.size Fl (snC s)) (FAdd wr.heap.size k N Fl (snC s)) SAdd [(8, 1, 75), (11, 8, 82), (11, 10, 84), (18, 11, 85)] mixed (by kernel_rfl) (fun i e q hm => ?hsz) GA.trans (GA.refl _ _ _) (fun i v w w' h hg => h.stable hk HFLEN.out hg) (fun i => ⟨.slice none 0 0, _, _, _, rfl⟩) ?_
          case hsz =>
            simp only [List.mem_cons, Prod.mk.injEq, List.not_mem_nil, or_false] at hm
            rcases hm with ⟨_, _, rfl⟩ | ⟨_, _, rfl⟩ | ⟨_, _, rfl⟩ | ⟨_, _, rfl⟩ <;> exact of_decide_eq_true rfl
          iterate 1 (refine Go.Mix.mixD_step rfl (fun K hK => ?_); have HKK := Go.Lib.hid hK; clear hK; go_simp; refine HKK.out _ ?_; clear HKK K)
          refine Go.Mix.mixD_eff rfl rfl (fun w7 hw7 hn7 => ?_) (fun v1 hv1 => ?_)
          · clear hn7
            obtain ⟨i1, i2⟩ := HIN.out w7 hw7
            go_simp
            have hnew := heap_alloc_new w7 (.cells #[] 46)
            refine ⟨GA.of_below ((Below.refl _ _).alloc (Nat.le_refl _) _) i1, ⟨_, _, _, rfl⟩, ⟨fun _ => ⟨⟨by simp, .inr ⟨w7.heap.size, 0, #[], rfl, i1, hnew, Nat.le_refl _, Nat.zero_le _, rfl, by simp⟩⟩, fun _ => ⟨_, rfl⟩⟩, fun h => absurd h (by decide), fun h => absurd h (by decide), fun h => absurd h (by decide), fun h => absurd h (by decide)⟩⟩
          obtain ⟨a1, n1, c1', rfl⟩ := hv1
          iterate 6 (refine Go.Mix.mixD_step rfl (fun K hK => ?_); have HKK := Go.Lib.hid hK; clear hK; go_simp; refine HKK.out _ ?_; clear HKK K)
          refine Go.Mix.mixD_eff rfl rfl (fun w7 hw7 hn7 => ?_) (fun v8 hv8 => ?_)
          · have f1 : FOwn wr.heap.size Fl 0 (.slice a1 n1 c1') w7 := (hn7 1 75 (by simp)).f1 rfl
            obtain ⟨i1, i2⟩ := HIN.out w7 hw7
            obtain ⟨v', w', hr, g1, g2, a', c', rfl⟩ := app_effect (sC := snC s) f1 i1 (HS1.out.below i2 (Nat.le_refl _)) HO1.out HQ8.out (by rw [HFLEN.out]; omega) (by omega) 28
            simp only [Nat.zero_add] at hr g2
            exact effR_run (.tmp 75) (.tmp 81) rfl rfl rfl hr ⟨g1, ⟨_, _, _, rfl⟩, ⟨fun h => absurd h (by decide), fun _ => g2, fun h => absurd h (by decide), fun h => absurd h (by decide), fun h => absurd h (by decide)⟩⟩
          obtain ⟨a8, n8, c8, rfl⟩ := hv8
          iterate 1 (refine Go.Mix.mixD_step rfl (fun K hK => ?_); have HKK := Go.Lib.hid hK; clear hK; go_simp; refine HKK.out _ ?_; clear HKK K)
          refine Go.Mix.mixD_eff rfl rfl (fun w7 hw7 hn7 => ?_) (fun v10 hv10 => ?_)
          · clear hn7
            obtain ⟨i1, i2⟩ := HIN.out w7 hw7
            go_simp
            have hnew := heap_alloc_new w7 (.cells (snA s) 46)
            refine ⟨GA.of_below ((Below.refl _ _).alloc (Nat.le_refl _) _) i1, ⟨_, _, _, rfl⟩, ⟨fun h => absurd h (by decide), fun h => absurd h (by decide), fun _ => ⟨w7.heap.size, rfl, i1, snA s, hnew, rfl, rfl⟩, fun h => absurd h (by decide), fun h => absurd h (by decide)⟩⟩
          obtain ⟨a10, n10, c10, rfl⟩ := hv10
          refine Go.Mix.mixD_eff rfl rfl (fun w7 hw7 hn7 => ?_) (fun v11 hv11 => ?_)
          · have f8 : FOwn wr.heap.size Fl k (.slice a8 n8 c8) w7 := (hn7 8 82 (by simp)).f8 rfl
            have f10 : FNew wr.heap.size (snC s) (.slice a10 n10 c10) w7 := (hn7 10 84 (by simp)).f10 rfl
            obtain ⟨i1, i2⟩ := HIN.out w7 hw7
            obtain ⟨v', w', hr, g1, g2, a', c', rfl⟩ := app_effect (sC := snC s) f8 i1 (f10.slc HL2.out) (snA_one s) HQ11.out (by rw [HFLEN.out]; omega) (by omega) 28
            exact effR_run (.tmp 82) (.tmp 84) rfl rfl rfl hr ⟨g1, ⟨_, _, _, rfl⟩, ⟨fun h => absurd h (by decide), fun h => absurd h (by decide), fun h => absurd h (by decide), fun _ => g2, fun h => absurd h (by decide)⟩⟩
          obtain ⟨a11, n11, c11, rfl⟩ := hv11
          iterate 6 (refine Go.Mix.mixD_step rfl (fun K hK => ?_); have HKK := Go.Lib.hid hK; clear hK; go_simp; refine HKK.out _ ?_; clear HKK K)
          refine Go.Mix.mixD_eff rfl rfl (fun w7 hw7 hn7 => ?_) (fun v18 hv18 => ?_)
          · have f11 : FOwn wr.heap.size Fl (k + 1) (.slice a11 n11 c11) w7 := (hn7 11 85 (by simp)).f11 rfl
            obtain ⟨i1, i2⟩ := HIN.out w7 hw7
            obtain ⟨v', w', hr, g1, g2, a', c', rfl⟩ := app_effect (sC := snC s) f11 i1 (HA2.out.below i2 (Nat.le_refl _)) HO2.out HQ18.out (by rw [HFLEN.out]; omega) (by omega) 28
            exact effR_run (.tmp 85) (.tmp 91) rfl rfl rfl hr ⟨g1, ⟨_, _, _, rfl⟩, ⟨fun h => absurd h (by decide), fun h => absurd h (by decide), fun h => absurd h (by decide), fun h => absurd h (by decide), fun _ => g2⟩⟩
          obtain ⟨a18, n18, c18, rfl⟩ := hv18
          iterate 2 (refine Go.Mix.mixD_step rfl (fun K hK => ?_); have HKK := Go.Lib.hid hK; clear hK; go_simp; refine HKK.out _ ?_; clear HKK K)
          refine Go.Mix.mixD_last rfl (fun w9 hg9 hP K hK => ?_)
          have f18 : FOwn wr.heap.size Fl (k + 1 + (N - k)) (.slice a18 n18 c18) w9 := hP.2.f18 rfl
          clear hP
          obtain ⟨i1, i2⟩ := HIN.out w9 hg9
          have hc9 : w9.heap[c]? = some (.cells #[.int .i64 most, .slice (some ⟨g, off, none⟩) N cap] 30 (0, 0)) := (i2.block c hlc).trans HCR.out
          have z1 : w9.cell? ⟨c, 1, none⟩ = some (.slice (some ⟨g, off, none⟩) N cap) := by simp [World.cell?, hc9]
          have z2 : w9.frozen? ⟨c, 1, none⟩ = false := frozen_row hc9 _
          have hset : w9.setCell ⟨c, 1, none⟩ (.slice a18 n18 c18) = w9.setRow c #[.int .i64 most, .slice a18 n18 c18] := setCell_eq_setRow w9 c 1 _ _ (0, 0) _ hc9
          have hne2 : (Value.slice a18 n18 c18).ownBlock ≠ some c := fun e => by
            have := (f18.1.lt c e).1
            omega
          have hown : (w9.setCell ⟨c, 1, none⟩ (.slice a18 n18 c18)).ownsRow wr.heap.size 46 9 (.slice a18 n18 c18) (N + 1) Fl := by
            have := World.ownsRow.kept f18.1 (w' := w9.setCell ⟨c, 1, none⟩ (.slice a18 n18 c18)) (row := some c) ⟨rfl, rfl, rfl, by rw [hset, setRow_size]; exact Nat.le_refl _, fun q hq hne => by rw [hset, setRow_other _ _ _ _ (fun e => hne (by rw [e]))]⟩ (.inr hne2)
            rw [show k + 1 + (N - k) = N + 1 by omega, List.take_of_length_le (by rw [HFLEN.out]; exact Nat.le_refl _)] at this
            exact this
          have hft : (w9.setCell ⟨c, 1, none⟩ (.slice a18 n18 c18)).heap[c]? = some (.cells #[.int .i64 most, .slice a18 n18 c18] 30 (0, 0)) := by rw [hset]; exact heap_row hc9
          have hbw := (HWX.out.trans (HB.out.mono HWX.out.size)).trans (i2.mono (by have := HWX.out.size; have := HB.out.size; omega))
          have hbz := (hbw.mono hbase).setCell (p := ⟨c, 1, none⟩) hcb (.slice a18 n18 c18)
          have hkz : KeepsC c w (w9.setCell ⟨c, 1, none⟩ (.slice a18 n18 c18)) := ⟨by rw [hset, setRow_size]; exact hbw.size, fun q hq hqc => by rw [hset, setRow_other _ _ _ _ hqc]; exact hbw.block q hq⟩
          have hws : w.heap.size ≤ wr.heap.size := by have := HWX.out.size; have := HB.out.size; omega
          have HOWN := Go.Lib.hid hown
          have HFT := Go.Lib.hid hft
          have HBZ := Go.Lib.hid hbz
          have HKZ := Go.Lib.hid hkz
          have HKK := Go.Lib.hid hK
          have HWS := Go.Lib.hid hws
          clear hown hft hbz hkz hK hws
          clear hset hne2 hc9 f18 i2 hg9 X1 Y0 Y1 Y2 Y3 Y4 Y5 Y6 Y7 Y8 hneG
          rw [if_pos (show Region.wanted _ _ = true from rfl)]
          go_simp
          refine HKK.out _ _ ?_
          clear HKK K
          go_wp2_with fail
          go_ret
          rw [hr.out]
          refine ⟨rfl, ⟨hcb, _, HFT.out, ?_⟩, HBZ.out, HKZ.out⟩
          have hll : (l.take k ++ [s] ++ l.drop k).length = N + 1 := by have := HLEN.out; simp; omega
          rw [hll, ← hFl]
          exact owns_base HOWN.out (by have := HWS.out; omega)
end Go.Proofs.Ytblbphnmflbepaa

