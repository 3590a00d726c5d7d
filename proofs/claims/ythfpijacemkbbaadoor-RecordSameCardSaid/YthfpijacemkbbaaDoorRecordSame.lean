/- RecordSame: letters' size in names makes no other record; another type or class does; times are not asked. For every input; no conditions. -/
import Derived.Test.YthfpijacemkbbaaDoorRqM
import Derived.Test.YthfpijacemkbbaaDoorDoor
import Derived.Test.YthfpijacemkbbaaDoorTie
import Derived.Test.YthfpijacemkbbaaDoorCards
namespace Go.Proofs.YthfpijacemkbbaaDoor.recordSame
open Go.ChangeShapes Go.WideShapes Go.ChangeAt Go.RowKit
open Go.ChangeMaps (open_string shut_string)
set_option linter.unusedVariables false

set_option maxRecDepth 100000 in
set_option maxHeartbeats 16000000 in
theorem t1 (n o : List UInt8) (ttl kind : Int) (w : World) (hn : n.length ≤ maxLen) (ho : o.length ≤ maxLen) (h0 : 100 < n.length ∨ (n.length ≤ 100 ∧ 100 < o.length)) :
    Calls Tryd.prog 5 #[.string (mk n), .string (mk o), .int .i64 ttl, .int .i64 kind] w fun e w' => e = .returned (.bool true) ∧ Below w.heap.size w w' := by
  have HAW := Go.Lib.hid awake_any
  have hnm : (mk n).size = n.length := size_mk n
  have hom : (mk o).size = o.length := size_mk o
  unfold maxLen at hn ho
  rcases h0 with h0 | ⟨h0, h1⟩
  · have e1 : (100 : Int) < (n.length : Int) := by omega
    clear h0
    go_enter Tryd.func5, Tryd.ntmps5
    go_wp2_with fail
    refine (HAW.out _).mono ?_; rintro e wz ⟨rfl, hx⟩
    have HXX := Go.Lib.hid hx
    clear hx
    go_wp2_with fail
    go_ret
    exact ⟨rfl, HXX.out⟩
  · have e1 : ¬ (100 : Int) < (n.length : Int) := by omega
    have e2 : (100 : Int) < (o.length : Int) := by omega
    clear h0 h1
    go_enter Tryd.func5, Tryd.ntmps5
    go_wp2_with fail
    refine (HAW.out _).mono ?_; rintro e wz ⟨rfl, hx⟩
    have HXX := Go.Lib.hid hx
    clear hx
    go_wp2_with fail
    go_ret
    exact ⟨rfl, HXX.out⟩

set_option maxRecDepth 100000 in
set_option maxHeartbeats 16000000 in
theorem t2 (n o : List UInt8) (ttl kind : Int) (w : World) (h0 : n.length ≤ 100) (h1 : o.length ≤ 100)
    (HV : Hid (∀ W, Calls Tryd.prog 35 #[.string (mk n)] W fun e w' => e = .returned (.bool false) ∧ Below W.heap.size W w')) :
    Calls Tryd.prog 5 #[.string (mk n), .string (mk o), .int .i64 ttl, .int .i64 kind] w fun e w' => e = .returned (.bool true) ∧ Below w.heap.size w w' := by
  have HAW := Go.Lib.hid awake_any
  have HB := Go.Lib.hid (Below.refl w.heap.size w)
  have hnm : (mk n).size = n.length := size_mk n
  have hom : (mk o).size = o.length := size_mk o
  have e1 : ¬ (100 : Int) < (n.length : Int) := by omega
  have e2 : ¬ (100 : Int) < (o.length : Int) := by omega
  go_enter Tryd.func5, Tryd.ntmps5
  go_wp2_with fail
  refine (HV.out _).mono ?_; rintro e wb1 ⟨rfl, hx⟩
  have hb := HB.out.trans (hx.mono HB.out.size)
  clear HB
  have HB := Go.Lib.hid hb
  clear hx hb
  go_wp2_with fail
  refine (HAW.out _).mono ?_; rintro e wb2 ⟨rfl, hx⟩
  have hb := HB.out.trans (hx.mono HB.out.size)
  clear HB
  have HB := Go.Lib.hid hb
  clear hx hb
  go_wp2_with fail
  go_ret
  exact ⟨rfl, HB.out⟩

set_option maxRecDepth 100000 in
set_option maxHeartbeats 16000000 in
theorem t3 (n o : List UInt8) (ttl kind : Int) (w : World) (h0 : n.length ≤ 100) (h1 : o.length ≤ 100)
    (HV : Hid (∀ W, Calls Tryd.prog 35 #[.string (mk n)] W fun e w' => e = .returned (.bool true) ∧ Below W.heap.size W w'))
    (HV2 : Hid (∀ W, Calls Tryd.prog 35 #[.string (mk o)] W fun e w' => e = .returned (.bool false) ∧ Below W.heap.size W w')) :
    Calls Tryd.prog 5 #[.string (mk n), .string (mk o), .int .i64 ttl, .int .i64 kind] w fun e w' => e = .returned (.bool true) ∧ Below w.heap.size w w' := by
  have HAW := Go.Lib.hid awake_any
  have HB := Go.Lib.hid (Below.refl w.heap.size w)
  have hnm : (mk n).size = n.length := size_mk n
  have hom : (mk o).size = o.length := size_mk o
  have e1 : ¬ (100 : Int) < (n.length : Int) := by omega
  have e2 : ¬ (100 : Int) < (o.length : Int) := by omega
  go_enter Tryd.func5, Tryd.ntmps5
  go_wp2_with fail
  refine (HV.out _).mono ?_; rintro e wb3 ⟨rfl, hx⟩
  have hb := HB.out.trans (hx.mono HB.out.size)
  clear HB
  have HB := Go.Lib.hid hb
  clear hx hb
  go_wp2_with fail
  refine (HV2.out _).mono ?_; rintro e wb4 ⟨rfl, hx⟩
  have hb := HB.out.trans (hx.mono HB.out.size)
  clear HB
  have HB := Go.Lib.hid hb
  clear hx hb
  go_wp2_with fail
  refine (HAW.out _).mono ?_; rintro e wb5 ⟨rfl, hx⟩
  have hb := HB.out.trans (hx.mono HB.out.size)
  clear HB
  have HB := Go.Lib.hid hb
  clear hx hb
  go_wp2_with fail
  go_ret
  exact ⟨rfl, HB.out⟩

set_option maxRecDepth 100000 in
set_option maxHeartbeats 16000000 in
theorem k0 (n o fn fo : List UInt8) (ttl kind : Int) (w : World) (h0 : n.length ≤ 100) (h1 : o.length ≤ 100)
    (HV : Hid (∀ W, Calls Tryd.prog 35 #[.string (mk n)] W fun e w' => e = .returned (.bool true) ∧ Below W.heap.size W w'))
    (HV2 : Hid (∀ W, Calls Tryd.prog 35 #[.string (mk o)] W fun e w' => e = .returned (.bool true) ∧ Below W.heap.size W w'))
    (HF : Hid (∀ W, Calls Tryd.prog 37 #[.string (mk n)] W fun e w' => e = .returned (.string (mk fn)) ∧ Below W.heap.size W w'))
    (HF2 : Hid (∀ W, Calls Tryd.prog 37 #[.string (mk o)] W fun e w' => e = .returned (.string (mk fo)) ∧ Below W.heap.size W w'))
    (HRN : Hid (∀ W, Calls Tryd.prog 36 #[.int .i64 kind, .int .i64 3] W fun e w' => e = .returned (.int .i64 0) ∧ W = w'))
    (HOA : Hid (RROk ⟨n, 2, 1, 0, o⟩)) (HOB : Hid (RROk ⟨fn, 2, 1, ttl, fo⟩)) (HOC : Hid (RROk ⟨fn, 2, 3, ttl, fo⟩)) (HOD : Hid (RROk ⟨fn, 16, 1, ttl, fo⟩))
    (HAB : Hid (Rc.sameRR ⟨n, 2, 1, 0, o⟩ ⟨fn, 2, 1, ttl, fo⟩ = true)) (HBA : Hid (Rc.sameRR ⟨fn, 2, 1, ttl, fo⟩ ⟨n, 2, 1, 0, o⟩ = true))
    (HAC : Hid (Rc.sameRR ⟨n, 2, 1, 0, o⟩ ⟨fn, 2, 3, ttl, fo⟩ = false)) (HAD : Hid (Rc.sameRR ⟨n, 2, 1, 0, o⟩ ⟨fn, 16, 1, ttl, fo⟩ = false))
    (HS1 : Hid (sameSetB [⟨n, 2, 1, 0, o⟩, ⟨n, 2, 1, 0, o⟩] [⟨fn, 2, 1, ttl, fo⟩] = true)) (HS2 : Hid (sameSetB [⟨n, 2, 1, 0, o⟩, ⟨fn, 2, 3, ttl, fo⟩] [⟨fn, 2, 1, ttl, fo⟩] = false)) :
    Calls Tryd.prog 5 #[.string (mk n), .string (mk o), .int .i64 ttl, .int .i64 kind] w fun e w' => e = .returned (.bool true) ∧ Below w.heap.size w w' := by
  have HAW := Go.Lib.hid awake_any
  have HB := Go.Lib.hid (Below.refl w.heap.size w)
  have hnm : (mk n).size = n.length := size_mk n
  have hom : (mk o).size = o.length := size_mk o
  have e1 : ¬ (100 : Int) < (n.length : Int) := by omega
  have e2 : ¬ (100 : Int) < (o.length : Int) := by omega
  go_enter Tryd.func5, Tryd.ntmps5
  go_wp2_with fail
  refine (HV.out _).mono ?_; rintro e wb6 ⟨rfl, hx⟩
  have hb := HB.out.trans (hx.mono HB.out.size)
  clear HB
  have HB := Go.Lib.hid hb
  clear hx hb
  go_wp2_with fail
  refine (HV2.out _).mono ?_; rintro e w2 ⟨rfl, hx⟩
  have hb := HB.out.trans (hx.mono HB.out.size)
  have HB2 := Go.Lib.hid hb
  clear hb
  clear HB hx
  go_wp2_with fail
  refine (HRN.out _).mono ?_; rintro e _ ⟨rfl, rfl⟩
  go_wp2_with fail
  have hV1 : Below w.heap.size w ((w2.alloc (.cells #[.int .i64 2, .int .i64 5, .int .i64 12] 3)).alloc (.cells (rrC ⟨n, 2, 1, 0, o⟩) 23)) := (HB2.out.alloc HB2.out.size _).alloc (by have := HB2.out.size; simp; omega) _
  have hA1 := World.alloc_heap_new (w2.alloc (.cells #[.int .i64 2, .int .i64 5, .int .i64 12] 3)) (.cells (rrC ⟨n, 2, 1, 0, o⟩) 23)
  rw [World.size_alloc] at hA1
  change Calls _ _ _ ((w2.alloc (.cells #[.int .i64 2, .int .i64 5, .int .i64 12] 3)).alloc (.cells (rrC ⟨n, 2, 1, 0, o⟩) 23)) _
  generalize (w2.alloc (.cells #[.int .i64 2, .int .i64 5, .int .i64 12] 3)).alloc (.cells (rrC ⟨n, 2, 1, 0, o⟩) 23) = V1 at *
  generalize w2.heap.size + 1 = na at *
  refine (HF.out _).mono ?_; rintro e w3 ⟨rfl, hx⟩
  have hb3 := hV1.trans (hx.mono hV1.size)
  have hA3 := (hx.block _ (Array.getElem?_eq_some_iff.1 hA1).1).trans hA1
  clear hx hV1 hA1 HB2
  have HB3 := Go.Lib.hid hb3
  have HA3 := Go.Lib.hid hA3
  clear hb3 hA3
  go_wp2_with fail
  refine (HF2.out _).mono ?_; rintro e w4 ⟨rfl, hx⟩
  have hb4 := HB3.out.trans (hx.mono HB3.out.size)
  have hA4 := (hx.block _ (Array.getElem?_eq_some_iff.1 HA3.out).1).trans HA3.out
  clear hx HB3 HA3
  have hlA := (Array.getElem?_eq_some_iff.1 hA4).1
  have hgA := cell_of_heap hA4
  have cA0 : ∀ W', Below w4.heap.size w4 W' → W'.cell? ⟨na, 0, none⟩ = some (.string (mk n)) := fun W' h => (h.cell (p := ⟨na, 0, none⟩) hlA).trans (hgA 0)
  have cA1 : ∀ W', Below w4.heap.size w4 W' → W'.cell? ⟨na, 1, none⟩ = some (.int .i64 2) := fun W' h => (h.cell (p := ⟨na, 1, none⟩) hlA).trans (hgA 1)
  have cA2 : ∀ W', Below w4.heap.size w4 W' → W'.cell? ⟨na, 2, none⟩ = some (.int .i64 1) := fun W' h => (h.cell (p := ⟨na, 2, none⟩) hlA).trans (hgA 2)
  have cA3 : ∀ W', Below w4.heap.size w4 W' → W'.cell? ⟨na, 3, none⟩ = some (.int .i64 0) := fun W' h => (h.cell (p := ⟨na, 3, none⟩) hlA).trans (hgA 3)
  have cA4 : ∀ W', Below w4.heap.size w4 W' → W'.cell? ⟨na, 4, none⟩ = some (.string (mk o)) := fun W' h => (h.cell (p := ⟨na, 4, none⟩) hlA).trans (hgA 4)
  have hz : ∀ o1 o2 o3, Below w4.heap.size w4 (((w4.alloc o1).alloc o2).alloc o3).drew := fun o1 o2 o3 => ((((Below.refl _ w4).alloc (Nat.le_refl _) o1).alloc (by simp) o2).alloc (by simp; omega) o3).drew
  clear hgA
  have HB4 := Go.Lib.hid hb4
  have HA4 := Go.Lib.hid hA4
  clear hb4 hA4
  go_wp2_with fail
  go_region
  all_goals go_wp2_with fail
  · change Calls _ _ _ ((((w4.alloc (.cells (rrC ⟨fn, 2, 1, ttl, fo⟩) 23)).alloc (.cells (rrC ⟨fn, 2, 3, ttl, fo⟩) 23)).alloc (.cells (rrC ⟨fn, 16, 1, ttl, fo⟩) 23)).drew) _
    obtain ⟨hB, hC, hD, hbX⟩ := three_rows w4 (rrC ⟨fn, 2, 1, ttl, fo⟩) (rrC ⟨fn, 2, 3, ttl, fo⟩) (rrC ⟨fn, 16, 1, ttl, fo⟩) 23
    have hA := heap_later (B := 0) HA4.out hbX
    have hb5 := HB4.out.trans (hbX.mono HB4.out.size)
    clear cA0 cA1 cA2 cA3 cA4 hz hbX HA4 HB4 hlA
    generalize (((w4.alloc (.cells (rrC ⟨fn, 2, 1, ttl, fo⟩) 23)).alloc (.cells (rrC ⟨fn, 2, 3, ttl, fo⟩) 23)).alloc (.cells (rrC ⟨fn, 16, 1, ttl, fo⟩) 23)).drew = X at *
    generalize w4.heap.size = nb at *
    generalize nb + 1 = m1 at *
    generalize m1 + 1 = m2 at *
    obtain ⟨cA0, cA1, cA2, cA3, cA4⟩ := rr_cells hA
    obtain ⟨cB0, cB1, cB2, cB3, cB4⟩ := rr_cells hB
    obtain ⟨cC0, cC1, cC2, cC3, cC4⟩ := rr_cells hC
    obtain ⟨cD0, cD1, cD2, cD3, cD4⟩ := rr_cells hD
    clear hA hB hC hD
    have HB5 := Go.Lib.hid hb5
    clear hb5
    refine (recSame_any ⟨n, 2, 1, 0, o⟩ ⟨fn, 2, 1, ttl, fo⟩ _ HOA.out HOB.out).mono ?_; rintro e X1 ⟨rfl, hx⟩
    rw [HAB.out]
    have hx1 := hx
    clear hx
    go_wp2_with fail
    refine (recSame_any ⟨fn, 2, 1, ttl, fo⟩ ⟨n, 2, 1, 0, o⟩ _ HOB.out HOA.out).mono ?_; rintro e X2 ⟨rfl, hx⟩
    rw [HBA.out]
    have hx2 := hx1.trans (hx.mono hx1.size)
    clear hx hx1
    go_wp2_with fail
    refine (recSame_any ⟨n, 2, 1, 0, o⟩ ⟨fn, 2, 3, ttl, fo⟩ _ HOA.out HOC.out).mono ?_; rintro e X3 ⟨rfl, hx⟩
    rw [HAC.out]
    have hx3 := hx2.trans (hx.mono hx2.size)
    clear hx hx2
    go_wp2_with fail
    refine (recSame_any ⟨n, 2, 1, 0, o⟩ ⟨fn, 16, 1, ttl, fo⟩ _ HOA.out HOD.out).mono ?_; rintro e X4 ⟨rfl, hx⟩
    rw [HAD.out]
    have hx4 := hx3.trans (hx.mono hx3.size)
    clear hx hx3
    have hbz : ∀ o, Below X.heap.size X (X4.alloc o) := fun o => hx4.alloc hx4.size o
    go_wp2_with fail
    obtain ⟨ra, rb, hbl⟩ := two_sets X4 [⟨n, 2, 1, 0, o⟩, ⟨n, 2, 1, 0, o⟩] [⟨fn, 2, 1, ttl, fo⟩] (by simp [maxLen]) (by simp [maxLen])
    refine (SameSet_any _ _ [⟨n, 2, 1, 0, o⟩, ⟨n, 2, 1, 0, o⟩] [⟨fn, 2, 1, ttl, fo⟩] _ ra rb (by simp) (by simp) (by intro r hr; simp at hr; rcases hr with rfl | rfl <;> first | exact HOA.out | exact HOC.out | exact HOB.out) (by intro r hr; simp at hr; subst hr; exact HOB.out)).mono ?_; rintro e X5 ⟨rfl, hx⟩
    rw [HS1.out]
    have hx5 := hx4.trans ((hbl.trans (hx.mono hbl.size)).mono hx4.size)
    clear hx hx4 ra rb hbl hbz
    have hbz : ∀ o, Below X.heap.size X (X5.alloc o) := fun o => hx5.alloc hx5.size o
    go_wp2_with fail
    obtain ⟨ra, rb, hbl⟩ := two_sets X5 [⟨n, 2, 1, 0, o⟩, ⟨fn, 2, 3, ttl, fo⟩] [⟨fn, 2, 1, ttl, fo⟩] (by simp [maxLen]) (by simp [maxLen])
    refine (SameSet_any _ _ [⟨n, 2, 1, 0, o⟩, ⟨fn, 2, 3, ttl, fo⟩] [⟨fn, 2, 1, ttl, fo⟩] _ ra rb (by simp) (by simp) (by intro r hr; simp at hr; rcases hr with rfl | rfl <;> first | exact HOA.out | exact HOC.out | exact HOB.out) (by intro r hr; simp at hr; subst hr; exact HOB.out)).mono ?_; rintro e X6 ⟨rfl, hx⟩
    rw [HS2.out]
    have hx6 := hx5.trans ((hbl.trans (hx.mono hbl.size)).mono hx5.size)
    clear hx hx5 ra rb hbl hbz
    go_wp2_with fail
    refine (HAW.out _).mono ?_; rintro e wz ⟨rfl, hx⟩
    have hbe := HB5.out.trans ((hx6.trans (hx.mono hx6.size)).mono HB5.out.size)
    have HBE := Go.Lib.hid hbe
    clear hbe
    clear hx hx6
    go_wp2_with fail
    go_ret
    exact ⟨rfl, HBE.out⟩
  · change Calls _ _ _ ((((w4.alloc (.cells (rrC ⟨fn, 2, 1, ttl, fo⟩) 23)).alloc (.cells (rrC ⟨fn, 16, 1, ttl, fo⟩) 23)).alloc (.cells (rrC ⟨fn, 2, 3, ttl, fo⟩) 23)).drew) _
    obtain ⟨hB, hD, hC, hbX⟩ := three_rows w4 (rrC ⟨fn, 2, 1, ttl, fo⟩) (rrC ⟨fn, 16, 1, ttl, fo⟩) (rrC ⟨fn, 2, 3, ttl, fo⟩) 23
    have hA := heap_later (B := 0) HA4.out hbX
    have hb5 := HB4.out.trans (hbX.mono HB4.out.size)
    clear cA0 cA1 cA2 cA3 cA4 hz hbX HA4 HB4 hlA
    generalize (((w4.alloc (.cells (rrC ⟨fn, 2, 1, ttl, fo⟩) 23)).alloc (.cells (rrC ⟨fn, 16, 1, ttl, fo⟩) 23)).alloc (.cells (rrC ⟨fn, 2, 3, ttl, fo⟩) 23)).drew = X at *
    generalize w4.heap.size = nb at *
    generalize nb + 1 = m1 at *
    generalize m1 + 1 = m2 at *
    obtain ⟨cA0, cA1, cA2, cA3, cA4⟩ := rr_cells hA
    obtain ⟨cB0, cB1, cB2, cB3, cB4⟩ := rr_cells hB
    obtain ⟨cC0, cC1, cC2, cC3, cC4⟩ := rr_cells hC
    obtain ⟨cD0, cD1, cD2, cD3, cD4⟩ := rr_cells hD
    clear hA hB hC hD
    have HB5 := Go.Lib.hid hb5
    clear hb5
    refine (recSame_any ⟨n, 2, 1, 0, o⟩ ⟨fn, 2, 1, ttl, fo⟩ _ HOA.out HOB.out).mono ?_; rintro e X1 ⟨rfl, hx⟩
    rw [HAB.out]
    have hx1 := hx
    clear hx
    go_wp2_with fail
    refine (recSame_any ⟨fn, 2, 1, ttl, fo⟩ ⟨n, 2, 1, 0, o⟩ _ HOB.out HOA.out).mono ?_; rintro e X2 ⟨rfl, hx⟩
    rw [HBA.out]
    have hx2 := hx1.trans (hx.mono hx1.size)
    clear hx hx1
    go_wp2_with fail
    refine (recSame_any ⟨n, 2, 1, 0, o⟩ ⟨fn, 2, 3, ttl, fo⟩ _ HOA.out HOC.out).mono ?_; rintro e X3 ⟨rfl, hx⟩
    rw [HAC.out]
    have hx3 := hx2.trans (hx.mono hx2.size)
    clear hx hx2
    go_wp2_with fail
    refine (recSame_any ⟨n, 2, 1, 0, o⟩ ⟨fn, 16, 1, ttl, fo⟩ _ HOA.out HOD.out).mono ?_; rintro e X4 ⟨rfl, hx⟩
    rw [HAD.out]
    have hx4 := hx3.trans (hx.mono hx3.size)
    clear hx hx3
    have hbz : ∀ o, Below X.heap.size X (X4.alloc o) := fun o => hx4.alloc hx4.size o
    go_wp2_with fail
    obtain ⟨ra, rb, hbl⟩ := two_sets X4 [⟨n, 2, 1, 0, o⟩, ⟨n, 2, 1, 0, o⟩] [⟨fn, 2, 1, ttl, fo⟩] (by simp [maxLen]) (by simp [maxLen])
    refine (SameSet_any _ _ [⟨n, 2, 1, 0, o⟩, ⟨n, 2, 1, 0, o⟩] [⟨fn, 2, 1, ttl, fo⟩] _ ra rb (by simp) (by simp) (by intro r hr; simp at hr; rcases hr with rfl | rfl <;> first | exact HOA.out | exact HOC.out | exact HOB.out) (by intro r hr; simp at hr; subst hr; exact HOB.out)).mono ?_; rintro e X5 ⟨rfl, hx⟩
    rw [HS1.out]
    have hx5 := hx4.trans ((hbl.trans (hx.mono hbl.size)).mono hx4.size)
    clear hx hx4 ra rb hbl hbz
    have hbz : ∀ o, Below X.heap.size X (X5.alloc o) := fun o => hx5.alloc hx5.size o
    go_wp2_with fail
    obtain ⟨ra, rb, hbl⟩ := two_sets X5 [⟨n, 2, 1, 0, o⟩, ⟨fn, 2, 3, ttl, fo⟩] [⟨fn, 2, 1, ttl, fo⟩] (by simp [maxLen]) (by simp [maxLen])
    refine (SameSet_any _ _ [⟨n, 2, 1, 0, o⟩, ⟨fn, 2, 3, ttl, fo⟩] [⟨fn, 2, 1, ttl, fo⟩] _ ra rb (by simp) (by simp) (by intro r hr; simp at hr; rcases hr with rfl | rfl <;> first | exact HOA.out | exact HOC.out | exact HOB.out) (by intro r hr; simp at hr; subst hr; exact HOB.out)).mono ?_; rintro e X6 ⟨rfl, hx⟩
    rw [HS2.out]
    have hx6 := hx5.trans ((hbl.trans (hx.mono hbl.size)).mono hx5.size)
    clear hx hx5 ra rb hbl hbz
    go_wp2_with fail
    refine (HAW.out _).mono ?_; rintro e wz ⟨rfl, hx⟩
    have hbe := HB5.out.trans ((hx6.trans (hx.mono hx6.size)).mono HB5.out.size)
    have HBE := Go.Lib.hid hbe
    clear hbe
    clear hx hx6
    go_wp2_with fail
    go_ret
    exact ⟨rfl, HBE.out⟩
set_option maxRecDepth 100000 in
set_option maxHeartbeats 16000000 in
theorem k1 (n o fn fo : List UInt8) (ttl kind : Int) (w : World) (h0 : n.length ≤ 100) (h1 : o.length ≤ 100)
    (HV : Hid (∀ W, Calls Tryd.prog 35 #[.string (mk n)] W fun e w' => e = .returned (.bool true) ∧ Below W.heap.size W w'))
    (HV2 : Hid (∀ W, Calls Tryd.prog 35 #[.string (mk o)] W fun e w' => e = .returned (.bool true) ∧ Below W.heap.size W w'))
    (HF : Hid (∀ W, Calls Tryd.prog 37 #[.string (mk n)] W fun e w' => e = .returned (.string (mk fn)) ∧ Below W.heap.size W w'))
    (HF2 : Hid (∀ W, Calls Tryd.prog 37 #[.string (mk o)] W fun e w' => e = .returned (.string (mk fo)) ∧ Below W.heap.size W w'))
    (HRN : Hid (∀ W, Calls Tryd.prog 36 #[.int .i64 kind, .int .i64 3] W fun e w' => e = .returned (.int .i64 1) ∧ W = w'))
    (HOA : Hid (RROk ⟨n, 5, 1, 0, o⟩)) (HOB : Hid (RROk ⟨fn, 5, 1, ttl, fo⟩)) (HOC : Hid (RROk ⟨fn, 5, 3, ttl, fo⟩)) (HOD : Hid (RROk ⟨fn, 16, 1, ttl, fo⟩))
    (HAB : Hid (Rc.sameRR ⟨n, 5, 1, 0, o⟩ ⟨fn, 5, 1, ttl, fo⟩ = true)) (HBA : Hid (Rc.sameRR ⟨fn, 5, 1, ttl, fo⟩ ⟨n, 5, 1, 0, o⟩ = true))
    (HAC : Hid (Rc.sameRR ⟨n, 5, 1, 0, o⟩ ⟨fn, 5, 3, ttl, fo⟩ = false)) (HAD : Hid (Rc.sameRR ⟨n, 5, 1, 0, o⟩ ⟨fn, 16, 1, ttl, fo⟩ = false))
    (HS1 : Hid (sameSetB [⟨n, 5, 1, 0, o⟩, ⟨n, 5, 1, 0, o⟩] [⟨fn, 5, 1, ttl, fo⟩] = true)) (HS2 : Hid (sameSetB [⟨n, 5, 1, 0, o⟩, ⟨fn, 5, 3, ttl, fo⟩] [⟨fn, 5, 1, ttl, fo⟩] = false)) :
    Calls Tryd.prog 5 #[.string (mk n), .string (mk o), .int .i64 ttl, .int .i64 kind] w fun e w' => e = .returned (.bool true) ∧ Below w.heap.size w w' := by
  have HAW := Go.Lib.hid awake_any
  have HB := Go.Lib.hid (Below.refl w.heap.size w)
  have hnm : (mk n).size = n.length := size_mk n
  have hom : (mk o).size = o.length := size_mk o
  have e1 : ¬ (100 : Int) < (n.length : Int) := by omega
  have e2 : ¬ (100 : Int) < (o.length : Int) := by omega
  go_enter Tryd.func5, Tryd.ntmps5
  go_wp2_with fail
  refine (HV.out _).mono ?_; rintro e wb7 ⟨rfl, hx⟩
  have hb := HB.out.trans (hx.mono HB.out.size)
  clear HB
  have HB := Go.Lib.hid hb
  clear hx hb
  go_wp2_with fail
  refine (HV2.out _).mono ?_; rintro e w2 ⟨rfl, hx⟩
  have hb := HB.out.trans (hx.mono HB.out.size)
  have HB2 := Go.Lib.hid hb
  clear hb
  clear HB hx
  go_wp2_with fail
  refine (HRN.out _).mono ?_; rintro e _ ⟨rfl, rfl⟩
  go_wp2_with fail
  have hV1 : Below w.heap.size w ((w2.alloc (.cells #[.int .i64 2, .int .i64 5, .int .i64 12] 3)).alloc (.cells (rrC ⟨n, 5, 1, 0, o⟩) 23)) := (HB2.out.alloc HB2.out.size _).alloc (by have := HB2.out.size; simp; omega) _
  have hA1 := World.alloc_heap_new (w2.alloc (.cells #[.int .i64 2, .int .i64 5, .int .i64 12] 3)) (.cells (rrC ⟨n, 5, 1, 0, o⟩) 23)
  rw [World.size_alloc] at hA1
  change Calls _ _ _ ((w2.alloc (.cells #[.int .i64 2, .int .i64 5, .int .i64 12] 3)).alloc (.cells (rrC ⟨n, 5, 1, 0, o⟩) 23)) _
  generalize (w2.alloc (.cells #[.int .i64 2, .int .i64 5, .int .i64 12] 3)).alloc (.cells (rrC ⟨n, 5, 1, 0, o⟩) 23) = V1 at *
  generalize w2.heap.size + 1 = na at *
  refine (HF.out _).mono ?_; rintro e w3 ⟨rfl, hx⟩
  have hb3 := hV1.trans (hx.mono hV1.size)
  have hA3 := (hx.block _ (Array.getElem?_eq_some_iff.1 hA1).1).trans hA1
  clear hx hV1 hA1 HB2
  have HB3 := Go.Lib.hid hb3
  have HA3 := Go.Lib.hid hA3
  clear hb3 hA3
  go_wp2_with fail
  refine (HF2.out _).mono ?_; rintro e w4 ⟨rfl, hx⟩
  have hb4 := HB3.out.trans (hx.mono HB3.out.size)
  have hA4 := (hx.block _ (Array.getElem?_eq_some_iff.1 HA3.out).1).trans HA3.out
  clear hx HB3 HA3
  have hlA := (Array.getElem?_eq_some_iff.1 hA4).1
  have hgA := cell_of_heap hA4
  have cA0 : ∀ W', Below w4.heap.size w4 W' → W'.cell? ⟨na, 0, none⟩ = some (.string (mk n)) := fun W' h => (h.cell (p := ⟨na, 0, none⟩) hlA).trans (hgA 0)
  have cA1 : ∀ W', Below w4.heap.size w4 W' → W'.cell? ⟨na, 1, none⟩ = some (.int .i64 5) := fun W' h => (h.cell (p := ⟨na, 1, none⟩) hlA).trans (hgA 1)
  have cA2 : ∀ W', Below w4.heap.size w4 W' → W'.cell? ⟨na, 2, none⟩ = some (.int .i64 1) := fun W' h => (h.cell (p := ⟨na, 2, none⟩) hlA).trans (hgA 2)
  have cA3 : ∀ W', Below w4.heap.size w4 W' → W'.cell? ⟨na, 3, none⟩ = some (.int .i64 0) := fun W' h => (h.cell (p := ⟨na, 3, none⟩) hlA).trans (hgA 3)
  have cA4 : ∀ W', Below w4.heap.size w4 W' → W'.cell? ⟨na, 4, none⟩ = some (.string (mk o)) := fun W' h => (h.cell (p := ⟨na, 4, none⟩) hlA).trans (hgA 4)
  have hz : ∀ o1 o2 o3, Below w4.heap.size w4 (((w4.alloc o1).alloc o2).alloc o3).drew := fun o1 o2 o3 => ((((Below.refl _ w4).alloc (Nat.le_refl _) o1).alloc (by simp) o2).alloc (by simp; omega) o3).drew
  clear hgA
  have HB4 := Go.Lib.hid hb4
  have HA4 := Go.Lib.hid hA4
  clear hb4 hA4
  go_wp2_with fail
  go_region
  all_goals go_wp2_with fail
  · change Calls _ _ _ ((((w4.alloc (.cells (rrC ⟨fn, 5, 1, ttl, fo⟩) 23)).alloc (.cells (rrC ⟨fn, 5, 3, ttl, fo⟩) 23)).alloc (.cells (rrC ⟨fn, 16, 1, ttl, fo⟩) 23)).drew) _
    obtain ⟨hB, hC, hD, hbX⟩ := three_rows w4 (rrC ⟨fn, 5, 1, ttl, fo⟩) (rrC ⟨fn, 5, 3, ttl, fo⟩) (rrC ⟨fn, 16, 1, ttl, fo⟩) 23
    have hA := heap_later (B := 0) HA4.out hbX
    have hb5 := HB4.out.trans (hbX.mono HB4.out.size)
    clear cA0 cA1 cA2 cA3 cA4 hz hbX HA4 HB4 hlA
    generalize (((w4.alloc (.cells (rrC ⟨fn, 5, 1, ttl, fo⟩) 23)).alloc (.cells (rrC ⟨fn, 5, 3, ttl, fo⟩) 23)).alloc (.cells (rrC ⟨fn, 16, 1, ttl, fo⟩) 23)).drew = X at *
    generalize w4.heap.size = nb at *
    generalize nb + 1 = m1 at *
    generalize m1 + 1 = m2 at *
    obtain ⟨cA0, cA1, cA2, cA3, cA4⟩ := rr_cells hA
    obtain ⟨cB0, cB1, cB2, cB3, cB4⟩ := rr_cells hB
    obtain ⟨cC0, cC1, cC2, cC3, cC4⟩ := rr_cells hC
    obtain ⟨cD0, cD1, cD2, cD3, cD4⟩ := rr_cells hD
    clear hA hB hC hD
    have HB5 := Go.Lib.hid hb5
    clear hb5
    refine (recSame_any ⟨n, 5, 1, 0, o⟩ ⟨fn, 5, 1, ttl, fo⟩ _ HOA.out HOB.out).mono ?_; rintro e X1 ⟨rfl, hx⟩
    rw [HAB.out]
    have hx1 := hx
    clear hx
    go_wp2_with fail
    refine (recSame_any ⟨fn, 5, 1, ttl, fo⟩ ⟨n, 5, 1, 0, o⟩ _ HOB.out HOA.out).mono ?_; rintro e X2 ⟨rfl, hx⟩
    rw [HBA.out]
    have hx2 := hx1.trans (hx.mono hx1.size)
    clear hx hx1
    go_wp2_with fail
    refine (recSame_any ⟨n, 5, 1, 0, o⟩ ⟨fn, 5, 3, ttl, fo⟩ _ HOA.out HOC.out).mono ?_; rintro e X3 ⟨rfl, hx⟩
    rw [HAC.out]
    have hx3 := hx2.trans (hx.mono hx2.size)
    clear hx hx2
    go_wp2_with fail
    refine (recSame_any ⟨n, 5, 1, 0, o⟩ ⟨fn, 16, 1, ttl, fo⟩ _ HOA.out HOD.out).mono ?_; rintro e X4 ⟨rfl, hx⟩
    rw [HAD.out]
    have hx4 := hx3.trans (hx.mono hx3.size)
    clear hx hx3
    have hbz : ∀ o, Below X.heap.size X (X4.alloc o) := fun o => hx4.alloc hx4.size o
    go_wp2_with fail
    obtain ⟨ra, rb, hbl⟩ := two_sets X4 [⟨n, 5, 1, 0, o⟩, ⟨n, 5, 1, 0, o⟩] [⟨fn, 5, 1, ttl, fo⟩] (by simp [maxLen]) (by simp [maxLen])
    refine (SameSet_any _ _ [⟨n, 5, 1, 0, o⟩, ⟨n, 5, 1, 0, o⟩] [⟨fn, 5, 1, ttl, fo⟩] _ ra rb (by simp) (by simp) (by intro r hr; simp at hr; rcases hr with rfl | rfl <;> first | exact HOA.out | exact HOC.out | exact HOB.out) (by intro r hr; simp at hr; subst hr; exact HOB.out)).mono ?_; rintro e X5 ⟨rfl, hx⟩
    rw [HS1.out]
    have hx5 := hx4.trans ((hbl.trans (hx.mono hbl.size)).mono hx4.size)
    clear hx hx4 ra rb hbl hbz
    have hbz : ∀ o, Below X.heap.size X (X5.alloc o) := fun o => hx5.alloc hx5.size o
    go_wp2_with fail
    obtain ⟨ra, rb, hbl⟩ := two_sets X5 [⟨n, 5, 1, 0, o⟩, ⟨fn, 5, 3, ttl, fo⟩] [⟨fn, 5, 1, ttl, fo⟩] (by simp [maxLen]) (by simp [maxLen])
    refine (SameSet_any _ _ [⟨n, 5, 1, 0, o⟩, ⟨fn, 5, 3, ttl, fo⟩] [⟨fn, 5, 1, ttl, fo⟩] _ ra rb (by simp) (by simp) (by intro r hr; simp at hr; rcases hr with rfl | rfl <;> first | exact HOA.out | exact HOC.out | exact HOB.out) (by intro r hr; simp at hr; subst hr; exact HOB.out)).mono ?_; rintro e X6 ⟨rfl, hx⟩
    rw [HS2.out]
    have hx6 := hx5.trans ((hbl.trans (hx.mono hbl.size)).mono hx5.size)
    clear hx hx5 ra rb hbl hbz
    go_wp2_with fail
    refine (HAW.out _).mono ?_; rintro e wz ⟨rfl, hx⟩
    have hbe := HB5.out.trans ((hx6.trans (hx.mono hx6.size)).mono HB5.out.size)
    have HBE := Go.Lib.hid hbe
    clear hbe
    clear hx hx6
    go_wp2_with fail
    go_ret
    exact ⟨rfl, HBE.out⟩
  · change Calls _ _ _ ((((w4.alloc (.cells (rrC ⟨fn, 5, 1, ttl, fo⟩) 23)).alloc (.cells (rrC ⟨fn, 16, 1, ttl, fo⟩) 23)).alloc (.cells (rrC ⟨fn, 5, 3, ttl, fo⟩) 23)).drew) _
    obtain ⟨hB, hD, hC, hbX⟩ := three_rows w4 (rrC ⟨fn, 5, 1, ttl, fo⟩) (rrC ⟨fn, 16, 1, ttl, fo⟩) (rrC ⟨fn, 5, 3, ttl, fo⟩) 23
    have hA := heap_later (B := 0) HA4.out hbX
    have hb5 := HB4.out.trans (hbX.mono HB4.out.size)
    clear cA0 cA1 cA2 cA3 cA4 hz hbX HA4 HB4 hlA
    generalize (((w4.alloc (.cells (rrC ⟨fn, 5, 1, ttl, fo⟩) 23)).alloc (.cells (rrC ⟨fn, 16, 1, ttl, fo⟩) 23)).alloc (.cells (rrC ⟨fn, 5, 3, ttl, fo⟩) 23)).drew = X at *
    generalize w4.heap.size = nb at *
    generalize nb + 1 = m1 at *
    generalize m1 + 1 = m2 at *
    obtain ⟨cA0, cA1, cA2, cA3, cA4⟩ := rr_cells hA
    obtain ⟨cB0, cB1, cB2, cB3, cB4⟩ := rr_cells hB
    obtain ⟨cC0, cC1, cC2, cC3, cC4⟩ := rr_cells hC
    obtain ⟨cD0, cD1, cD2, cD3, cD4⟩ := rr_cells hD
    clear hA hB hC hD
    have HB5 := Go.Lib.hid hb5
    clear hb5
    refine (recSame_any ⟨n, 5, 1, 0, o⟩ ⟨fn, 5, 1, ttl, fo⟩ _ HOA.out HOB.out).mono ?_; rintro e X1 ⟨rfl, hx⟩
    rw [HAB.out]
    have hx1 := hx
    clear hx
    go_wp2_with fail
    refine (recSame_any ⟨fn, 5, 1, ttl, fo⟩ ⟨n, 5, 1, 0, o⟩ _ HOB.out HOA.out).mono ?_; rintro e X2 ⟨rfl, hx⟩
    rw [HBA.out]
    have hx2 := hx1.trans (hx.mono hx1.size)
    clear hx hx1
    go_wp2_with fail
    refine (recSame_any ⟨n, 5, 1, 0, o⟩ ⟨fn, 5, 3, ttl, fo⟩ _ HOA.out HOC.out).mono ?_; rintro e X3 ⟨rfl, hx⟩
    rw [HAC.out]
    have hx3 := hx2.trans (hx.mono hx2.size)
    clear hx hx2
    go_wp2_with fail
    refine (recSame_any ⟨n, 5, 1, 0, o⟩ ⟨fn, 16, 1, ttl, fo⟩ _ HOA.out HOD.out).mono ?_; rintro e X4 ⟨rfl, hx⟩
    rw [HAD.out]
    have hx4 := hx3.trans (hx.mono hx3.size)
    clear hx hx3
    have hbz : ∀ o, Below X.heap.size X (X4.alloc o) := fun o => hx4.alloc hx4.size o
    go_wp2_with fail
    obtain ⟨ra, rb, hbl⟩ := two_sets X4 [⟨n, 5, 1, 0, o⟩, ⟨n, 5, 1, 0, o⟩] [⟨fn, 5, 1, ttl, fo⟩] (by simp [maxLen]) (by simp [maxLen])
    refine (SameSet_any _ _ [⟨n, 5, 1, 0, o⟩, ⟨n, 5, 1, 0, o⟩] [⟨fn, 5, 1, ttl, fo⟩] _ ra rb (by simp) (by simp) (by intro r hr; simp at hr; rcases hr with rfl | rfl <;> first | exact HOA.out | exact HOC.out | exact HOB.out) (by intro r hr; simp at hr; subst hr; exact HOB.out)).mono ?_; rintro e X5 ⟨rfl, hx⟩
    rw [HS1.out]
    have hx5 := hx4.trans ((hbl.trans (hx.mono hbl.size)).mono hx4.size)
    clear hx hx4 ra rb hbl hbz
    have hbz : ∀ o, Below X.heap.size X (X5.alloc o) := fun o => hx5.alloc hx5.size o
    go_wp2_with fail
    obtain ⟨ra, rb, hbl⟩ := two_sets X5 [⟨n, 5, 1, 0, o⟩, ⟨fn, 5, 3, ttl, fo⟩] [⟨fn, 5, 1, ttl, fo⟩] (by simp [maxLen]) (by simp [maxLen])
    refine (SameSet_any _ _ [⟨n, 5, 1, 0, o⟩, ⟨fn, 5, 3, ttl, fo⟩] [⟨fn, 5, 1, ttl, fo⟩] _ ra rb (by simp) (by simp) (by intro r hr; simp at hr; rcases hr with rfl | rfl <;> first | exact HOA.out | exact HOC.out | exact HOB.out) (by intro r hr; simp at hr; subst hr; exact HOB.out)).mono ?_; rintro e X6 ⟨rfl, hx⟩
    rw [HS2.out]
    have hx6 := hx5.trans ((hbl.trans (hx.mono hbl.size)).mono hx5.size)
    clear hx hx5 ra rb hbl hbz
    go_wp2_with fail
    refine (HAW.out _).mono ?_; rintro e wz ⟨rfl, hx⟩
    have hbe := HB5.out.trans ((hx6.trans (hx.mono hx6.size)).mono HB5.out.size)
    have HBE := Go.Lib.hid hbe
    clear hbe
    clear hx hx6
    go_wp2_with fail
    go_ret
    exact ⟨rfl, HBE.out⟩
set_option maxRecDepth 100000 in
set_option maxHeartbeats 16000000 in
theorem k2 (n o fn fo : List UInt8) (ttl kind : Int) (w : World) (h0 : n.length ≤ 100) (h1 : o.length ≤ 100)
    (HV : Hid (∀ W, Calls Tryd.prog 35 #[.string (mk n)] W fun e w' => e = .returned (.bool true) ∧ Below W.heap.size W w'))
    (HV2 : Hid (∀ W, Calls Tryd.prog 35 #[.string (mk o)] W fun e w' => e = .returned (.bool true) ∧ Below W.heap.size W w'))
    (HF : Hid (∀ W, Calls Tryd.prog 37 #[.string (mk n)] W fun e w' => e = .returned (.string (mk fn)) ∧ Below W.heap.size W w'))
    (HF2 : Hid (∀ W, Calls Tryd.prog 37 #[.string (mk o)] W fun e w' => e = .returned (.string (mk fo)) ∧ Below W.heap.size W w'))
    (HRN : Hid (∀ W, Calls Tryd.prog 36 #[.int .i64 kind, .int .i64 3] W fun e w' => e = .returned (.int .i64 2) ∧ W = w'))
    (HOA : Hid (RROk ⟨n, 12, 1, 0, o⟩)) (HOB : Hid (RROk ⟨fn, 12, 1, ttl, fo⟩)) (HOC : Hid (RROk ⟨fn, 12, 3, ttl, fo⟩)) (HOD : Hid (RROk ⟨fn, 16, 1, ttl, fo⟩))
    (HAB : Hid (Rc.sameRR ⟨n, 12, 1, 0, o⟩ ⟨fn, 12, 1, ttl, fo⟩ = true)) (HBA : Hid (Rc.sameRR ⟨fn, 12, 1, ttl, fo⟩ ⟨n, 12, 1, 0, o⟩ = true))
    (HAC : Hid (Rc.sameRR ⟨n, 12, 1, 0, o⟩ ⟨fn, 12, 3, ttl, fo⟩ = false)) (HAD : Hid (Rc.sameRR ⟨n, 12, 1, 0, o⟩ ⟨fn, 16, 1, ttl, fo⟩ = false))
    (HS1 : Hid (sameSetB [⟨n, 12, 1, 0, o⟩, ⟨n, 12, 1, 0, o⟩] [⟨fn, 12, 1, ttl, fo⟩] = true)) (HS2 : Hid (sameSetB [⟨n, 12, 1, 0, o⟩, ⟨fn, 12, 3, ttl, fo⟩] [⟨fn, 12, 1, ttl, fo⟩] = false)) :
    Calls Tryd.prog 5 #[.string (mk n), .string (mk o), .int .i64 ttl, .int .i64 kind] w fun e w' => e = .returned (.bool true) ∧ Below w.heap.size w w' := by
  have HAW := Go.Lib.hid awake_any
  have HB := Go.Lib.hid (Below.refl w.heap.size w)
  have hnm : (mk n).size = n.length := size_mk n
  have hom : (mk o).size = o.length := size_mk o
  have e1 : ¬ (100 : Int) < (n.length : Int) := by omega
  have e2 : ¬ (100 : Int) < (o.length : Int) := by omega
  go_enter Tryd.func5, Tryd.ntmps5
  go_wp2_with fail
  refine (HV.out _).mono ?_; rintro e wb8 ⟨rfl, hx⟩
  have hb := HB.out.trans (hx.mono HB.out.size)
  clear HB
  have HB := Go.Lib.hid hb
  clear hx hb
  go_wp2_with fail
  refine (HV2.out _).mono ?_; rintro e w2 ⟨rfl, hx⟩
  have hb := HB.out.trans (hx.mono HB.out.size)
  have HB2 := Go.Lib.hid hb
  clear hb
  clear HB hx
  go_wp2_with fail
  refine (HRN.out _).mono ?_; rintro e _ ⟨rfl, rfl⟩
  go_wp2_with fail
  have hV1 : Below w.heap.size w ((w2.alloc (.cells #[.int .i64 2, .int .i64 5, .int .i64 12] 3)).alloc (.cells (rrC ⟨n, 12, 1, 0, o⟩) 23)) := (HB2.out.alloc HB2.out.size _).alloc (by have := HB2.out.size; simp; omega) _
  have hA1 := World.alloc_heap_new (w2.alloc (.cells #[.int .i64 2, .int .i64 5, .int .i64 12] 3)) (.cells (rrC ⟨n, 12, 1, 0, o⟩) 23)
  rw [World.size_alloc] at hA1
  change Calls _ _ _ ((w2.alloc (.cells #[.int .i64 2, .int .i64 5, .int .i64 12] 3)).alloc (.cells (rrC ⟨n, 12, 1, 0, o⟩) 23)) _
  generalize (w2.alloc (.cells #[.int .i64 2, .int .i64 5, .int .i64 12] 3)).alloc (.cells (rrC ⟨n, 12, 1, 0, o⟩) 23) = V1 at *
  generalize w2.heap.size + 1 = na at *
  refine (HF.out _).mono ?_; rintro e w3 ⟨rfl, hx⟩
  have hb3 := hV1.trans (hx.mono hV1.size)
  have hA3 := (hx.block _ (Array.getElem?_eq_some_iff.1 hA1).1).trans hA1
  clear hx hV1 hA1 HB2
  have HB3 := Go.Lib.hid hb3
  have HA3 := Go.Lib.hid hA3
  clear hb3 hA3
  go_wp2_with fail
  refine (HF2.out _).mono ?_; rintro e w4 ⟨rfl, hx⟩
  have hb4 := HB3.out.trans (hx.mono HB3.out.size)
  have hA4 := (hx.block _ (Array.getElem?_eq_some_iff.1 HA3.out).1).trans HA3.out
  clear hx HB3 HA3
  have hlA := (Array.getElem?_eq_some_iff.1 hA4).1
  have hgA := cell_of_heap hA4
  have cA0 : ∀ W', Below w4.heap.size w4 W' → W'.cell? ⟨na, 0, none⟩ = some (.string (mk n)) := fun W' h => (h.cell (p := ⟨na, 0, none⟩) hlA).trans (hgA 0)
  have cA1 : ∀ W', Below w4.heap.size w4 W' → W'.cell? ⟨na, 1, none⟩ = some (.int .i64 12) := fun W' h => (h.cell (p := ⟨na, 1, none⟩) hlA).trans (hgA 1)
  have cA2 : ∀ W', Below w4.heap.size w4 W' → W'.cell? ⟨na, 2, none⟩ = some (.int .i64 1) := fun W' h => (h.cell (p := ⟨na, 2, none⟩) hlA).trans (hgA 2)
  have cA3 : ∀ W', Below w4.heap.size w4 W' → W'.cell? ⟨na, 3, none⟩ = some (.int .i64 0) := fun W' h => (h.cell (p := ⟨na, 3, none⟩) hlA).trans (hgA 3)
  have cA4 : ∀ W', Below w4.heap.size w4 W' → W'.cell? ⟨na, 4, none⟩ = some (.string (mk o)) := fun W' h => (h.cell (p := ⟨na, 4, none⟩) hlA).trans (hgA 4)
  have hz : ∀ o1 o2 o3, Below w4.heap.size w4 (((w4.alloc o1).alloc o2).alloc o3).drew := fun o1 o2 o3 => ((((Below.refl _ w4).alloc (Nat.le_refl _) o1).alloc (by simp) o2).alloc (by simp; omega) o3).drew
  clear hgA
  have HB4 := Go.Lib.hid hb4
  have HA4 := Go.Lib.hid hA4
  clear hb4 hA4
  go_wp2_with fail
  go_region
  all_goals go_wp2_with fail
  · change Calls _ _ _ ((((w4.alloc (.cells (rrC ⟨fn, 12, 1, ttl, fo⟩) 23)).alloc (.cells (rrC ⟨fn, 12, 3, ttl, fo⟩) 23)).alloc (.cells (rrC ⟨fn, 16, 1, ttl, fo⟩) 23)).drew) _
    obtain ⟨hB, hC, hD, hbX⟩ := three_rows w4 (rrC ⟨fn, 12, 1, ttl, fo⟩) (rrC ⟨fn, 12, 3, ttl, fo⟩) (rrC ⟨fn, 16, 1, ttl, fo⟩) 23
    have hA := heap_later (B := 0) HA4.out hbX
    have hb5 := HB4.out.trans (hbX.mono HB4.out.size)
    clear cA0 cA1 cA2 cA3 cA4 hz hbX HA4 HB4 hlA
    generalize (((w4.alloc (.cells (rrC ⟨fn, 12, 1, ttl, fo⟩) 23)).alloc (.cells (rrC ⟨fn, 12, 3, ttl, fo⟩) 23)).alloc (.cells (rrC ⟨fn, 16, 1, ttl, fo⟩) 23)).drew = X at *
    generalize w4.heap.size = nb at *
    generalize nb + 1 = m1 at *
    generalize m1 + 1 = m2 at *
    obtain ⟨cA0, cA1, cA2, cA3, cA4⟩ := rr_cells hA
    obtain ⟨cB0, cB1, cB2, cB3, cB4⟩ := rr_cells hB
    obtain ⟨cC0, cC1, cC2, cC3, cC4⟩ := rr_cells hC
    obtain ⟨cD0, cD1, cD2, cD3, cD4⟩ := rr_cells hD
    clear hA hB hC hD
    have HB5 := Go.Lib.hid hb5
    clear hb5
    refine (recSame_any ⟨n, 12, 1, 0, o⟩ ⟨fn, 12, 1, ttl, fo⟩ _ HOA.out HOB.out).mono ?_; rintro e X1 ⟨rfl, hx⟩
    rw [HAB.out]
    have hx1 := hx
    clear hx
    go_wp2_with fail
    refine (recSame_any ⟨fn, 12, 1, ttl, fo⟩ ⟨n, 12, 1, 0, o⟩ _ HOB.out HOA.out).mono ?_; rintro e X2 ⟨rfl, hx⟩
    rw [HBA.out]
    have hx2 := hx1.trans (hx.mono hx1.size)
    clear hx hx1
    go_wp2_with fail
    refine (recSame_any ⟨n, 12, 1, 0, o⟩ ⟨fn, 12, 3, ttl, fo⟩ _ HOA.out HOC.out).mono ?_; rintro e X3 ⟨rfl, hx⟩
    rw [HAC.out]
    have hx3 := hx2.trans (hx.mono hx2.size)
    clear hx hx2
    go_wp2_with fail
    refine (recSame_any ⟨n, 12, 1, 0, o⟩ ⟨fn, 16, 1, ttl, fo⟩ _ HOA.out HOD.out).mono ?_; rintro e X4 ⟨rfl, hx⟩
    rw [HAD.out]
    have hx4 := hx3.trans (hx.mono hx3.size)
    clear hx hx3
    have hbz : ∀ o, Below X.heap.size X (X4.alloc o) := fun o => hx4.alloc hx4.size o
    go_wp2_with fail
    obtain ⟨ra, rb, hbl⟩ := two_sets X4 [⟨n, 12, 1, 0, o⟩, ⟨n, 12, 1, 0, o⟩] [⟨fn, 12, 1, ttl, fo⟩] (by simp [maxLen]) (by simp [maxLen])
    refine (SameSet_any _ _ [⟨n, 12, 1, 0, o⟩, ⟨n, 12, 1, 0, o⟩] [⟨fn, 12, 1, ttl, fo⟩] _ ra rb (by simp) (by simp) (by intro r hr; simp at hr; rcases hr with rfl | rfl <;> first | exact HOA.out | exact HOC.out | exact HOB.out) (by intro r hr; simp at hr; subst hr; exact HOB.out)).mono ?_; rintro e X5 ⟨rfl, hx⟩
    rw [HS1.out]
    have hx5 := hx4.trans ((hbl.trans (hx.mono hbl.size)).mono hx4.size)
    clear hx hx4 ra rb hbl hbz
    have hbz : ∀ o, Below X.heap.size X (X5.alloc o) := fun o => hx5.alloc hx5.size o
    go_wp2_with fail
    obtain ⟨ra, rb, hbl⟩ := two_sets X5 [⟨n, 12, 1, 0, o⟩, ⟨fn, 12, 3, ttl, fo⟩] [⟨fn, 12, 1, ttl, fo⟩] (by simp [maxLen]) (by simp [maxLen])
    refine (SameSet_any _ _ [⟨n, 12, 1, 0, o⟩, ⟨fn, 12, 3, ttl, fo⟩] [⟨fn, 12, 1, ttl, fo⟩] _ ra rb (by simp) (by simp) (by intro r hr; simp at hr; rcases hr with rfl | rfl <;> first | exact HOA.out | exact HOC.out | exact HOB.out) (by intro r hr; simp at hr; subst hr; exact HOB.out)).mono ?_; rintro e X6 ⟨rfl, hx⟩
    rw [HS2.out]
    have hx6 := hx5.trans ((hbl.trans (hx.mono hbl.size)).mono hx5.size)
    clear hx hx5 ra rb hbl hbz
    go_wp2_with fail
    refine (HAW.out _).mono ?_; rintro e wz ⟨rfl, hx⟩
    have hbe := HB5.out.trans ((hx6.trans (hx.mono hx6.size)).mono HB5.out.size)
    have HBE := Go.Lib.hid hbe
    clear hbe
    clear hx hx6
    go_wp2_with fail
    go_ret
    exact ⟨rfl, HBE.out⟩
  · change Calls _ _ _ ((((w4.alloc (.cells (rrC ⟨fn, 12, 1, ttl, fo⟩) 23)).alloc (.cells (rrC ⟨fn, 16, 1, ttl, fo⟩) 23)).alloc (.cells (rrC ⟨fn, 12, 3, ttl, fo⟩) 23)).drew) _
    obtain ⟨hB, hD, hC, hbX⟩ := three_rows w4 (rrC ⟨fn, 12, 1, ttl, fo⟩) (rrC ⟨fn, 16, 1, ttl, fo⟩) (rrC ⟨fn, 12, 3, ttl, fo⟩) 23
    have hA := heap_later (B := 0) HA4.out hbX
    have hb5 := HB4.out.trans (hbX.mono HB4.out.size)
    clear cA0 cA1 cA2 cA3 cA4 hz hbX HA4 HB4 hlA
    generalize (((w4.alloc (.cells (rrC ⟨fn, 12, 1, ttl, fo⟩) 23)).alloc (.cells (rrC ⟨fn, 16, 1, ttl, fo⟩) 23)).alloc (.cells (rrC ⟨fn, 12, 3, ttl, fo⟩) 23)).drew = X at *
    generalize w4.heap.size = nb at *
    generalize nb + 1 = m1 at *
    generalize m1 + 1 = m2 at *
    obtain ⟨cA0, cA1, cA2, cA3, cA4⟩ := rr_cells hA
    obtain ⟨cB0, cB1, cB2, cB3, cB4⟩ := rr_cells hB
    obtain ⟨cC0, cC1, cC2, cC3, cC4⟩ := rr_cells hC
    obtain ⟨cD0, cD1, cD2, cD3, cD4⟩ := rr_cells hD
    clear hA hB hC hD
    have HB5 := Go.Lib.hid hb5
    clear hb5
    refine (recSame_any ⟨n, 12, 1, 0, o⟩ ⟨fn, 12, 1, ttl, fo⟩ _ HOA.out HOB.out).mono ?_; rintro e X1 ⟨rfl, hx⟩
    rw [HAB.out]
    have hx1 := hx
    clear hx
    go_wp2_with fail
    refine (recSame_any ⟨fn, 12, 1, ttl, fo⟩ ⟨n, 12, 1, 0, o⟩ _ HOB.out HOA.out).mono ?_; rintro e X2 ⟨rfl, hx⟩
    rw [HBA.out]
    have hx2 := hx1.trans (hx.mono hx1.size)
    clear hx hx1
    go_wp2_with fail
    refine (recSame_any ⟨n, 12, 1, 0, o⟩ ⟨fn, 12, 3, ttl, fo⟩ _ HOA.out HOC.out).mono ?_; rintro e X3 ⟨rfl, hx⟩
    rw [HAC.out]
    have hx3 := hx2.trans (hx.mono hx2.size)
    clear hx hx2
    go_wp2_with fail
    refine (recSame_any ⟨n, 12, 1, 0, o⟩ ⟨fn, 16, 1, ttl, fo⟩ _ HOA.out HOD.out).mono ?_; rintro e X4 ⟨rfl, hx⟩
    rw [HAD.out]
    have hx4 := hx3.trans (hx.mono hx3.size)
    clear hx hx3
    have hbz : ∀ o, Below X.heap.size X (X4.alloc o) := fun o => hx4.alloc hx4.size o
    go_wp2_with fail
    obtain ⟨ra, rb, hbl⟩ := two_sets X4 [⟨n, 12, 1, 0, o⟩, ⟨n, 12, 1, 0, o⟩] [⟨fn, 12, 1, ttl, fo⟩] (by simp [maxLen]) (by simp [maxLen])
    refine (SameSet_any _ _ [⟨n, 12, 1, 0, o⟩, ⟨n, 12, 1, 0, o⟩] [⟨fn, 12, 1, ttl, fo⟩] _ ra rb (by simp) (by simp) (by intro r hr; simp at hr; rcases hr with rfl | rfl <;> first | exact HOA.out | exact HOC.out | exact HOB.out) (by intro r hr; simp at hr; subst hr; exact HOB.out)).mono ?_; rintro e X5 ⟨rfl, hx⟩
    rw [HS1.out]
    have hx5 := hx4.trans ((hbl.trans (hx.mono hbl.size)).mono hx4.size)
    clear hx hx4 ra rb hbl hbz
    have hbz : ∀ o, Below X.heap.size X (X5.alloc o) := fun o => hx5.alloc hx5.size o
    go_wp2_with fail
    obtain ⟨ra, rb, hbl⟩ := two_sets X5 [⟨n, 12, 1, 0, o⟩, ⟨fn, 12, 3, ttl, fo⟩] [⟨fn, 12, 1, ttl, fo⟩] (by simp [maxLen]) (by simp [maxLen])
    refine (SameSet_any _ _ [⟨n, 12, 1, 0, o⟩, ⟨fn, 12, 3, ttl, fo⟩] [⟨fn, 12, 1, ttl, fo⟩] _ ra rb (by simp) (by simp) (by intro r hr; simp at hr; rcases hr with rfl | rfl <;> first | exact HOA.out | exact HOC.out | exact HOB.out) (by intro r hr; simp at hr; subst hr; exact HOB.out)).mono ?_; rintro e X6 ⟨rfl, hx⟩
    rw [HS2.out]
    have hx6 := hx5.trans ((hbl.trans (hx.mono hbl.size)).mono hx5.size)
    clear hx hx5 ra rb hbl hbz
    go_wp2_with fail
    refine (HAW.out _).mono ?_; rintro e wz ⟨rfl, hx⟩
    have hbe := HB5.out.trans ((hx6.trans (hx.mono hx6.size)).mono HB5.out.size)
    have HBE := Go.Lib.hid hbe
    clear hbe
    clear hx hx6
    go_wp2_with fail
    go_ret
    exact ⟨rfl, HBE.out⟩

theorem same1 {t : Int} (ht : t = 2 ∨ t = 5 ∨ t = 12) {n o : List UInt8} {ttl : Int} (hn : Nm.valid n = true) (ho : Nm.valid o = true) :
    Rc.sameRR ⟨n, t, 1, 0, o⟩ ⟨Nm.foldN n, t, 1, ttl, Nm.foldN o⟩ = true := by
  have ho2 : Nm.valid (Nm.foldN o) = true := by rw [Nm.valid_foldN]; exact ho
  unfold Rc.sameRR
  simp only
  rw [foldD_one ht ho, foldD_one ht ho2, Nm.foldN_valid hn, Nm.foldN_foldB hn, Nm.foldN_valid ho, Nm.foldN_foldB ho]
  simp
theorem same2 {t : Int} {n o fn fo : List UInt8} {ttl : Int} : Rc.sameRR ⟨n, t, 1, 0, o⟩ ⟨fn, t, 3, ttl, fo⟩ = false := by simp [Rc.sameRR]
theorem same3 {t : Int} (ht : t = 2 ∨ t = 5 ∨ t = 12) {n o fn fo : List UInt8} {ttl : Int} : Rc.sameRR ⟨n, t, 1, 0, o⟩ ⟨fn, 16, 1, ttl, fo⟩ = false := by
  have : (t == 16) = false := by rw [beq_eq_false_iff_ne]; omega
  simp [Rc.sameRR, this]
theorem same4 {t : Int} {fn fo : List UInt8} {ttl : Int} : Rc.sameRR ⟨fn, t, 3, ttl, fo⟩ ⟨fn, t, 1, ttl, fo⟩ = false := by simp [Rc.sameRR]
theorem set1 {a b : Rc.RR} (h1 : Rc.sameRR a b = true) (h2 : Rc.sameRR b a = true) : sameSetB [a, a] [b] = true := by simp [sameSetB, amongB, h1, h2]
theorem set2 {a b c : Rc.RR} (h : Rc.sameRR c b = false) : sameSetB [a, c] [b] = false := by simp [sameSetB, amongB, h]

theorem walk (s0 s1 : ByteArray) (ttl kind : Int) (w : World) (h0 : s0.size ≤ maxLen) (h1 : s1.size ≤ maxLen) (_ : Fits ttl) (_ : Fits kind) :
    Calls Tryd.prog 5 #[.string s0, .string s1, .int .i64 ttl, .int .i64 kind] w fun e w' => e = .returned (.bool true) ∧ Below w.heap.size w w' := by
  obtain ⟨n, rfl⟩ : ∃ n, s0 = mk n := ⟨bl s0, (mk_bl s0).symm⟩
  obtain ⟨o, rfl⟩ : ∃ n, s1 = mk n := ⟨bl s1, (mk_bl s1).symm⟩
  rw [size_mk] at h0 h1
  by_cases hl : 100 < n.length ∨ (n.length ≤ 100 ∧ 100 < o.length)
  · exact t1 n o ttl kind w h0 h1 hl
  have l0 : n.length ≤ 100 := by omega
  have l1 : o.length ≤ 100 := by omega
  have hv := fun (n : List UInt8) (b : Bool) (h : Nm.valid n = b) => Go.Lib.hid fun (W : World) => (by have k := refValid_any (mk n) W; rw [bl_mk, h] at k; exact k : Calls Tryd.prog 35 #[.string (mk n)] W fun e w' => e = .returned (.bool b) ∧ Below W.heap.size W w')
  have hfo := fun (n : List UInt8) (hs : n.length ≤ maxLen) => Go.Lib.hid fun (W : World) => (by have h := refFold_any (mk n) W (by rw [size_mk]; exact hs); rw [bl_mk] at h; exact h : Calls Tryd.prog 37 #[.string (mk n)] W fun e w' => e = .returned (.string (mk (Nm.foldN n))) ∧ Below W.heap.size W w')
  have hrn := fun (q : Int) (hq : kind % 3 = q) => Go.Lib.hid fun (W : World) => (by have h := Round_any kind 3 W (by decide) (by decide); rw [hq] at h; exact h : Calls Tryd.prog 36 #[.int .i64 kind, .int .i64 3] W fun e w' => e = .returned (.int .i64 q) ∧ W = w')
  cases hvn : Nm.valid n with
  | false => exact t2 n o ttl kind w l0 l1 (hv _ _ hvn)
  | true =>
    cases hvo : Nm.valid o with
    | false => exact t3 n o ttl kind w l0 l1 (hv _ _ hvn) (hv _ _ hvo)
    | true =>
      have f0 : (Nm.foldN n).length ≤ maxLen := by rw [Nm.foldN_length]; exact h0
      have f1 : (Nm.foldN o).length ≤ maxLen := by rw [Nm.foldN_length]; exact h1
      have hcase : kind % 3 = 0 ∨ kind % 3 = 1 ∨ kind % 3 = 2 := by omega
      rcases hcase with h | h | h
      · have s1 := same1 (t := 2) (by decide) (ttl := ttl) hvn hvo
        have s2 := s1
        rw [Rc.same_symm] at s2
        exact k0 n o _ _ ttl kind w l0 l1 (hv _ _ hvn) (hv _ _ hvo) (hfo _ h0) (hfo _ h1) (hrn _ h) (Go.Lib.hid ⟨h0, h1⟩) (Go.Lib.hid ⟨f0, f1⟩) (Go.Lib.hid ⟨f0, f1⟩) (Go.Lib.hid ⟨f0, f1⟩) (Go.Lib.hid s1) (Go.Lib.hid s2) (Go.Lib.hid same2) (Go.Lib.hid (same3 (by decide))) (Go.Lib.hid (set1 s1 s2)) (Go.Lib.hid (set2 same4))
      · have s1 := same1 (t := 5) (by decide) (ttl := ttl) hvn hvo
        have s2 := s1
        rw [Rc.same_symm] at s2
        exact k1 n o _ _ ttl kind w l0 l1 (hv _ _ hvn) (hv _ _ hvo) (hfo _ h0) (hfo _ h1) (hrn _ h) (Go.Lib.hid ⟨h0, h1⟩) (Go.Lib.hid ⟨f0, f1⟩) (Go.Lib.hid ⟨f0, f1⟩) (Go.Lib.hid ⟨f0, f1⟩) (Go.Lib.hid s1) (Go.Lib.hid s2) (Go.Lib.hid same2) (Go.Lib.hid (same3 (by decide))) (Go.Lib.hid (set1 s1 s2)) (Go.Lib.hid (set2 same4))
      · have s1 := same1 (t := 12) (by decide) (ttl := ttl) hvn hvo
        have s2 := s1
        rw [Rc.same_symm] at s2
        exact k2 n o _ _ ttl kind w l0 l1 (hv _ _ hvn) (hv _ _ hvo) (hfo _ h0) (hfo _ h1) (hrn _ h) (Go.Lib.hid ⟨h0, h1⟩) (Go.Lib.hid ⟨f0, f1⟩) (Go.Lib.hid ⟨f0, f1⟩) (Go.Lib.hid ⟨f0, f1⟩) (Go.Lib.hid s1) (Go.Lib.hid s2) (Go.Lib.hid same2) (Go.Lib.hid (same3 (by decide))) (Go.Lib.hid (set1 s1 s2)) (Go.Lib.hid (set2 same4))

set_option maxRecDepth 100000 in
theorem lifted (os : Os) (started : os.Started) (H : Type) (enc : TypeId × Value → H) :
    ReturnsInHanded {} Tryd.checked os 5 .any (fun w args => (Rows.recordSameSpec.pre enc Tryd.prog Tryd.f5 [] false w args ∧ laidMetH Tryd.prog laidL w) ∧ sizedMet enc Tryd.prog Tryd.f5 (OpenSpec.ofChange Rows.recordSameSpec) false w args) (Rows.recordSameSpec.post enc Tryd.prog Tryd.f5 false true false false) := by
  refine returnsInHanded_of_change_and (C := Tryd.checked) (X := fun w _ => laidMetH Tryd.prog laidL w) (fun _ _ _ hh h => h.of_heap hh) own started (by kernel_rfl) Tryd.func5
    (ChangeSpec.witness_shaped (enc := enc) (C := Tryd.checked) (os := os) (X := fun w _ => laidMetH Tryd.prog laidL w) false (World.doorLaid Tryd.prog 400 os) #[.string ⟨#[]⟩, .string ⟨#[]⟩, .int .i64 0, .int .i64 0] 8 rfl (World.shaped_of_RefB (by kernel_rfl) (by kernel_rfl)) (by kernel_rfl) (by kernel_rfl) (by kernel_rfl) (door_met os _)) ?_
  intro W base args ds gs before hval0 hW _ _ hL _
  have hval : ∀ (j : Nat) t v, Tryd.f5.params[j]? = some t → args[j]? = some v → Value.okWide Tryd.prog W .any base t v := hval0
  refine law_post enc 4 (by kernel_rfl) rfl rfl (by kernel_rfl) (fun ds h => match ds, h with | [_, _, _, _], _ => rfl) hW ?_
  obtain ⟨p, q, hA0, hV, rfl, _, _⟩ := hW
  have hA : DataW.TrodAll enc Tryd.prog W 0 (fun _ => true) true Tryd.f5.params.toList args.toList ds p := hA0
  rw [Tryd.params5] at hA hval
  obtain ⟨v0, vs0, d0, ds0, p0, q0, hargs, rfl, rfl, h0, r0⟩ := trodAll_cons hA
  obtain ⟨v1, vs1, d1, ds1, p1, q1, rfl, rfl, rfl, h1, r1⟩ := trodAll_cons r0
  obtain ⟨v2, vs2, d2, ds2, p2, q2, rfl, rfl, rfl, h2, r2⟩ := trodAll_cons r1
  obtain ⟨v3, vs3, d3, ds3, p3, q3, rfl, rfl, rfl, h3, r3⟩ := trodAll_cons r2
  obtain ⟨rfl, rfl, rfl⟩ := trodAll_nil r3
  obtain rfl : args = #[v0, v1, v2, v3] := by cases args; simp_all
  obtain ⟨s0, rfl, rfl, rfl, w0⟩ := open_string Tryd.underlying9 (hval 0 9 v0 rfl rfl) h0
  obtain ⟨s1, rfl, rfl, rfl, w1⟩ := open_string Tryd.underlying9 (hval 1 9 v1 rfl rfl) h1
  obtain ⟨a2, rfl, rfl, rfl, w2⟩ := open_int Tryd.underlying3 (hval 2 3 v2 rfl rfl) h2
  obtain ⟨a3, rfl, rfl, rfl, w3⟩ := open_int Tryd.underlying3 (hval 3 3 v3 rfl rfl) h3
  exact walk s0 s1 a2 a3 W w0 w1 (fits_of_wf w2) (fits_of_wf w3)

theorem over : Rows.recordSameRow.holds Tryd.pinned (OpenSpec.ofChange Rows.recordSameSpec) :=
  OpenClaim.holds_of_wide 5 Tryd.f5 rfl rfl rfl rfl rfl rfl rfl ⟨rfl, rfl, rfl, rfl, rfl⟩ rfl rfl rfl rfl rfl (by kernel_rfl) Tryd.func5 (by kernel_rfl)
    (of_decide_eq_true (by kernel_rfl)) (by unfold Func.isWrapper; first | (rw [if_pos (by decide +kernel)]; kernel_rfl) | (rw [if_neg (by decide +kernel)]; exact ⟨rfl, rfl⟩))
    (fun os started H enc _ => lifted os started H enc)

/-- the statement: the row, its listed variables tied to the text -/
theorem proved : Rows.RecordSameCardSaid :=
  Claim7.holds_tied_plain_at .later [] [.data, .data, .data] true _ false
    over (fun _ h => by cases h) (by kernel_rfl) (fun _ h => by cases h) recordSame_row_tie rfl ⟨rfl, rfl⟩ (by kernel_rfl) rfl
    (fun f fn hf hfn => by
      obtain rfl : f = 5 := Option.some.inj ((show Tryd.prog.funcNamed "freshet/freshetlaw3.RecordSame" = some 5 by kernel_rfl).symm.trans hf) |>.symm
      obtain rfl : fn = Tryd.f5 := (Option.some.inj (Tryd.func5.symm.trans hfn)).symm
      exact ⟨by kernel_rfl, fun j t ht => by
        rw [Tryd.params5] at ht
        have hm : t ∈ [9, 9, 3, 3] := by simpa using Array.mem_of_getElem? ht
        have hall : ([9, 9, 3, 3].all fun u => !Tryd.prog.wantsStandIn u) = true := by kernel_rfl
        exact (show Tryd.prog.wantsStandIn t = false by simpa using List.all_eq_true.1 hall t hm)⟩)
    (by kernel_rfl)
#print axioms proved
end Go.Proofs.YthfpijacemkbbaaDoor.recordSame

