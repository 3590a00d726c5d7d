/- RecordTargets: each record that leads to a name leads to the one it was made with; an address is the number it was made of; a zone's least time is its last number. For every input; no conditions. -/
import Derived.Test.YthfpijacemkbbaaDoorRqN
import Derived.Test.YthfpijacemkbbaaDoorDoor
import Derived.Test.YthfpijacemkbbaaDoorTie
import Derived.Test.YthfpijacemkbbaaDoorCards
namespace Go.Proofs.YthfpijacemkbbaaDoor.recordTargets
open Go.ChangeShapes Go.WideShapes Go.ChangeAt Go.RowKit
open Go.ChangeMaps (open_string shut_string)
set_option linter.unusedVariables false

set_option maxRecDepth 100000 in
set_option maxHeartbeats 16000000 in
theorem t1 (n o : List UInt8) (tt x : Int) (w : World)
    (hn : n.length ≤ maxLen) (h0 : 100 < n.length)
    : Calls Tryd.prog 8 #[.string (mk n), .string (mk o), .int .i64 tt, .int .i64 x] w fun e w' => e = .returned (.bool true) ∧ Below w.heap.size w w' := by
  have HAW := Go.Lib.hid awake_any
  have HB := Go.Lib.hid (Below.refl w.heap.size w)
  have hnm : (mk n).size = n.length := size_mk n
  have hom : (mk o).size = o.length := size_mk o
  unfold maxLen at hn
  have e1 : (100 : Int) < (n.length : Int) := by omega
  clear h0
  go_enter Tryd.func8, Tryd.ntmps8
  go_wp2_with fail
  refine (HAW.out _).mono ?_; rintro e wb1 ⟨rfl, hx⟩
  have hb := HB.out.trans (hx.mono HB.out.size)
  clear HB
  have HB := Go.Lib.hid hb
  clear hx hb
  go_wp2_with fail
  go_ret
  exact ⟨rfl, HB.out⟩

set_option maxRecDepth 100000 in
set_option maxHeartbeats 16000000 in
theorem t1b (n o : List UInt8) (tt x : Int) (w : World)
    (ho : o.length ≤ maxLen) (h0 : n.length ≤ 100) (h1 : 100 < o.length)
    : Calls Tryd.prog 8 #[.string (mk n), .string (mk o), .int .i64 tt, .int .i64 x] w fun e w' => e = .returned (.bool true) ∧ Below w.heap.size w w' := by
  have HAW := Go.Lib.hid awake_any
  have HB := Go.Lib.hid (Below.refl w.heap.size w)
  have hnm : (mk n).size = n.length := size_mk n
  have hom : (mk o).size = o.length := size_mk o
  unfold maxLen at ho
  have e1 : ¬ (100 : Int) < (n.length : Int) := by omega
  have e2 : (100 : Int) < (o.length : Int) := by omega
  clear h0 h1
  go_enter Tryd.func8, Tryd.ntmps8
  go_wp2_with fail
  refine (HAW.out _).mono ?_; rintro e wb2 ⟨rfl, hx⟩
  have hb := HB.out.trans (hx.mono HB.out.size)
  clear HB
  have HB := Go.Lib.hid hb
  clear hx hb
  go_wp2_with fail
  go_ret
  exact ⟨rfl, HB.out⟩

set_option maxRecDepth 100000 in
set_option maxHeartbeats 16000000 in
theorem t2 (n o : List UInt8) (tt x : Int) (w : World)
    (h0 : n.length ≤ 100) (h1 : o.length ≤ 100)
    (HV : Hid (∀ W, Calls Tryd.prog 35 #[.string (mk n)] W fun e w' => e = .returned (.bool false) ∧ Below W.heap.size W w'))
    : Calls Tryd.prog 8 #[.string (mk n), .string (mk o), .int .i64 tt, .int .i64 x] w fun e w' => e = .returned (.bool true) ∧ Below w.heap.size w w' := by
  have HAW := Go.Lib.hid awake_any
  have HB := Go.Lib.hid (Below.refl w.heap.size w)
  have hnm : (mk n).size = n.length := size_mk n
  have hom : (mk o).size = o.length := size_mk o
  have e1 : ¬ (100 : Int) < (n.length : Int) := by omega
  have e2 : ¬ (100 : Int) < (o.length : Int) := by omega
  go_enter Tryd.func8, Tryd.ntmps8
  go_wp2_with fail
  refine (HV.out _).mono ?_; rintro e wb3 ⟨rfl, hx⟩
  have hb := HB.out.trans (hx.mono HB.out.size)
  clear HB
  have HB := Go.Lib.hid hb
  clear hx hb
  go_wp2_with fail
  refine (HAW.out _).mono ?_; rintro e wb4 ⟨rfl, hx⟩
  have hb := HB.out.trans (hx.mono HB.out.size)
  clear HB
  have HB := Go.Lib.hid hb
  clear hx hb
  go_wp2_with fail
  go_ret
  exact ⟨rfl, HB.out⟩

set_option maxRecDepth 100000 in
set_option maxHeartbeats 16000000 in
theorem t3 (n o : List UInt8) (tt x : Int) (w : World)
    (h0 : n.length ≤ 100) (h1 : o.length ≤ 100)
    (HV : Hid (∀ W, Calls Tryd.prog 35 #[.string (mk n)] W fun e w' => e = .returned (.bool true) ∧ Below W.heap.size W w'))
    (HV2 : Hid (∀ W, Calls Tryd.prog 35 #[.string (mk o)] W fun e w' => e = .returned (.bool false) ∧ Below W.heap.size W w'))
    : Calls Tryd.prog 8 #[.string (mk n), .string (mk o), .int .i64 tt, .int .i64 x] w fun e w' => e = .returned (.bool true) ∧ Below w.heap.size w w' := by
  have HAW := Go.Lib.hid awake_any
  have HB := Go.Lib.hid (Below.refl w.heap.size w)
  have hnm : (mk n).size = n.length := size_mk n
  have hom : (mk o).size = o.length := size_mk o
  have e1 : ¬ (100 : Int) < (n.length : Int) := by omega
  have e2 : ¬ (100 : Int) < (o.length : Int) := by omega
  go_enter Tryd.func8, Tryd.ntmps8
  go_wp2_with fail
  refine (HV.out _).mono ?_; rintro e wb5 ⟨rfl, hx⟩
  have hb := HB.out.trans (hx.mono HB.out.size)
  clear HB
  have HB := Go.Lib.hid hb
  clear hx hb
  go_wp2_with fail
  refine (HV2.out _).mono ?_; rintro e wb6 ⟨rfl, hx⟩
  have hb := HB.out.trans (hx.mono HB.out.size)
  clear HB
  have HB := Go.Lib.hid hb
  clear hx hb
  go_wp2_with fail
  refine (HAW.out _).mono ?_; rintro e wb7 ⟨rfl, hx⟩
  have hb := HB.out.trans (hx.mono HB.out.size)
  clear HB
  have HB := Go.Lib.hid hb
  clear hx hb
  go_wp2_with fail
  go_ret
  exact ⟨rfl, HB.out⟩

set_option maxRecDepth 100000 in
set_option maxHeartbeats 16000000 in
theorem t4 (n o : List UInt8) (tt x : Int) (w : World)
    (h0 : n.length ≤ 100) (h1 : o.length ≤ 100) (hx : x < 0)
    (HV : Hid (∀ W, Calls Tryd.prog 35 #[.string (mk n)] W fun e w' => e = .returned (.bool true) ∧ Below W.heap.size W w'))
    (HV2 : Hid (∀ W, Calls Tryd.prog 35 #[.string (mk o)] W fun e w' => e = .returned (.bool true) ∧ Below W.heap.size W w'))
    : Calls Tryd.prog 8 #[.string (mk n), .string (mk o), .int .i64 tt, .int .i64 x] w fun e w' => e = .returned (.bool true) ∧ Below w.heap.size w w' := by
  have HAW := Go.Lib.hid awake_any
  have HB := Go.Lib.hid (Below.refl w.heap.size w)
  have hnm : (mk n).size = n.length := size_mk n
  have hom : (mk o).size = o.length := size_mk o
  have e1 : ¬ (100 : Int) < (n.length : Int) := by omega
  have e2 : ¬ (100 : Int) < (o.length : Int) := by omega
  go_enter Tryd.func8, Tryd.ntmps8
  go_wp2_with fail
  refine (HV.out _).mono ?_; rintro e wb8 ⟨rfl, hx⟩
  have hb := HB.out.trans (hx.mono HB.out.size)
  clear HB
  have HB := Go.Lib.hid hb
  clear hx hb
  go_wp2_with fail
  refine (HV2.out _).mono ?_; rintro e wb9 ⟨rfl, hx⟩
  have hb := HB.out.trans (hx.mono HB.out.size)
  clear HB
  have HB := Go.Lib.hid hb
  clear hx hb
  go_wp2_with fail
  refine (HAW.out _).mono ?_; rintro e wb10 ⟨rfl, hx⟩
  have hb := HB.out.trans (hx.mono HB.out.size)
  clear HB
  have HB := Go.Lib.hid hb
  clear hx hb
  go_wp2_with fail
  go_ret
  exact ⟨rfl, HB.out⟩

set_option maxRecDepth 100000 in
set_option maxHeartbeats 16000000 in
theorem t5 (n o : List UInt8) (tt x : Int) (w : World)
    (h0 : n.length ≤ 100) (h1 : o.length ≤ 100) (hx : 0 ≤ x) (hx2 : 4294967296 ≤ x)
    (HV : Hid (∀ W, Calls Tryd.prog 35 #[.string (mk n)] W fun e w' => e = .returned (.bool true) ∧ Below W.heap.size W w'))
    (HV2 : Hid (∀ W, Calls Tryd.prog 35 #[.string (mk o)] W fun e w' => e = .returned (.bool true) ∧ Below W.heap.size W w'))
    : Calls Tryd.prog 8 #[.string (mk n), .string (mk o), .int .i64 tt, .int .i64 x] w fun e w' => e = .returned (.bool true) ∧ Below w.heap.size w w' := by
  have HAW := Go.Lib.hid awake_any
  have HB := Go.Lib.hid (Below.refl w.heap.size w)
  have hnm : (mk n).size = n.length := size_mk n
  have hom : (mk o).size = o.length := size_mk o
  have e1 : ¬ (100 : Int) < (n.length : Int) := by omega
  have e2 : ¬ (100 : Int) < (o.length : Int) := by omega
  have e3 : ¬ x < 0 := by omega
  go_enter Tryd.func8, Tryd.ntmps8
  go_wp2_with fail
  refine (HV.out _).mono ?_; rintro e wb11 ⟨rfl, hx⟩
  have hb := HB.out.trans (hx.mono HB.out.size)
  clear HB
  have HB := Go.Lib.hid hb
  clear hx hb
  go_wp2_with fail
  refine (HV2.out _).mono ?_; rintro e wb12 ⟨rfl, hx⟩
  have hb := HB.out.trans (hx.mono HB.out.size)
  clear HB
  have HB := Go.Lib.hid hb
  clear hx hb
  go_wp2_with fail
  refine (HAW.out _).mono ?_; rintro e wb13 ⟨rfl, hx⟩
  have hb := HB.out.trans (hx.mono HB.out.size)
  clear HB
  have HB := Go.Lib.hid hb
  clear hx hb
  go_wp2_with fail
  go_ret
  exact ⟨rfl, HB.out⟩

set_option maxRecDepth 100000 in
set_option maxHeartbeats 16000000 in
theorem k0 (n o : List UInt8) (tt x : Int) (w : World)
    (h0 : n.length ≤ 100) (h1 : o.length ≤ 100) (g0 : 0 ≤ x) (g1 : x < 4294967296)
    (HV : Hid (∀ W, Calls Tryd.prog 35 #[.string (mk n)] W fun e w' => e = .returned (.bool true) ∧ Below W.heap.size W w'))
    (HV2 : Hid (∀ W, Calls Tryd.prog 35 #[.string (mk o)] W fun e w' => e = .returned (.bool true) ∧ Below W.heap.size W w'))
    (HRN : Hid (∀ W, Calls Tryd.prog 36 #[.int .i64 tt, .int .i64 3] W fun e w' => e = .returned (.int .i64 0) ∧ W = w'))
    (HNL : Hid (n.length ≤ maxLen)) (HOL : Hid (o.length ≤ maxLen)) (HMN : Hid (makeNN n 2 60 o = ⟨n, 2, 1, 60, o⟩)) (HMA : Hid (makeAN n 60 x = ⟨n, 1, 1, 60, four x⟩)) (HMS : Hid (makeSN n 60 1 x = ⟨n, 6, 1, 60, soaD n 1 x⟩))
    (HOA : Hid (RROk ⟨n, 2, 1, 60, o⟩)) (HOB : Hid (RROk ⟨n, 1, 1, 60, four x⟩)) (HOC : Hid (RROk ⟨n, 6, 1, 60, soaD n 1 x⟩)) (HOD : Hid (RROk ⟨n, 15, 1, 0, [0, 1] ++ o⟩))
    (HT1 : Hid (targV 2 o = .tuple #[.string (mk o), .bool true])) (HT2 : Hid (addrV 1 (four x) = .tuple #[.int .i64 x, .bool true])) (HT3 : Hid (minV 6 (soaD n 1 x) = .tuple #[.int .i64 x, .bool true]))
    (HT4 : Hid (targV 1 (four x) = .tuple #[.string ⟨#[]⟩, .bool false])) (HT5 : Hid (addrV 2 o = .tuple #[.int .i64 0, .bool false])) (HT6 : Hid (minV 1 (four x) = .tuple #[.int .i64 0, .bool false]))
    (HT7 : Hid (targV 6 (soaD n 1 x) = .tuple #[.string ⟨#[]⟩, .bool false])) (HT8 : Hid (targV 15 ([0, 1] ++ o) = .tuple #[.string (mk o), .bool true])) (HK1 : Hid (checkB ⟨n, 2, 1, 60, o⟩ = true)) (HK2 : Hid (checkB ⟨n, 1, 1, 60, four x⟩ = true)) (HK3 : Hid (checkB ⟨n, 6, 1, 60, soaD n 1 x⟩ = true))
    : Calls Tryd.prog 8 #[.string (mk n), .string (mk o), .int .i64 tt, .int .i64 x] w fun e w' => e = .returned (.bool true) ∧ Below w.heap.size w w' := by
  have HAW := Go.Lib.hid awake_any
  have HB := Go.Lib.hid (Below.refl w.heap.size w)
  have hnm : (mk n).size = n.length := size_mk n
  have hom : (mk o).size = o.length := size_mk o
  have e1 : ¬ (100 : Int) < (n.length : Int) := by omega
  have e2 : ¬ (100 : Int) < (o.length : Int) := by omega
  have e3 : ¬ x < 0 := by omega
  have e4 : ¬ (4294967296 : Int) ≤ x := by omega
  have q1 : (⟨#[0, 1]⟩ : ByteArray) ++ mk o = mk ([0, 1] ++ o) := mk_app [0, 1] o
  have q2 : ¬ 9223372036854775807 < 2 + o.length := by omega
  go_enter Tryd.func8, Tryd.ntmps8
  go_wp2_with fail
  refine (HV.out _).mono ?_; rintro e wb14 ⟨rfl, hx⟩
  have hb := HB.out.trans (hx.mono HB.out.size)
  clear HB
  have HB := Go.Lib.hid hb
  clear hx hb
  go_wp2_with fail
  refine (HV2.out _).mono ?_; rintro e w2 ⟨rfl, hx2⟩
  have hb := HB.out.trans (hx2.mono HB.out.size)
  clear HB hx2
  have HB := Go.Lib.hid hb
  clear hb
  go_wp2_with fail
  refine (HRN.out _).mono ?_; rintro e _ ⟨rfl, rfl⟩
  go_wp2_with fail
  have hb2 := HB.out.alloc HB.out.size (.cells #[.int .i64 2, .int .i64 5, .int .i64 12] 3)
  generalize w2.alloc (.cells #[.int .i64 2, .int .i64 5, .int .i64 12] 3) = V0 at *
  clear HB
  refine (MakeName_any n 2 60 o V0 HNL.out HOL.out).mono ?_; rintro e w3 ⟨rfl, hx3⟩
  rw [HMN.out]
  have hb3 := hb2.trans (hx3.mono hb2.size)
  clear hx3 hb2
  have HB3 := Go.Lib.hid hb3
  clear hb3
  go_wp2_with fail
  change Calls _ _ _ (w3.alloc (.cells (rrC ⟨n, 2, 1, 60, o⟩) 23)) _
  have hA := World.alloc_heap_new w3 (.cells (rrC ⟨n, 2, 1, 60, o⟩) 23)
  have hb4 := HB3.out.alloc HB3.out.size (.cells (rrC ⟨n, 2, 1, 60, o⟩) 23)
  generalize w3.alloc (.cells (rrC ⟨n, 2, 1, 60, o⟩) 23) = V1 at *
  generalize w3.heap.size = na at *
  clear HB3
  refine (MakeA_any n 60 x V1 HNL.out).mono ?_; rintro e w4 ⟨rfl, hx4⟩
  rw [HMA.out]
  have hA4 := heap_later (B := 0) hA hx4
  have hb5 := hb4.trans (hx4.mono hb4.size)
  clear hx4 hA hb4
  have HB5 := Go.Lib.hid hb5
  have HA4 := Go.Lib.hid hA4
  clear hb5 hA4
  go_wp2_with fail
  change Calls _ _ _ (w4.alloc (.cells (rrC ⟨n, 1, 1, 60, four x⟩) 23)) _
  have hB := World.alloc_heap_new w4 (.cells (rrC ⟨n, 1, 1, 60, four x⟩) 23)
  have hA5 := heap_later (B := 0) HA4.out ((Below.refl _ w4).alloc (Nat.le_refl _) (.cells (rrC ⟨n, 1, 1, 60, four x⟩) 23))
  have hb6 := HB5.out.alloc HB5.out.size (.cells (rrC ⟨n, 1, 1, 60, four x⟩) 23)
  generalize w4.alloc (.cells (rrC ⟨n, 1, 1, 60, four x⟩) 23) = V2 at *
  generalize w4.heap.size = nb at *
  clear HB5 HA4
  refine (MakeSOA_any n 60 1 x V2 (by omega)).mono ?_; rintro e w5 ⟨rfl, hx5⟩
  rw [HMS.out]
  have hA6 := heap_later (B := 0) hA5 hx5
  have hB6 := heap_later (B := 0) hB hx5
  have hb7 := hb6.trans (hx5.mono hb6.size)
  clear hx5 hA5 hB hb6
  obtain ⟨cA0, cA1, cA2, cA3, cA4⟩ := rr_cells hA6
  have hz : ∀ o, Below w5.heap.size w5 (w5.alloc o) := fun o => (Below.refl _ w5).alloc (Nat.le_refl _) o
  have HB7 := Go.Lib.hid hb7
  have HA6 := Go.Lib.hid hA6
  have HB6 := Go.Lib.hid hB6
  clear hb7 hA6 hB6
  go_wp2_with fail
  clear cA0 cA1 cA2 cA3 cA4
  change Calls _ _ _ (w5.alloc (.cells (rrC ⟨n, 6, 1, 60, soaD n 1 x⟩) 23)) _
  have hC := World.alloc_heap_new w5 (.cells (rrC ⟨n, 6, 1, 60, soaD n 1 x⟩) 23)
  have hA7 := heap_later (B := 0) HA6.out (hz (.cells (rrC ⟨n, 6, 1, 60, soaD n 1 x⟩) 23))
  have hB7 := heap_later (B := 0) HB6.out (hz (.cells (rrC ⟨n, 6, 1, 60, soaD n 1 x⟩) 23))
  have hb8 := HB7.out.alloc HB7.out.size (.cells (rrC ⟨n, 6, 1, 60, soaD n 1 x⟩) 23)
  clear hz HB7 HA6 HB6
  generalize w5.alloc (.cells (rrC ⟨n, 6, 1, 60, soaD n 1 x⟩) 23) = X at *
  generalize w5.heap.size = nc at *
  obtain ⟨cA0, cA1, cA2, cA3, cA4⟩ := rr_cells hA7
  obtain ⟨cB0, cB1, cB2, cB3, cB4⟩ := rr_cells hB7
  obtain ⟨cC0, cC1, cC2, cC3, cC4⟩ := rr_cells hC
  clear hA7 hB7 hC
  have HB8 := Go.Lib.hid hb8
  clear hb8
  refine (Target_any ⟨n, 2, 1, 60, o⟩ _ HOA.out).mono ?_; rintro e X1 ⟨rfl, hx⟩
  rw [HT1.out]
  have hx1 := hx
  clear hx
  go_wp2_with fail
  refine (Addr_any ⟨n, 1, 1, 60, four x⟩ _ HOB.out).mono ?_; rintro e X2 ⟨rfl, hx⟩
  rw [HT2.out]
  have hx2 := hx1.trans (hx.mono hx1.size)
  clear hx hx1
  go_wp2_with fail
  refine (Minimum_any ⟨n, 6, 1, 60, soaD n 1 x⟩ _ HOC.out).mono ?_; rintro e X3 ⟨rfl, hx⟩
  rw [HT3.out]
  have hx3 := hx2.trans (hx.mono hx2.size)
  clear hx hx2
  go_wp2_with fail
  refine (Target_any ⟨n, 1, 1, 60, four x⟩ _ HOB.out).mono ?_; rintro e X4 ⟨rfl, hx⟩
  rw [HT4.out]
  have hx4 := hx3.trans (hx.mono hx3.size)
  clear hx hx3
  go_wp2_with fail
  refine (Addr_any ⟨n, 2, 1, 60, o⟩ _ HOA.out).mono ?_; rintro e X5 ⟨rfl, hx⟩
  rw [HT5.out]
  have hx5 := hx4.trans (hx.mono hx4.size)
  clear hx hx4
  go_wp2_with fail
  refine (Minimum_any ⟨n, 1, 1, 60, four x⟩ _ HOB.out).mono ?_; rintro e X6 ⟨rfl, hx⟩
  rw [HT6.out]
  have hx6 := hx5.trans (hx.mono hx5.size)
  clear hx hx5
  go_wp2_with fail
  refine (Target_any ⟨n, 6, 1, 60, soaD n 1 x⟩ _ HOC.out).mono ?_; rintro e X7 ⟨rfl, hx⟩
  rw [HT7.out]
  have hx7 := hx6.trans (hx.mono hx6.size)
  clear hx hx6
  go_wp2_with fail
  refine (Target_any ⟨n, 15, 1, 0, [0, 1] ++ o⟩ _ HOD.out).mono ?_; rintro e X8 ⟨rfl, hx⟩
  rw [HT8.out]
  have hx8 := hx7.trans (hx.mono hx7.size)
  clear hx hx7
  go_wp2_with fail
  refine (Check_any ⟨n, 2, 1, 60, o⟩ _ HOA.out).mono ?_; rintro e X9 ⟨rfl, hx⟩
  rw [HK1.out]
  have hx9 := hx8.trans (hx.mono hx8.size)
  clear hx hx8
  go_wp2_with fail
  refine (Check_any ⟨n, 1, 1, 60, four x⟩ _ HOB.out).mono ?_; rintro e X10 ⟨rfl, hx⟩
  rw [HK2.out]
  have hx10 := hx9.trans (hx.mono hx9.size)
  clear hx hx9
  go_wp2_with fail
  refine (Check_any ⟨n, 6, 1, 60, soaD n 1 x⟩ _ HOC.out).mono ?_; rintro e X11 ⟨rfl, hx⟩
  rw [HK3.out]
  have hx11 := hx10.trans (hx.mono hx10.size)
  clear hx hx10
  go_wp2_with fail
  refine (HAW.out _).mono ?_; rintro e wz ⟨rfl, hx⟩
  have hbe := HB8.out.trans ((hx11.trans (hx.mono hx11.size)).mono HB8.out.size)
  have HBE := Go.Lib.hid hbe
  clear hbe
  clear hx hx11
  go_wp2_with fail
  go_ret
  exact ⟨rfl, HBE.out⟩

set_option maxRecDepth 100000 in
set_option maxHeartbeats 16000000 in
theorem k1 (n o : List UInt8) (tt x : Int) (w : World)
    (h0 : n.length ≤ 100) (h1 : o.length ≤ 100) (g0 : 0 ≤ x) (g1 : x < 4294967296)
    (HV : Hid (∀ W, Calls Tryd.prog 35 #[.string (mk n)] W fun e w' => e = .returned (.bool true) ∧ Below W.heap.size W w'))
    (HV2 : Hid (∀ W, Calls Tryd.prog 35 #[.string (mk o)] W fun e w' => e = .returned (.bool true) ∧ Below W.heap.size W w'))
    (HRN : Hid (∀ W, Calls Tryd.prog 36 #[.int .i64 tt, .int .i64 3] W fun e w' => e = .returned (.int .i64 1) ∧ W = w'))
    (HNL : Hid (n.length ≤ maxLen)) (HOL : Hid (o.length ≤ maxLen)) (HMN : Hid (makeNN n 5 60 o = ⟨n, 5, 1, 60, o⟩)) (HMA : Hid (makeAN n 60 x = ⟨n, 1, 1, 60, four x⟩)) (HMS : Hid (makeSN n 60 1 x = ⟨n, 6, 1, 60, soaD n 1 x⟩))
    (HOA : Hid (RROk ⟨n, 5, 1, 60, o⟩)) (HOB : Hid (RROk ⟨n, 1, 1, 60, four x⟩)) (HOC : Hid (RROk ⟨n, 6, 1, 60, soaD n 1 x⟩)) (HOD : Hid (RROk ⟨n, 15, 1, 0, [0, 1] ++ o⟩))
    (HT1 : Hid (targV 5 o = .tuple #[.string (mk o), .bool true])) (HT2 : Hid (addrV 1 (four x) = .tuple #[.int .i64 x, .bool true])) (HT3 : Hid (minV 6 (soaD n 1 x) = .tuple #[.int .i64 x, .bool true]))
    (HT4 : Hid (targV 1 (four x) = .tuple #[.string ⟨#[]⟩, .bool false])) (HT5 : Hid (addrV 5 o = .tuple #[.int .i64 0, .bool false])) (HT6 : Hid (minV 1 (four x) = .tuple #[.int .i64 0, .bool false]))
    (HT7 : Hid (targV 6 (soaD n 1 x) = .tuple #[.string ⟨#[]⟩, .bool false])) (HT8 : Hid (targV 15 ([0, 1] ++ o) = .tuple #[.string (mk o), .bool true])) (HK1 : Hid (checkB ⟨n, 5, 1, 60, o⟩ = true)) (HK2 : Hid (checkB ⟨n, 1, 1, 60, four x⟩ = true)) (HK3 : Hid (checkB ⟨n, 6, 1, 60, soaD n 1 x⟩ = true))
    : Calls Tryd.prog 8 #[.string (mk n), .string (mk o), .int .i64 tt, .int .i64 x] w fun e w' => e = .returned (.bool true) ∧ Below w.heap.size w w' := by
  have HAW := Go.Lib.hid awake_any
  have HB := Go.Lib.hid (Below.refl w.heap.size w)
  have hnm : (mk n).size = n.length := size_mk n
  have hom : (mk o).size = o.length := size_mk o
  have e1 : ¬ (100 : Int) < (n.length : Int) := by omega
  have e2 : ¬ (100 : Int) < (o.length : Int) := by omega
  have e3 : ¬ x < 0 := by omega
  have e4 : ¬ (4294967296 : Int) ≤ x := by omega
  have q1 : (⟨#[0, 1]⟩ : ByteArray) ++ mk o = mk ([0, 1] ++ o) := mk_app [0, 1] o
  have q2 : ¬ 9223372036854775807 < 2 + o.length := by omega
  go_enter Tryd.func8, Tryd.ntmps8
  go_wp2_with fail
  refine (HV.out _).mono ?_; rintro e wb15 ⟨rfl, hx⟩
  have hb := HB.out.trans (hx.mono HB.out.size)
  clear HB
  have HB := Go.Lib.hid hb
  clear hx hb
  go_wp2_with fail
  refine (HV2.out _).mono ?_; rintro e w2 ⟨rfl, hx2⟩
  have hb := HB.out.trans (hx2.mono HB.out.size)
  clear HB hx2
  have HB := Go.Lib.hid hb
  clear hb
  go_wp2_with fail
  refine (HRN.out _).mono ?_; rintro e _ ⟨rfl, rfl⟩
  go_wp2_with fail
  have hb2 := HB.out.alloc HB.out.size (.cells #[.int .i64 2, .int .i64 5, .int .i64 12] 3)
  generalize w2.alloc (.cells #[.int .i64 2, .int .i64 5, .int .i64 12] 3) = V0 at *
  clear HB
  refine (MakeName_any n 5 60 o V0 HNL.out HOL.out).mono ?_; rintro e w3 ⟨rfl, hx3⟩
  rw [HMN.out]
  have hb3 := hb2.trans (hx3.mono hb2.size)
  clear hx3 hb2
  have HB3 := Go.Lib.hid hb3
  clear hb3
  go_wp2_with fail
  change Calls _ _ _ (w3.alloc (.cells (rrC ⟨n, 5, 1, 60, o⟩) 23)) _
  have hA := World.alloc_heap_new w3 (.cells (rrC ⟨n, 5, 1, 60, o⟩) 23)
  have hb4 := HB3.out.alloc HB3.out.size (.cells (rrC ⟨n, 5, 1, 60, o⟩) 23)
  generalize w3.alloc (.cells (rrC ⟨n, 5, 1, 60, o⟩) 23) = V1 at *
  generalize w3.heap.size = na at *
  clear HB3
  refine (MakeA_any n 60 x V1 HNL.out).mono ?_; rintro e w4 ⟨rfl, hx4⟩
  rw [HMA.out]
  have hA4 := heap_later (B := 0) hA hx4
  have hb5 := hb4.trans (hx4.mono hb4.size)
  clear hx4 hA hb4
  have HB5 := Go.Lib.hid hb5
  have HA4 := Go.Lib.hid hA4
  clear hb5 hA4
  go_wp2_with fail
  change Calls _ _ _ (w4.alloc (.cells (rrC ⟨n, 1, 1, 60, four x⟩) 23)) _
  have hB := World.alloc_heap_new w4 (.cells (rrC ⟨n, 1, 1, 60, four x⟩) 23)
  have hA5 := heap_later (B := 0) HA4.out ((Below.refl _ w4).alloc (Nat.le_refl _) (.cells (rrC ⟨n, 1, 1, 60, four x⟩) 23))
  have hb6 := HB5.out.alloc HB5.out.size (.cells (rrC ⟨n, 1, 1, 60, four x⟩) 23)
  generalize w4.alloc (.cells (rrC ⟨n, 1, 1, 60, four x⟩) 23) = V2 at *
  generalize w4.heap.size = nb at *
  clear HB5 HA4
  refine (MakeSOA_any n 60 1 x V2 (by omega)).mono ?_; rintro e w5 ⟨rfl, hx5⟩
  rw [HMS.out]
  have hA6 := heap_later (B := 0) hA5 hx5
  have hB6 := heap_later (B := 0) hB hx5
  have hb7 := hb6.trans (hx5.mono hb6.size)
  clear hx5 hA5 hB hb6
  obtain ⟨cA0, cA1, cA2, cA3, cA4⟩ := rr_cells hA6
  have hz : ∀ o, Below w5.heap.size w5 (w5.alloc o) := fun o => (Below.refl _ w5).alloc (Nat.le_refl _) o
  have HB7 := Go.Lib.hid hb7
  have HA6 := Go.Lib.hid hA6
  have HB6 := Go.Lib.hid hB6
  clear hb7 hA6 hB6
  go_wp2_with fail
  clear cA0 cA1 cA2 cA3 cA4
  change Calls _ _ _ (w5.alloc (.cells (rrC ⟨n, 6, 1, 60, soaD n 1 x⟩) 23)) _
  have hC := World.alloc_heap_new w5 (.cells (rrC ⟨n, 6, 1, 60, soaD n 1 x⟩) 23)
  have hA7 := heap_later (B := 0) HA6.out (hz (.cells (rrC ⟨n, 6, 1, 60, soaD n 1 x⟩) 23))
  have hB7 := heap_later (B := 0) HB6.out (hz (.cells (rrC ⟨n, 6, 1, 60, soaD n 1 x⟩) 23))
  have hb8 := HB7.out.alloc HB7.out.size (.cells (rrC ⟨n, 6, 1, 60, soaD n 1 x⟩) 23)
  clear hz HB7 HA6 HB6
  generalize w5.alloc (.cells (rrC ⟨n, 6, 1, 60, soaD n 1 x⟩) 23) = X at *
  generalize w5.heap.size = nc at *
  obtain ⟨cA0, cA1, cA2, cA3, cA4⟩ := rr_cells hA7
  obtain ⟨cB0, cB1, cB2, cB3, cB4⟩ := rr_cells hB7
  obtain ⟨cC0, cC1, cC2, cC3, cC4⟩ := rr_cells hC
  clear hA7 hB7 hC
  have HB8 := Go.Lib.hid hb8
  clear hb8
  refine (Target_any ⟨n, 5, 1, 60, o⟩ _ HOA.out).mono ?_; rintro e X1 ⟨rfl, hx⟩
  rw [HT1.out]
  have hx1 := hx
  clear hx
  go_wp2_with fail
  refine (Addr_any ⟨n, 1, 1, 60, four x⟩ _ HOB.out).mono ?_; rintro e X2 ⟨rfl, hx⟩
  rw [HT2.out]
  have hx2 := hx1.trans (hx.mono hx1.size)
  clear hx hx1
  go_wp2_with fail
  refine (Minimum_any ⟨n, 6, 1, 60, soaD n 1 x⟩ _ HOC.out).mono ?_; rintro e X3 ⟨rfl, hx⟩
  rw [HT3.out]
  have hx3 := hx2.trans (hx.mono hx2.size)
  clear hx hx2
  go_wp2_with fail
  refine (Target_any ⟨n, 1, 1, 60, four x⟩ _ HOB.out).mono ?_; rintro e X4 ⟨rfl, hx⟩
  rw [HT4.out]
  have hx4 := hx3.trans (hx.mono hx3.size)
  clear hx hx3
  go_wp2_with fail
  refine (Addr_any ⟨n, 5, 1, 60, o⟩ _ HOA.out).mono ?_; rintro e X5 ⟨rfl, hx⟩
  rw [HT5.out]
  have hx5 := hx4.trans (hx.mono hx4.size)
  clear hx hx4
  go_wp2_with fail
  refine (Minimum_any ⟨n, 1, 1, 60, four x⟩ _ HOB.out).mono ?_; rintro e X6 ⟨rfl, hx⟩
  rw [HT6.out]
  have hx6 := hx5.trans (hx.mono hx5.size)
  clear hx hx5
  go_wp2_with fail
  refine (Target_any ⟨n, 6, 1, 60, soaD n 1 x⟩ _ HOC.out).mono ?_; rintro e X7 ⟨rfl, hx⟩
  rw [HT7.out]
  have hx7 := hx6.trans (hx.mono hx6.size)
  clear hx hx6
  go_wp2_with fail
  refine (Target_any ⟨n, 15, 1, 0, [0, 1] ++ o⟩ _ HOD.out).mono ?_; rintro e X8 ⟨rfl, hx⟩
  rw [HT8.out]
  have hx8 := hx7.trans (hx.mono hx7.size)
  clear hx hx7
  go_wp2_with fail
  refine (Check_any ⟨n, 5, 1, 60, o⟩ _ HOA.out).mono ?_; rintro e X9 ⟨rfl, hx⟩
  rw [HK1.out]
  have hx9 := hx8.trans (hx.mono hx8.size)
  clear hx hx8
  go_wp2_with fail
  refine (Check_any ⟨n, 1, 1, 60, four x⟩ _ HOB.out).mono ?_; rintro e X10 ⟨rfl, hx⟩
  rw [HK2.out]
  have hx10 := hx9.trans (hx.mono hx9.size)
  clear hx hx9
  go_wp2_with fail
  refine (Check_any ⟨n, 6, 1, 60, soaD n 1 x⟩ _ HOC.out).mono ?_; rintro e X11 ⟨rfl, hx⟩
  rw [HK3.out]
  have hx11 := hx10.trans (hx.mono hx10.size)
  clear hx hx10
  go_wp2_with fail
  refine (HAW.out _).mono ?_; rintro e wz ⟨rfl, hx⟩
  have hbe := HB8.out.trans ((hx11.trans (hx.mono hx11.size)).mono HB8.out.size)
  have HBE := Go.Lib.hid hbe
  clear hbe
  clear hx hx11
  go_wp2_with fail
  go_ret
  exact ⟨rfl, HBE.out⟩

set_option maxRecDepth 100000 in
set_option maxHeartbeats 16000000 in
theorem k2 (n o : List UInt8) (tt x : Int) (w : World)
    (h0 : n.length ≤ 100) (h1 : o.length ≤ 100) (g0 : 0 ≤ x) (g1 : x < 4294967296)
    (HV : Hid (∀ W, Calls Tryd.prog 35 #[.string (mk n)] W fun e w' => e = .returned (.bool true) ∧ Below W.heap.size W w'))
    (HV2 : Hid (∀ W, Calls Tryd.prog 35 #[.string (mk o)] W fun e w' => e = .returned (.bool true) ∧ Below W.heap.size W w'))
    (HRN : Hid (∀ W, Calls Tryd.prog 36 #[.int .i64 tt, .int .i64 3] W fun e w' => e = .returned (.int .i64 2) ∧ W = w'))
    (HNL : Hid (n.length ≤ maxLen)) (HOL : Hid (o.length ≤ maxLen)) (HMN : Hid (makeNN n 12 60 o = ⟨n, 12, 1, 60, o⟩)) (HMA : Hid (makeAN n 60 x = ⟨n, 1, 1, 60, four x⟩)) (HMS : Hid (makeSN n 60 1 x = ⟨n, 6, 1, 60, soaD n 1 x⟩))
    (HOA : Hid (RROk ⟨n, 12, 1, 60, o⟩)) (HOB : Hid (RROk ⟨n, 1, 1, 60, four x⟩)) (HOC : Hid (RROk ⟨n, 6, 1, 60, soaD n 1 x⟩)) (HOD : Hid (RROk ⟨n, 15, 1, 0, [0, 1] ++ o⟩))
    (HT1 : Hid (targV 12 o = .tuple #[.string (mk o), .bool true])) (HT2 : Hid (addrV 1 (four x) = .tuple #[.int .i64 x, .bool true])) (HT3 : Hid (minV 6 (soaD n 1 x) = .tuple #[.int .i64 x, .bool true]))
    (HT4 : Hid (targV 1 (four x) = .tuple #[.string ⟨#[]⟩, .bool false])) (HT5 : Hid (addrV 12 o = .tuple #[.int .i64 0, .bool false])) (HT6 : Hid (minV 1 (four x) = .tuple #[.int .i64 0, .bool false]))
    (HT7 : Hid (targV 6 (soaD n 1 x) = .tuple #[.string ⟨#[]⟩, .bool false])) (HT8 : Hid (targV 15 ([0, 1] ++ o) = .tuple #[.string (mk o), .bool true])) (HK1 : Hid (checkB ⟨n, 12, 1, 60, o⟩ = true)) (HK2 : Hid (checkB ⟨n, 1, 1, 60, four x⟩ = true)) (HK3 : Hid (checkB ⟨n, 6, 1, 60, soaD n 1 x⟩ = true))
    : Calls Tryd.prog 8 #[.string (mk n), .string (mk o), .int .i64 tt, .int .i64 x] w fun e w' => e = .returned (.bool true) ∧ Below w.heap.size w w' := by
  have HAW := Go.Lib.hid awake_any
  have HB := Go.Lib.hid (Below.refl w.heap.size w)
  have hnm : (mk n).size = n.length := size_mk n
  have hom : (mk o).size = o.length := size_mk o
  have e1 : ¬ (100 : Int) < (n.length : Int) := by omega
  have e2 : ¬ (100 : Int) < (o.length : Int) := by omega
  have e3 : ¬ x < 0 := by omega
  have e4 : ¬ (4294967296 : Int) ≤ x := by omega
  have q1 : (⟨#[0, 1]⟩ : ByteArray) ++ mk o = mk ([0, 1] ++ o) := mk_app [0, 1] o
  have q2 : ¬ 9223372036854775807 < 2 + o.length := by omega
  go_enter Tryd.func8, Tryd.ntmps8
  go_wp2_with fail
  refine (HV.out _).mono ?_; rintro e wb16 ⟨rfl, hx⟩
  have hb := HB.out.trans (hx.mono HB.out.size)
  clear HB
  have HB := Go.Lib.hid hb
  clear hx hb
  go_wp2_with fail
  refine (HV2.out _).mono ?_; rintro e w2 ⟨rfl, hx2⟩
  have hb := HB.out.trans (hx2.mono HB.out.size)
  clear HB hx2
  have HB := Go.Lib.hid hb
  clear hb
  go_wp2_with fail
  refine (HRN.out _).mono ?_; rintro e _ ⟨rfl, rfl⟩
  go_wp2_with fail
  have hb2 := HB.out.alloc HB.out.size (.cells #[.int .i64 2, .int .i64 5, .int .i64 12] 3)
  generalize w2.alloc (.cells #[.int .i64 2, .int .i64 5, .int .i64 12] 3) = V0 at *
  clear HB
  refine (MakeName_any n 12 60 o V0 HNL.out HOL.out).mono ?_; rintro e w3 ⟨rfl, hx3⟩
  rw [HMN.out]
  have hb3 := hb2.trans (hx3.mono hb2.size)
  clear hx3 hb2
  have HB3 := Go.Lib.hid hb3
  clear hb3
  go_wp2_with fail
  change Calls _ _ _ (w3.alloc (.cells (rrC ⟨n, 12, 1, 60, o⟩) 23)) _
  have hA := World.alloc_heap_new w3 (.cells (rrC ⟨n, 12, 1, 60, o⟩) 23)
  have hb4 := HB3.out.alloc HB3.out.size (.cells (rrC ⟨n, 12, 1, 60, o⟩) 23)
  generalize w3.alloc (.cells (rrC ⟨n, 12, 1, 60, o⟩) 23) = V1 at *
  generalize w3.heap.size = na at *
  clear HB3
  refine (MakeA_any n 60 x V1 HNL.out).mono ?_; rintro e w4 ⟨rfl, hx4⟩
  rw [HMA.out]
  have hA4 := heap_later (B := 0) hA hx4
  have hb5 := hb4.trans (hx4.mono hb4.size)
  clear hx4 hA hb4
  have HB5 := Go.Lib.hid hb5
  have HA4 := Go.Lib.hid hA4
  clear hb5 hA4
  go_wp2_with fail
  change Calls _ _ _ (w4.alloc (.cells (rrC ⟨n, 1, 1, 60, four x⟩) 23)) _
  have hB := World.alloc_heap_new w4 (.cells (rrC ⟨n, 1, 1, 60, four x⟩) 23)
  have hA5 := heap_later (B := 0) HA4.out ((Below.refl _ w4).alloc (Nat.le_refl _) (.cells (rrC ⟨n, 1, 1, 60, four x⟩) 23))
  have hb6 := HB5.out.alloc HB5.out.size (.cells (rrC ⟨n, 1, 1, 60, four x⟩) 23)
  generalize w4.alloc (.cells (rrC ⟨n, 1, 1, 60, four x⟩) 23) = V2 at *
  generalize w4.heap.size = nb at *
  clear HB5 HA4
  refine (MakeSOA_any n 60 1 x V2 (by omega)).mono ?_; rintro e w5 ⟨rfl, hx5⟩
  rw [HMS.out]
  have hA6 := heap_later (B := 0) hA5 hx5
  have hB6 := heap_later (B := 0) hB hx5
  have hb7 := hb6.trans (hx5.mono hb6.size)
  clear hx5 hA5 hB hb6
  obtain ⟨cA0, cA1, cA2, cA3, cA4⟩ := rr_cells hA6
  have hz : ∀ o, Below w5.heap.size w5 (w5.alloc o) := fun o => (Below.refl _ w5).alloc (Nat.le_refl _) o
  have HB7 := Go.Lib.hid hb7
  have HA6 := Go.Lib.hid hA6
  have HB6 := Go.Lib.hid hB6
  clear hb7 hA6 hB6
  go_wp2_with fail
  clear cA0 cA1 cA2 cA3 cA4
  change Calls _ _ _ (w5.alloc (.cells (rrC ⟨n, 6, 1, 60, soaD n 1 x⟩) 23)) _
  have hC := World.alloc_heap_new w5 (.cells (rrC ⟨n, 6, 1, 60, soaD n 1 x⟩) 23)
  have hA7 := heap_later (B := 0) HA6.out (hz (.cells (rrC ⟨n, 6, 1, 60, soaD n 1 x⟩) 23))
  have hB7 := heap_later (B := 0) HB6.out (hz (.cells (rrC ⟨n, 6, 1, 60, soaD n 1 x⟩) 23))
  have hb8 := HB7.out.alloc HB7.out.size (.cells (rrC ⟨n, 6, 1, 60, soaD n 1 x⟩) 23)
  clear hz HB7 HA6 HB6
  generalize w5.alloc (.cells (rrC ⟨n, 6, 1, 60, soaD n 1 x⟩) 23) = X at *
  generalize w5.heap.size = nc at *
  obtain ⟨cA0, cA1, cA2, cA3, cA4⟩ := rr_cells hA7
  obtain ⟨cB0, cB1, cB2, cB3, cB4⟩ := rr_cells hB7
  obtain ⟨cC0, cC1, cC2, cC3, cC4⟩ := rr_cells hC
  clear hA7 hB7 hC
  have HB8 := Go.Lib.hid hb8
  clear hb8
  refine (Target_any ⟨n, 12, 1, 60, o⟩ _ HOA.out).mono ?_; rintro e X1 ⟨rfl, hx⟩
  rw [HT1.out]
  have hx1 := hx
  clear hx
  go_wp2_with fail
  refine (Addr_any ⟨n, 1, 1, 60, four x⟩ _ HOB.out).mono ?_; rintro e X2 ⟨rfl, hx⟩
  rw [HT2.out]
  have hx2 := hx1.trans (hx.mono hx1.size)
  clear hx hx1
  go_wp2_with fail
  refine (Minimum_any ⟨n, 6, 1, 60, soaD n 1 x⟩ _ HOC.out).mono ?_; rintro e X3 ⟨rfl, hx⟩
  rw [HT3.out]
  have hx3 := hx2.trans (hx.mono hx2.size)
  clear hx hx2
  go_wp2_with fail
  refine (Target_any ⟨n, 1, 1, 60, four x⟩ _ HOB.out).mono ?_; rintro e X4 ⟨rfl, hx⟩
  rw [HT4.out]
  have hx4 := hx3.trans (hx.mono hx3.size)
  clear hx hx3
  go_wp2_with fail
  refine (Addr_any ⟨n, 12, 1, 60, o⟩ _ HOA.out).mono ?_; rintro e X5 ⟨rfl, hx⟩
  rw [HT5.out]
  have hx5 := hx4.trans (hx.mono hx4.size)
  clear hx hx4
  go_wp2_with fail
  refine (Minimum_any ⟨n, 1, 1, 60, four x⟩ _ HOB.out).mono ?_; rintro e X6 ⟨rfl, hx⟩
  rw [HT6.out]
  have hx6 := hx5.trans (hx.mono hx5.size)
  clear hx hx5
  go_wp2_with fail
  refine (Target_any ⟨n, 6, 1, 60, soaD n 1 x⟩ _ HOC.out).mono ?_; rintro e X7 ⟨rfl, hx⟩
  rw [HT7.out]
  have hx7 := hx6.trans (hx.mono hx6.size)
  clear hx hx6
  go_wp2_with fail
  refine (Target_any ⟨n, 15, 1, 0, [0, 1] ++ o⟩ _ HOD.out).mono ?_; rintro e X8 ⟨rfl, hx⟩
  rw [HT8.out]
  have hx8 := hx7.trans (hx.mono hx7.size)
  clear hx hx7
  go_wp2_with fail
  refine (Check_any ⟨n, 12, 1, 60, o⟩ _ HOA.out).mono ?_; rintro e X9 ⟨rfl, hx⟩
  rw [HK1.out]
  have hx9 := hx8.trans (hx.mono hx8.size)
  clear hx hx8
  go_wp2_with fail
  refine (Check_any ⟨n, 1, 1, 60, four x⟩ _ HOB.out).mono ?_; rintro e X10 ⟨rfl, hx⟩
  rw [HK2.out]
  have hx10 := hx9.trans (hx.mono hx9.size)
  clear hx hx9
  go_wp2_with fail
  refine (Check_any ⟨n, 6, 1, 60, soaD n 1 x⟩ _ HOC.out).mono ?_; rintro e X11 ⟨rfl, hx⟩
  rw [HK3.out]
  have hx11 := hx10.trans (hx.mono hx10.size)
  clear hx hx10
  go_wp2_with fail
  refine (HAW.out _).mono ?_; rintro e wz ⟨rfl, hx⟩
  have hbe := HB8.out.trans ((hx11.trans (hx.mono hx11.size)).mono HB8.out.size)
  have HBE := Go.Lib.hid hbe
  clear hbe
  clear hx hx11
  go_wp2_with fail
  go_ret
  exact ⟨rfl, HBE.out⟩


theorem walk (s0 s1 : ByteArray) (tt x : Int) (w : World) (h0 : s0.size ≤ maxLen) (h1 : s1.size ≤ maxLen) (_ : Fits tt) (_ : Fits x) :
    Calls Tryd.prog 8 #[.string s0, .string s1, .int .i64 tt, .int .i64 x] w fun e w' => e = .returned (.bool true) ∧ Below w.heap.size w w' := by
  obtain ⟨n, rfl⟩ : ∃ n, s0 = mk n := ⟨bl s0, (mk_bl s0).symm⟩
  obtain ⟨o, rfl⟩ : ∃ n, s1 = mk n := ⟨bl s1, (mk_bl s1).symm⟩
  rw [size_mk] at h0 h1
  by_cases l0 : 100 < n.length
  · exact t1 n o tt x w h0 l0
  by_cases l1 : 100 < o.length
  · exact t1b n o tt x w h1 (by omega) l1
  have l0 : n.length ≤ 100 := by omega
  have l1 : o.length ≤ 100 := by omega
  have hv := fun (n : List UInt8) (b : Bool) (h : Nm.valid n = b) => Go.Lib.hid fun (W : World) => (by have k := refValid_any (mk n) W; rw [bl_mk, h] at k; exact k : Calls Tryd.prog 35 #[.string (mk n)] W fun e w' => e = .returned (.bool b) ∧ Below W.heap.size W w')
  have hrn := fun (q : Int) (hq : tt % 3 = q) => Go.Lib.hid fun (W : World) => (by have h := Round_any tt 3 W (by decide) (by decide); rw [hq] at h; exact h : Calls Tryd.prog 36 #[.int .i64 tt, .int .i64 3] W fun e w' => e = .returned (.int .i64 q) ∧ W = w')
  cases hvn : Nm.valid n with
  | false => exact t2 n o tt x w l0 l1 (hv _ _ hvn)
  | true =>
    cases hvo : Nm.valid o with
    | false => exact t3 n o tt x w l0 l1 (hv _ _ hvn) (hv _ _ hvo)
    | true =>
      by_cases g0 : x < 0
      · exact t4 n o tt x w l0 l1 g0 (hv _ _ hvn) (hv _ _ hvo)
      by_cases g1 : 4294967296 ≤ x
      · exact t5 n o tt x w l0 l1 (by omega) g1 (hv _ _ hvn) (hv _ _ hvo)
      have g0 : 0 ≤ x := by omega
      have g1 : x < 4294967296 := by omega
      have hsl : (soaD n 1 x).length ≤ maxLen := by simp [soaD, four_length, maxLen]; omega
      have hfl : (four x).length ≤ maxLen := by simp [four_length, maxLen]
      have hol : ([0, 1] ++ o).length ≤ maxLen := by simp [maxLen]; omega
      have hsix : (0 : Int) ≤ 60 ∧ (60 : Int) ≤ 2147483647 := by decide
      have hcase : tt % 3 = 0 ∨ tt % 3 = 1 ∨ tt % 3 = 2 := by omega
      rcases hcase with h | h | h
      · exact k0 n o tt x w l0 l1 g0 g1 (hv _ _ hvn) (hv _ _ hvo) (hrn _ h) (Go.Lib.hid h0) (Go.Lib.hid h1) (Go.Lib.hid (makeN_ok (by decide) hvn hvo hsix)) (Go.Lib.hid (makeA_ok hvn g0 g1 hsix)) (Go.Lib.hid (makeS_ok hvn (by decide) ⟨g0, g1⟩ hsix))
          (Go.Lib.hid ⟨h0, h1⟩) (Go.Lib.hid ⟨h0, hfl⟩) (Go.Lib.hid ⟨h0, hsl⟩) (Go.Lib.hid ⟨h0, hol⟩) (Go.Lib.hid (targ_name (by decide) hvo)) (Go.Lib.hid (addr_a g0 g1)) (Go.Lib.hid (min_soa hvn g0 g1)) (Go.Lib.hid (targ_a _)) (Go.Lib.hid (addr_no (by decide) _)) (Go.Lib.hid (min_no (by decide) _))
          (Go.Lib.hid (targ_soa _)) (Go.Lib.hid (targ_one (t := 15) (k := 2) rfl rfl hvo (by omega))) (Go.Lib.hid (chk hvn (by decide) (by decide) (parts_one (by decide) hvo).1 60 hsix)) (Go.Lib.hid (chk hvn (by decide) (by decide) (data_a x) 60 hsix)) (Go.Lib.hid (chk hvn (by decide) (by decide) (soa_data hvn) 60 hsix))
      · exact k1 n o tt x w l0 l1 g0 g1 (hv _ _ hvn) (hv _ _ hvo) (hrn _ h) (Go.Lib.hid h0) (Go.Lib.hid h1) (Go.Lib.hid (makeN_ok (by decide) hvn hvo hsix)) (Go.Lib.hid (makeA_ok hvn g0 g1 hsix)) (Go.Lib.hid (makeS_ok hvn (by decide) ⟨g0, g1⟩ hsix))
          (Go.Lib.hid ⟨h0, h1⟩) (Go.Lib.hid ⟨h0, hfl⟩) (Go.Lib.hid ⟨h0, hsl⟩) (Go.Lib.hid ⟨h0, hol⟩) (Go.Lib.hid (targ_name (by decide) hvo)) (Go.Lib.hid (addr_a g0 g1)) (Go.Lib.hid (min_soa hvn g0 g1)) (Go.Lib.hid (targ_a _)) (Go.Lib.hid (addr_no (by decide) _)) (Go.Lib.hid (min_no (by decide) _))
          (Go.Lib.hid (targ_soa _)) (Go.Lib.hid (targ_one (t := 15) (k := 2) rfl rfl hvo (by omega))) (Go.Lib.hid (chk hvn (by decide) (by decide) (parts_one (by decide) hvo).1 60 hsix)) (Go.Lib.hid (chk hvn (by decide) (by decide) (data_a x) 60 hsix)) (Go.Lib.hid (chk hvn (by decide) (by decide) (soa_data hvn) 60 hsix))
      · exact k2 n o tt x w l0 l1 g0 g1 (hv _ _ hvn) (hv _ _ hvo) (hrn _ h) (Go.Lib.hid h0) (Go.Lib.hid h1) (Go.Lib.hid (makeN_ok (by decide) hvn hvo hsix)) (Go.Lib.hid (makeA_ok hvn g0 g1 hsix)) (Go.Lib.hid (makeS_ok hvn (by decide) ⟨g0, g1⟩ hsix))
          (Go.Lib.hid ⟨h0, h1⟩) (Go.Lib.hid ⟨h0, hfl⟩) (Go.Lib.hid ⟨h0, hsl⟩) (Go.Lib.hid ⟨h0, hol⟩) (Go.Lib.hid (targ_name (by decide) hvo)) (Go.Lib.hid (addr_a g0 g1)) (Go.Lib.hid (min_soa hvn g0 g1)) (Go.Lib.hid (targ_a _)) (Go.Lib.hid (addr_no (by decide) _)) (Go.Lib.hid (min_no (by decide) _))
          (Go.Lib.hid (targ_soa _)) (Go.Lib.hid (targ_one (t := 15) (k := 2) rfl rfl hvo (by omega))) (Go.Lib.hid (chk hvn (by decide) (by decide) (parts_one (by decide) hvo).1 60 hsix)) (Go.Lib.hid (chk hvn (by decide) (by decide) (data_a x) 60 hsix)) (Go.Lib.hid (chk hvn (by decide) (by decide) (soa_data hvn) 60 hsix))

set_option maxRecDepth 100000 in
theorem lifted (os : Os) (started : os.Started) (H : Type) (enc : TypeId × Value → H) :
    ReturnsInHanded {} Tryd.checked os 8 .any (fun w args => (Rows.recordTargetsSpec.pre enc Tryd.prog Tryd.f8 [] false w args ∧ laidMetH Tryd.prog laidL w) ∧ sizedMet enc Tryd.prog Tryd.f8 (OpenSpec.ofChange Rows.recordTargetsSpec) false w args) (Rows.recordTargetsSpec.post enc Tryd.prog Tryd.f8 false true false false) := by
  refine returnsInHanded_of_change_and (C := Tryd.checked) (X := fun w _ => laidMetH Tryd.prog laidL w) (fun _ _ _ hh h => h.of_heap hh) own started (by kernel_rfl) Tryd.func8
    (ChangeSpec.witness_shaped (enc := enc) (C := Tryd.checked) (os := os) (X := fun w _ => laidMetH Tryd.prog laidL w) false (World.doorLaid Tryd.prog 400 os) #[.string ⟨#[]⟩, .string ⟨#[]⟩, .int .i64 0, .int .i64 0] 8 rfl (World.shaped_of_RefB (by kernel_rfl) (by kernel_rfl)) (by kernel_rfl) (by kernel_rfl) (by kernel_rfl) (door_met os _)) ?_
  intro W base args ds gs before hval0 hW _ _ hL _
  have hval : ∀ (j : Nat) t v, Tryd.f8.params[j]? = some t → args[j]? = some v → Value.okWide Tryd.prog W .any base t v := hval0
  refine law_post enc 4 (by kernel_rfl) rfl rfl (by kernel_rfl) (fun ds h => match ds, h with | [_, _, _, _], _ => rfl) hW ?_
  obtain ⟨p, q, hA0, hV, rfl, _, _⟩ := hW
  have hA : DataW.TrodAll enc Tryd.prog W 0 (fun _ => true) true Tryd.f8.params.toList args.toList ds p := hA0
  rw [Tryd.params8] at hA hval
  obtain ⟨v0, vs0, d0, ds0, p0, q0, hargs, rfl, rfl, h0, r0⟩ := trodAll_cons hA
  obtain ⟨v1, vs1, d1, ds1, p1, q1, rfl, rfl, rfl, h1, r1⟩ := trodAll_cons r0
  obtain ⟨v2, vs2, d2, ds2, p2, q2, rfl, rfl, rfl, h2, r2⟩ := trodAll_cons r1
  obtain ⟨v3, vs3, d3, ds3, p3, q3, rfl, rfl, rfl, h3, r3⟩ := trodAll_cons r2
  obtain ⟨rfl, rfl, rfl⟩ := trodAll_nil r3
  obtain rfl : args = #[v0, v1, v2, v3] := by cases args; simp_all
  obtain ⟨s0, rfl, rfl, rfl, w0⟩ := open_string Tryd.underlying9 (hval 0 9 v0 rfl rfl) h0
  obtain ⟨s1, rfl, rfl, rfl, w1⟩ := open_string Tryd.underlying9 (hval 1 9 v1 rfl rfl) h1
  obtain ⟨a2, rfl, rfl, rfl, w2⟩ := open_int Tryd.underlying3 (hval 2 3 v2 rfl rfl) h2
  obtain ⟨a3, rfl, rfl, rfl, w3⟩ := open_int Tryd.underlying3 (hval 3 3 v3 rfl rfl) h3
  exact walk s0 s1 a2 a3 W w0 w1 (fits_of_wf w2) (fits_of_wf w3)

theorem over : Rows.recordTargetsRow.holds Tryd.pinned (OpenSpec.ofChange Rows.recordTargetsSpec) :=
  OpenClaim.holds_of_wide 8 Tryd.f8 rfl rfl rfl rfl rfl rfl rfl ⟨rfl, rfl, rfl, rfl, rfl⟩ rfl rfl rfl rfl rfl (by kernel_rfl) Tryd.func8 (by kernel_rfl)
    (of_decide_eq_true (by kernel_rfl)) (by unfold Func.isWrapper; first | (rw [if_pos (by decide +kernel)]; kernel_rfl) | (rw [if_neg (by decide +kernel)]; exact ⟨rfl, rfl⟩))
    (fun os started H enc _ => lifted os started H enc)

/-- the statement: the row, its listed variables tied to the text -/
theorem proved : Rows.RecordTargetsCardSaid :=
  Claim7.holds_tied_plain_at .later [] [.data, .data, .data] true _ false
    over (fun _ h => by cases h) (by kernel_rfl) (fun _ h => by cases h) recordTargets_row_tie rfl ⟨rfl, rfl⟩ (by kernel_rfl) rfl
    (fun f fn hf hfn => by
      obtain rfl : f = 8 := Option.some.inj ((show Tryd.prog.funcNamed "freshet/freshetlaw3.RecordTargets" = some 8 by kernel_rfl).symm.trans hf) |>.symm
      obtain rfl : fn = Tryd.f8 := (Option.some.inj (Tryd.func8.symm.trans hfn)).symm
      exact ⟨by kernel_rfl, fun j t ht => by
        rw [Tryd.params8] at ht
        have hm : t ∈ [9, 9, 3, 3] := by simpa using Array.mem_of_getElem? ht
        have hall : ([9, 9, 3, 3].all fun u => !Tryd.prog.wantsStandIn u) = true := by kernel_rfl
        exact (show Tryd.prog.wantsStandIn t = false by simpa using List.all_eq_true.1 hall t hm)⟩)
    (by kernel_rfl)
#print axioms proved
end Go.Proofs.YthfpijacemkbbaaDoor.recordTargets

