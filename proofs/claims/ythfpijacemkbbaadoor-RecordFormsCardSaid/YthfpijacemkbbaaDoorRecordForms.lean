/- RecordForms: data of each known type may be just in its own form; a byte more, or less, and it is none of it. For every input; no conditions. -/
import Derived.Test.YthfpijacemkbbaaDoorRqS
import Derived.Test.YthfpijacemkbbaaDoorOrdC
import Derived.Test.YthfpijacemkbbaaDoorDoor
import Derived.Test.YthfpijacemkbbaaDoorTie
import Derived.Test.YthfpijacemkbbaaDoorCards
namespace Go.Proofs.YthfpijacemkbbaaDoor.recordForms
open Go.ChangeShapes Go.WideShapes Go.ChangeAt Go.RowKit Go.Shelf Go.Sq
open Go.ChangeMaps (open_string shut_string)
set_option linter.unusedVariables false

theorem cell_new (W : World) (cs : List Value) (T : TypeId) (j : Nat) : (W.alloc (.cells cs.toArray T)).cell? ⟨W.heap.size, j, none⟩ = cs[j]? := by
  rw [World.cell?_alloc_at (hn := rfl)]
  simp
theorem three_lists (w : World) (x y z : List Value) (T U V : TypeId) :
    (∀ j u, x[j]? = some u → (((w.alloc (.cells x.toArray T)).alloc (.cells y.toArray U)).alloc (.cells z.toArray V)).cell? ⟨w.heap.size, j, none⟩ = some u) ∧
    (∀ j u, y[j]? = some u → (((w.alloc (.cells x.toArray T)).alloc (.cells y.toArray U)).alloc (.cells z.toArray V)).cell? ⟨w.heap.size + 1, j, none⟩ = some u) ∧
    (∀ j u, z[j]? = some u → (((w.alloc (.cells x.toArray T)).alloc (.cells y.toArray U)).alloc (.cells z.toArray V)).cell? ⟨w.heap.size + 1 + 1, j, none⟩ = some u) ∧
    Below w.heap.size w (((w.alloc (.cells x.toArray T)).alloc (.cells y.toArray U)).alloc (.cells z.toArray V)) ∧
    (((w.alloc (.cells x.toArray T)).alloc (.cells y.toArray U)).alloc (.cells z.toArray V)).heap.size = w.heap.size + 3 := by
  have b2 := (Below.refl _ (w.alloc (.cells x.toArray T))).alloc (Nat.le_refl _) (.cells y.toArray U)
  have b3 := (Below.refl _ ((w.alloc (.cells x.toArray T)).alloc (.cells y.toArray U))).alloc (Nat.le_refl _) (.cells z.toArray V)
  have h1 := cell_new w x T
  have h2 := cell_new (w.alloc (.cells x.toArray T)) y U
  have h3 := cell_new ((w.alloc (.cells x.toArray T)).alloc (.cells y.toArray U)) z V
  rw [World.size_alloc] at h2
  rw [World.size_alloc, World.size_alloc] at h3
  refine ⟨fun j u h => ?_, fun j u h => ?_, fun j u h => (h3 j).trans h, (((Below.refl _ w).alloc (Nat.le_refl _) _).alloc (by simp) _).alloc (by simp; omega) _, by simp⟩
  · exact (b3.cell (p := ⟨w.heap.size, j, none⟩) (by simp; omega)).trans ((b2.cell (p := ⟨w.heap.size, j, none⟩) (by simp)).trans ((h1 j).trans h))
  · exact (b3.cell (p := ⟨w.heap.size + 1, j, none⟩) (by simp)).trans ((h2 j).trans h)

def z20 : List UInt8 := [49, 50, 51, 52, 53, 54, 55, 56, 57, 48, 49, 50, 51, 52, 53, 54, 55, 56, 57, 48]
def tL : List Int := [1, 28, 2, 5, 12, 15, 33, 6]
def dL (n o : List UInt8) : List (List UInt8) := [[49, 50, 51, 52], [49, 50, 51, 52, 53, 54, 55, 56, 49, 50, 51, 52, 53, 54, 55, 56], n, n, n, [49, 50] ++ n, [49, 50, 51, 52, 53, 54] ++ n, n ++ (o ++ z20)]
def mL : List Int := [0, 0, 1, 1, 1, 1, 1, 2]

set_option maxRecDepth 100000 in
set_option maxHeartbeats 16000000 in
theorem t1 (n o : List UInt8) (k cut : Int) (w : World) (hn : n.length ≤ maxLen) (ho : o.length ≤ maxLen) (h0 : 100 < n.length ∨ (n.length ≤ 100 ∧ 100 < o.length)) :
    Calls Tryd.prog 6 #[.string (mk n), .string (mk o), .int .i64 k, .int .i64 cut] w fun e w' => e = .returned (.bool true) ∧ Below w.heap.size w w' := by
  have HAW := Go.Lib.hid awake_any
  have hnm : (mk n).size = n.length := size_mk n
  have hom : (mk o).size = o.length := size_mk o
  unfold maxLen at hn ho
  rcases h0 with h0 | ⟨h0, h1⟩
  · have e1 : (100 : Int) < (n.length : Int) := by omega
    clear h0
    go_enter Tryd.func6, Tryd.ntmps6
    go_wp2_with fail
    refine (HAW.out _).mono ?_; rintro e wz ⟨rfl, hx⟩
    have HXX := Go.Lib.hid hx
    clear hx
    go_wp2_with fail
    go_ret
    exact ⟨rfl, HXX.out⟩
  · have e1 : ¬ (100 : Int) < (n.length : Int) := by omega
    have e2 : (100 : Int) < (o.length : Int) := by omega
    clear h0 h1
    go_enter Tryd.func6, Tryd.ntmps6
    go_wp2_with fail
    refine (HAW.out _).mono ?_; rintro e wz ⟨rfl, hx⟩
    have HXX := Go.Lib.hid hx
    clear hx
    go_wp2_with fail
    go_ret
    exact ⟨rfl, HXX.out⟩

set_option maxRecDepth 100000 in
set_option maxHeartbeats 16000000 in
theorem t2 (n o : List UInt8) (k cut : Int) (w : World) (h0 : n.length ≤ 100) (h1 : o.length ≤ 100)
    (HV : Hid (∀ W, Calls Tryd.prog 35 #[.string (mk n)] W fun e w' => e = .returned (.bool false) ∧ Below W.heap.size W w')) :
    Calls Tryd.prog 6 #[.string (mk n), .string (mk o), .int .i64 k, .int .i64 cut] w fun e w' => e = .returned (.bool true) ∧ Below w.heap.size w w' := by
  have HAW := Go.Lib.hid awake_any
  have HB := Go.Lib.hid (Below.refl w.heap.size w)
  have hnm : (mk n).size = n.length := size_mk n
  have hom : (mk o).size = o.length := size_mk o
  have e1 : ¬ (100 : Int) < (n.length : Int) := by omega
  have e2 : ¬ (100 : Int) < (o.length : Int) := by omega
  go_enter Tryd.func6, Tryd.ntmps6
  go_wp2_with fail
  refine (HV.out _).mono ?_; rintro e wb1 ⟨rfl, hx⟩
  have hb := HB.out.trans (hx.mono HB.out.size)
  clear HB
  have HB := Go.Lib.hid hb
  clear hx hb
  go_wp2_with fail
  refine (HAW.out _).mono ?_; rintro e wb2 ⟨rfl, hx⟩
  have hb := HB.out.trans (hx.mono HB.out.size)
  clear HB
  have HB := Go.Lib.hid hb
  clear hx hb
  go_wp2_with fail
  go_ret
  exact ⟨rfl, HB.out⟩

set_option maxRecDepth 100000 in
set_option maxHeartbeats 16000000 in
theorem t3 (n o : List UInt8) (k cut : Int) (w : World) (h0 : n.length ≤ 100) (h1 : o.length ≤ 100)
    (HV : Hid (∀ W, Calls Tryd.prog 35 #[.string (mk n)] W fun e w' => e = .returned (.bool true) ∧ Below W.heap.size W w'))
    (HV2 : Hid (∀ W, Calls Tryd.prog 35 #[.string (mk o)] W fun e w' => e = .returned (.bool false) ∧ Below W.heap.size W w')) :
    Calls Tryd.prog 6 #[.string (mk n), .string (mk o), .int .i64 k, .int .i64 cut] w fun e w' => e = .returned (.bool true) ∧ Below w.heap.size w w' := by
  have HAW := Go.Lib.hid awake_any
  have HB := Go.Lib.hid (Below.refl w.heap.size w)
  have hnm : (mk n).size = n.length := size_mk n
  have hom : (mk o).size = o.length := size_mk o
  have e1 : ¬ (100 : Int) < (n.length : Int) := by omega
  have e2 : ¬ (100 : Int) < (o.length : Int) := by omega
  go_enter Tryd.func6, Tryd.ntmps6
  go_wp2_with fail
  refine (HV.out _).mono ?_; rintro e wb3 ⟨rfl, hx⟩
  have hb := HB.out.trans (hx.mono HB.out.size)
  clear HB
  have HB := Go.Lib.hid hb
  clear hx hb
  go_wp2_with fail
  refine (HV2.out _).mono ?_; rintro e wb4 ⟨rfl, hx⟩
  have hb := HB.out.trans (hx.mono HB.out.size)
  clear HB
  have HB := Go.Lib.hid hb
  clear hx hb
  go_wp2_with fail
  refine (HAW.out _).mono ?_; rintro e wb5 ⟨rfl, hx⟩
  have hb := HB.out.trans (hx.mono HB.out.size)
  clear HB
  have HB := Go.Lib.hid hb
  clear hx hb
  go_wp2_with fail
  go_ret
  exact ⟨rfl, HB.out⟩

set_option maxRecDepth 100000 in
set_option maxHeartbeats 16000000 in
theorem kk (n o D : List UInt8) (k cut T : Int) (q M c : Nat) (L : List (Nat × Nat)) (w : World) (h0 : n.length ≤ 100) (h1 : o.length ≤ 100) (hq : q < 8) (hc : c < D.length) (hD : D.length ≤ 300)
    (HV : Hid (∀ W, Calls Tryd.prog 35 #[.string (mk n)] W fun e w' => e = .returned (.bool true) ∧ Below W.heap.size W w'))
    (HV2 : Hid (∀ W, Calls Tryd.prog 35 #[.string (mk o)] W fun e w' => e = .returned (.bool true) ∧ Below W.heap.size W w'))
    (HR1 : Hid (∀ W, Calls Tryd.prog 36 #[.int .i64 k, .int .i64 8] W fun e w' => e = .returned (.int .i64 (q : Int)) ∧ W = w'))
    (HR2 : Hid (∀ W, Calls Tryd.prog 36 #[.int .i64 cut, .int .i64 (D.length : Int)] W fun e w' => e = .returned (.int .i64 (c : Int)) ∧ W = w'))
    (HT : Hid ((tL.map (Value.int .i64))[q]? = some (.int .i64 T))) (HDL : Hid ((encS (dL n o))[q]? = some (.string (mk D)))) (HML : Hid ((mL.map (Value.int .i64))[q]? = some (.int .i64 (M : Int))))
    (HD1 : Hid (∀ W, Calls Tryd.prog 12 #[.int .i64 T, .string (mk D)] W fun e w' => e = .returned (.bool true) ∧ Below W.heap.size W w'))
    (HD2 : Hid (∀ W, Calls Tryd.prog 12 #[.int .i64 T, .string (mk (D ++ [120]))] W fun e w' => e = .returned (.bool false) ∧ Below W.heap.size W w'))
    (HD3 : Hid (∀ W, Calls Tryd.prog 12 #[.int .i64 T, .string (mk (D.take c))] W fun e w' => e = .returned (.bool false) ∧ Below W.heap.size W w'))
    (HP : Hid (∀ W, Calls Tryd.prog 11 #[.int .i64 T, .string (mk D)] W fun e w' => ∃ v, e = .returned v ∧ Pairs w' v L ∧ Below W.heap.size W w')) (HLM : Hid (L.length = M))
    (HK : Hid (∀ W, Calls Tryd.prog 15 #[.int .i64 T] W fun e w' => e = .returned (.bool true) ∧ Below W.heap.size W w')) :
    Calls Tryd.prog 6 #[.string (mk n), .string (mk o), .int .i64 k, .int .i64 cut] w fun e w' => e = .returned (.bool true) ∧ Below w.heap.size w w' := by
  have HAW := Go.Lib.hid awake_any
  have HB := Go.Lib.hid (Below.refl w.heap.size w)
  have hnm : (mk n).size = n.length := size_mk n
  have hom : (mk o).size = o.length := size_mk o
  have e1 : ¬ (100 : Int) < (n.length : Int) := by omega
  have e2 : ¬ (100 : Int) < (o.length : Int) := by omega
  have s1 : (⟨#[49, 50]⟩ : ByteArray) ++ mk n = mk ([49, 50] ++ n) := mk_app [49, 50] n
  have s2 : (⟨#[49, 50, 51, 52, 53, 54]⟩ : ByteArray) ++ mk n = mk ([49, 50, 51, 52, 53, 54] ++ n) := mk_app [49, 50, 51, 52, 53, 54] n
  have s3 : mk n ++ mk o = mk (n ++ o) := mk_app _ _
  have s4 : mk (n ++ o) ++ ⟨#[49, 50, 51, 52, 53, 54, 55, 56, 57, 48, 49, 50, 51, 52, 53, 54, 55, 56, 57, 48]⟩ = mk (n ++ (o ++ z20)) := by
    have := mk_app (n ++ o) z20
    rw [List.append_assoc] at this
    exact this
  have y3 : (mk (n ++ o)).size = n.length + o.length := by rw [size_mk, List.length_append]
  have p1 : ¬ 9223372036854775807 < 2 + n.length := by omega
  have p2 : ¬ 9223372036854775807 < 6 + n.length := by omega
  have p3 : ¬ 9223372036854775807 < n.length + o.length := by omega
  have p4 : ¬ 9223372036854775807 < n.length + o.length + 20 := by omega
  go_enter Tryd.func6, Tryd.ntmps6
  go_wp2_with fail
  refine (HV.out _).mono ?_; rintro e wb6 ⟨rfl, hx⟩
  have hb := HB.out.trans (hx.mono HB.out.size)
  clear HB
  have HB := Go.Lib.hid hb
  clear hx hb
  go_wp2_with fail
  refine (HV2.out _).mono ?_; rintro e w2 ⟨rfl, hx⟩
  have hb := HB.out.trans (hx.mono HB.out.size)
  clear HB hx
  have HB2 := Go.Lib.hid hb
  clear hb
  go_wp2_with fail
  obtain ⟨g1, g2, g3, hbX, hsX⟩ := three_lists w2 (tL.map (Value.int .i64)) (encS (dL n o)) (mL.map (Value.int .i64)) 3 9 3
  change Calls _ _ _ (((w2.alloc (.cells (tL.map (Value.int .i64)).toArray 3)).alloc (.cells (encS (dL n o)).toArray 9)).alloc (.cells (mL.map (Value.int .i64)).toArray 3)) _
  have d1 := g1 q _ HT.out
  have d2 := g2 q _ HDL.out
  have d3 := g3 q _ HML.out
  have hbW := HB2.out.trans (hbX.mono HB2.out.size)
  clear g1 g2 g3 hbX HB2 HT HDL HML
  generalize ((w2.alloc (.cells (tL.map (Value.int .i64)).toArray 3)).alloc (.cells (encS (dL n o)).toArray 9)).alloc (.cells (mL.map (Value.int .i64)).toArray 3) = W at *
  have l1 : w2.heap.size < W.heap.size := by omega
  have l2 : w2.heap.size + 1 < W.heap.size := by omega
  have l3 : w2.heap.size + 1 + 1 < W.heap.size := by omega
  generalize w2.heap.size + 1 + 1 = b3 at *
  generalize w2.heap.size + 1 = b2 at *
  generalize w2.heap.size = b1 at *
  have HBW := Go.Lib.hid hbW
  clear hbW
  clear hsX s1 s2 s3 s4 y3 p1 p2 p3 p4
  have hsD : (mk D).size = D.length := size_mk D
  have q0 : (0 : Int) ≤ (q : Int) := by omega
  have q1 : (q : Int) < 8 := by omega
  refine (HR1.out _).mono ?_; rintro e _ ⟨rfl, rfl⟩
  go_wp2_with fail
  refine (HR2.out _).mono ?_; rintro e _ ⟨rfl, rfl⟩
  have a1 : ∀ w3 : Subtype (Below W.heap.size W), w3.1.cell? ⟨b1, q, none⟩ = some (.int .i64 T) := BelowC.cell d1 l1
  have a2 : ∀ w3 : Subtype (Below W.heap.size W), w3.1.cell? ⟨b2, q, none⟩ = some (.string (mk D)) := BelowC.cell d2 l2
  have a3 : ∀ w3 : Subtype (Below W.heap.size W), w3.1.cell? ⟨b3, q, none⟩ = some (.int .i64 (M : Int)) := BelowC.cell d3 l3
  have x1 : mk D ++ ⟨#[120]⟩ = mk (D ++ [120]) := mk_app D [120]
  have x2 : (mk D).extract 0 c = mk (D.take c) := by
    apply bl_inj
    rw [bl_extract, bl_mk, bl_mk, List.drop_zero, Nat.sub_zero]
  have x3 : ¬ 9223372036854775807 < D.length + 1 := by omega
  have x4 : (c : Int) ≤ (D.length : Int) := by omega
  have x5 : (0 : Int) ≤ (c : Int) := by omega
  have x6 : c ≤ D.length := by omega
  have HBC := Go.Lib.hid (show Below W.heap.size W W.drew from (Below.refl W.heap.size W).drew)
  have hne : Nonempty (Subtype (Below W.heap.size W)) := ⟨⟨W, Below.refl _ _⟩⟩
  clear d1 d2 d3 l1 l2 l3 hc
  go_wp2_with fail
  refine Go.Mix.wp_region_mixC (Es := [8, 19, 33, 45, 58, 61]) (Below W.heap.size W) mixed (by kernel_rfl) (Below.refl _ _).drew (fun _ => ?_)
  iterate 8 (refine Go.Mix.mix_step rfl (fun K hK => ?_); have HKK := Go.Lib.hid hK; clear hK; go_simp; refine HKK.out _ _ ?_; clear HKK K)
  refine Go.Mix.mix_eff rfl (fun K hK => ?_)
  have HKK := Go.Lib.hid hK
  clear hK
  go_simp
  refine (HD1.out _).mono ?_; rintro e wb7 ⟨rfl, hx⟩
  have hb := HBC.out.trans (hx.mono HBC.out.size)
  clear HBC
  have HBC := Go.Lib.hid hb
  clear hx hb
  go_simp
  refine HKK.out _ _ HBC.out ?_
  clear HKK K
  iterate 10 (refine Go.Mix.mix_step rfl (fun K hK => ?_); have HKK := Go.Lib.hid hK; clear hK; go_simp; refine HKK.out _ _ ?_; clear HKK K)
  refine Go.Mix.mix_eff rfl (fun K hK => ?_)
  have HKK := Go.Lib.hid hK
  clear hK
  go_simp
  refine (HD2.out _).mono ?_; rintro e wb8 ⟨rfl, hx⟩
  have hb := HBC.out.trans (hx.mono HBC.out.size)
  clear HBC
  have HBC := Go.Lib.hid hb
  clear hx hb
  go_simp
  refine HKK.out _ _ HBC.out ?_
  clear HKK K
  iterate 13 (refine Go.Mix.mix_step rfl (fun K hK => ?_); have HKK := Go.Lib.hid hK; clear hK; go_simp; refine HKK.out _ _ ?_; clear HKK K)
  refine Go.Mix.mix_eff rfl (fun K hK => ?_)
  have HKK := Go.Lib.hid hK
  clear hK
  go_simp
  refine (HD3.out _).mono ?_; rintro e wb9 ⟨rfl, hx⟩
  have hb := HBC.out.trans (hx.mono HBC.out.size)
  clear HBC
  have HBC := Go.Lib.hid hb
  clear hx hb
  go_simp
  refine HKK.out _ _ HBC.out ?_
  clear HKK K
  iterate 11 (refine Go.Mix.mix_step rfl (fun K hK => ?_); have HKK := Go.Lib.hid hK; clear hK; go_simp; refine HKK.out _ _ ?_; clear HKK K)
  refine Go.Mix.mix_eff rfl (fun K hK => ?_)
  have HKK := Go.Lib.hid hK
  clear hK
  go_simp
  refine (HP.out _).mono ?_; rintro e wp ⟨v, rfl, hpr, hx⟩
  obtain ⟨pa, pc, hv, hv1, hv2⟩ := hpr.slice
  rw [HLM.out] at hv
  subst hv
  have hb := HBC.out.trans (hx.mono HBC.out.size)
  clear HBC hpr hv1 hv2
  have HBC := Go.Lib.hid hb
  clear hx hb
  go_simp
  refine HKK.out _ _ HBC.out ?_
  clear HKK K
  iterate 12 (refine Go.Mix.mix_step rfl (fun K hK => ?_); have HKK := Go.Lib.hid hK; clear hK; go_simp; refine HKK.out _ _ ?_; clear HKK K)
  refine Go.Mix.mix_eff rfl (fun K hK => ?_)
  have HKK := Go.Lib.hid hK
  clear hK
  go_simp
  refine (HK.out _).mono ?_; rintro e wb10 ⟨rfl, hx⟩
  have hb := HBC.out.trans (hx.mono HBC.out.size)
  clear HBC
  have HBC := Go.Lib.hid hb
  clear hx hb
  go_simp
  refine HKK.out _ _ HBC.out ?_
  clear HKK K
  iterate 2 (refine Go.Mix.mix_step rfl (fun K hK => ?_); have HKK := Go.Lib.hid hK; clear hK; go_simp; refine HKK.out _ _ ?_; clear HKK K)
  refine Go.Mix.mix_eff rfl (fun K hK => ?_)
  have HKK := Go.Lib.hid hK
  clear hK
  go_simp
  refine (HAW.out _).mono ?_; rintro e wb11 ⟨rfl, hx⟩
  have hb := HBC.out.trans (hx.mono HBC.out.size)
  clear HBC
  have HBC := Go.Lib.hid hb
  clear hx hb
  go_simp
  refine HKK.out _ _ HBC.out ?_
  clear HKK K
  iterate 2 (refine Go.Mix.mix_step rfl (fun K hK => ?_); have HKK := Go.Lib.hid hK; clear hK; go_simp; refine HKK.out _ _ ?_; clear HKK K)
  refine Go.Mix.mix_nil ?_
  go_wp2_with fail
  go_ret
  exact ⟨rfl, HBW.out.trans (HBC.out.mono HBW.out.size)⟩

theorem walk (s0 s1 : ByteArray) (k cut : Int) (w : World) (h0 : s0.size ≤ maxLen) (h1 : s1.size ≤ maxLen) (_ : Fits k) (_ : Fits cut) :
    Calls Tryd.prog 6 #[.string s0, .string s1, .int .i64 k, .int .i64 cut] w fun e w' => e = .returned (.bool true) ∧ Below w.heap.size w w' := by
  obtain ⟨n, rfl⟩ : ∃ n, s0 = mk n := ⟨bl s0, (mk_bl s0).symm⟩
  obtain ⟨o, rfl⟩ : ∃ n, s1 = mk n := ⟨bl s1, (mk_bl s1).symm⟩
  rw [size_mk] at h0 h1
  by_cases hl : 100 < n.length ∨ (n.length ≤ 100 ∧ 100 < o.length)
  · exact t1 n o k cut w h0 h1 hl
  have l0 : n.length ≤ 100 := by omega
  have l1 : o.length ≤ 100 := by omega
  have hv := fun (n : List UInt8) (b : Bool) (h : Nm.valid n = b) => Go.Lib.hid fun (W : World) => (by have k := refValid_any (mk n) W; rw [bl_mk, h] at k; exact k : Calls Tryd.prog 35 #[.string (mk n)] W fun e w' => e = .returned (.bool b) ∧ Below W.heap.size W w')
  cases hvn : Nm.valid n with
  | false => exact t2 n o k cut w l0 l1 (hv _ _ hvn)
  | true =>
    cases hvo : Nm.valid o with
    | false => exact t3 n o k cut w l0 l1 (hv _ _ hvn) (hv _ _ hvo)
    | true =>
      have main : ∀ (q M : Nat) (T : Int) (D : List UInt8), k % 8 = (q : Int) → q < 8 → Form T D M → (tL.map (Value.int .i64))[q]? = some (.int .i64 T) → (encS (dL n o))[q]? = some (.string (mk D)) → (mL.map (Value.int .i64))[q]? = some (.int .i64 (M : Int)) →
          Calls Tryd.prog 6 #[.string (mk n), .string (mk o), .int .i64 k, .int .i64 cut] w fun e w' => e = .returned (.bool true) ∧ Below w.heap.size w w' := by
        intro q M T D hk hq ⟨f1, f2, f3, f4, f5, f6, f7⟩ hT hD hM
        have hc0 : 0 ≤ cut % (D.length : Int) := Int.emod_nonneg _ (by omega)
        have hc1 : cut % (D.length : Int) < (D.length : Int) := Int.emod_lt_of_pos _ (by omega)
        obtain ⟨c, hc⟩ : ∃ c : Nat, cut % (D.length : Int) = (c : Int) := ⟨(cut % (D.length : Int)).toNat, by omega⟩
        have hcl : c < D.length := by omega
        have hdata := fun (d : List UInt8) (b : Bool) (hl : d.length ≤ 1000) (h : Rc.dataB T d = b) => Go.Lib.hid fun (W : World) => (by have k := Data_any T (mk d) W (by rw [size_mk]; unfold maxLen; omega); rw [bl_mk, h] at k; exact k : Calls Tryd.prog 12 #[.int .i64 T, .string (mk d)] W fun e w' => e = .returned (.bool b) ∧ Below W.heap.size W w')
        have hp := Go.Lib.hid fun (W : World) => (by have k := parts_any T (mk D) W (by rw [size_mk]; unfold maxLen; omega); rw [bl_mk] at k; exact k : Calls Tryd.prog 11 #[.int .i64 T, .string (mk D)] W fun e w' => ∃ v, e = .returned v ∧ Pairs w' v ((Rc.partsN T D).getD []) ∧ Below W.heap.size W w')
        have hkn := Go.Lib.hid fun (W : World) => (by have k := Known_any T W; rw [f5] at k; exact k : Calls Tryd.prog 15 #[.int .i64 T] W fun e w' => e = .returned (.bool true) ∧ Below W.heap.size W w')
        have hr1 := Go.Lib.hid fun (W : World) => (by have h := Round_any k 8 W (by decide) (by decide); rw [hk] at h; exact h : Calls Tryd.prog 36 #[.int .i64 k, .int .i64 8] W fun e w' => e = .returned (.int .i64 (q : Int)) ∧ W = w')
        have hr2 := Go.Lib.hid fun (W : World) => (by have h := Round_any cut (D.length : Int) W (by omega) (by omega); rw [hc] at h; exact h : Calls Tryd.prog 36 #[.int .i64 cut, .int .i64 (D.length : Int)] W fun e w' => e = .returned (.int .i64 (c : Int)) ∧ W = w')
        exact kk n o D k cut T q M c _ w l0 l1 hq hcl f7 (hv _ _ hvn) (hv _ _ hvo) hr1 hr2 (Go.Lib.hid hT) (Go.Lib.hid hD) (Go.Lib.hid hM) (hdata _ _ (by omega) f1) (hdata _ _ (by simp; omega) f2) (hdata _ _ (by rw [List.length_take]; omega) (f3 c hcl)) hp (Go.Lib.hid f4) hkn
      have hcase : k % 8 = 0 ∨ k % 8 = 1 ∨ k % 8 = 2 ∨ k % 8 = 3 ∨ k % 8 = 4 ∨ k % 8 = 5 ∨ k % 8 = 6 ∨ k % 8 = 7 := by omega
      rcases hcase with h | h | h | h | h | h | h | h
      · exact main 0 0 1 _ h (by decide) (form_fix (.inl ⟨rfl, rfl⟩) rfl) rfl rfl rfl
      · exact main 1 0 28 _ h (by decide) (form_fix (.inr ⟨rfl, rfl⟩) rfl) rfl rfl rfl
      · exact main 2 1 2 _ h (by decide) (form_one (k := 0) (a := []) rfl rfl rfl (by decide) hvn l0) rfl rfl rfl
      · exact main 3 1 5 _ h (by decide) (form_one (k := 0) (a := []) rfl rfl rfl (by decide) hvn l0) rfl rfl rfl
      · exact main 4 1 12 _ h (by decide) (form_one (k := 0) (a := []) rfl rfl rfl (by decide) hvn l0) rfl rfl rfl
      · exact main 5 1 15 _ h (by decide) (form_one (k := 2) rfl rfl rfl (by decide) hvn l0) rfl rfl rfl
      · exact main 6 1 33 _ h (by decide) (form_one (k := 6) rfl rfl rfl (by decide) hvn l0) rfl rfl rfl
      · exact main 7 2 6 _ h (by decide) (form_soa hvn hvo l0 l1 rfl) rfl rfl rfl

set_option maxRecDepth 100000 in
theorem lifted (os : Os) (started : os.Started) (H : Type) (enc : TypeId × Value → H) :
    ReturnsInHanded {} Tryd.checked os 6 .any (fun w args => (Rows.recordFormsSpec.pre enc Tryd.prog Tryd.f6 [] false w args ∧ laidMetH Tryd.prog laidL w) ∧ sizedMet enc Tryd.prog Tryd.f6 (OpenSpec.ofChange Rows.recordFormsSpec) false w args) (Rows.recordFormsSpec.post enc Tryd.prog Tryd.f6 false true false false) := by
  refine returnsInHanded_of_change_and (C := Tryd.checked) (X := fun w _ => laidMetH Tryd.prog laidL w) (fun _ _ _ hh h => h.of_heap hh) own started (by kernel_rfl) Tryd.func6
    (ChangeSpec.witness_shaped (enc := enc) (C := Tryd.checked) (os := os) (X := fun w _ => laidMetH Tryd.prog laidL w) false (World.doorLaid Tryd.prog 400 os) #[.string ⟨#[]⟩, .string ⟨#[]⟩, .int .i64 0, .int .i64 0] 8 rfl (World.shaped_of_RefB (by kernel_rfl) (by kernel_rfl)) (by kernel_rfl) (by kernel_rfl) (by kernel_rfl) (door_met os _)) ?_
  intro W base args ds gs before hval0 hW _ _ hL _
  have hval : ∀ (j : Nat) t v, Tryd.f6.params[j]? = some t → args[j]? = some v → Value.okWide Tryd.prog W .any base t v := hval0
  refine law_post enc 4 (by kernel_rfl) rfl rfl (by kernel_rfl) (fun ds h => match ds, h with | [_, _, _, _], _ => rfl) hW ?_
  obtain ⟨p, q, hA0, hV, rfl, _, _⟩ := hW
  have hA : DataW.TrodAll enc Tryd.prog W 0 (fun _ => true) true Tryd.f6.params.toList args.toList ds p := hA0
  rw [Tryd.params6] at hA hval
  obtain ⟨v0, vs0, d0, ds0, p0, q0, hargs, rfl, rfl, h0, r0⟩ := trodAll_cons hA
  obtain ⟨v1, vs1, d1, ds1, p1, q1, rfl, rfl, rfl, h1, r1⟩ := trodAll_cons r0
  obtain ⟨v2, vs2, d2, ds2, p2, q2, rfl, rfl, rfl, h2, r2⟩ := trodAll_cons r1
  obtain ⟨v3, vs3, d3, ds3, p3, q3, rfl, rfl, rfl, h3, r3⟩ := trodAll_cons r2
  obtain ⟨rfl, rfl, rfl⟩ := trodAll_nil r3
  obtain rfl : args = #[v0, v1, v2, v3] := by cases args; simp_all
  obtain ⟨s0, rfl, rfl, rfl, w0⟩ := open_string Tryd.underlying9 (hval 0 9 v0 rfl rfl) h0
  obtain ⟨s1, rfl, rfl, rfl, w1⟩ := open_string Tryd.underlying9 (hval 1 9 v1 rfl rfl) h1
  obtain ⟨a2, rfl, rfl, rfl, w2⟩ := open_int Tryd.underlying3 (hval 2 3 v2 rfl rfl) h2
  obtain ⟨a3, rfl, rfl, rfl, w3⟩ := open_int Tryd.underlying3 (hval 3 3 v3 rfl rfl) h3
  exact walk s0 s1 a2 a3 W w0 w1 (fits_of_wf w2) (fits_of_wf w3)

theorem over : Rows.recordFormsRow.holds Tryd.pinned (OpenSpec.ofChange Rows.recordFormsSpec) :=
  OpenClaim.holds_of_wide 6 Tryd.f6 rfl rfl rfl rfl rfl rfl rfl ⟨rfl, rfl, rfl, rfl, rfl⟩ rfl rfl rfl rfl rfl (by kernel_rfl) Tryd.func6 (by kernel_rfl)
    (of_decide_eq_true (by kernel_rfl)) (by unfold Func.isWrapper; first | (rw [if_pos (by decide +kernel)]; kernel_rfl) | (rw [if_neg (by decide +kernel)]; exact ⟨rfl, rfl⟩))
    (fun os started H enc _ => lifted os started H enc)

/-- the statement: the row, its listed variables tied to the text -/
theorem proved : Rows.RecordFormsCardSaid :=
  Claim7.holds_tied_plain_at .later [] [.data, .data, .data] true _ false
    over (fun _ h => by cases h) (by kernel_rfl) (fun _ h => by cases h) recordForms_row_tie rfl ⟨rfl, rfl⟩ (by kernel_rfl) rfl
    (fun f fn hf hfn => by
      obtain rfl : f = 6 := Option.some.inj ((show Tryd.prog.funcNamed "freshet/freshetlaw3.RecordForms" = some 6 by kernel_rfl).symm.trans hf) |>.symm
      obtain rfl : fn = Tryd.f6 := (Option.some.inj (Tryd.func6.symm.trans hfn)).symm
      exact ⟨by kernel_rfl, fun j t ht => by
        rw [Tryd.params6] at ht
        have hm : t ∈ [9, 9, 3, 3] := by simpa using Array.mem_of_getElem? ht
        have hall : ([9, 9, 3, 3].all fun u => !Tryd.prog.wantsStandIn u) = true := by kernel_rfl
        exact (show Tryd.prog.wantsStandIn t = false by simpa using List.all_eq_true.1 hall t hm)⟩)
    (by kernel_rfl)
#print axioms proved
end Go.Proofs.YthfpijacemkbbaaDoor.recordForms

