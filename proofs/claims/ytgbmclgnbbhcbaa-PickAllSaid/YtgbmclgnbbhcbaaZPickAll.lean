/- PickAll: asked one after another, each address is asked once, and in the end nobody is left; whose addresses are not known is told, one after another. For every input; no conditions. -/
import Derived.Test.YtgbmclgnbbhcbaaG5
import Derived.Test.YtgbmclgnbbhcbaaG7
import Derived.BigQuiet
import Derived.Deep.QuietTactic
import Derived.Deep.OwnRows
import Derived.WalkSpells
namespace Go.Proofs.Ytgbmclgnbbhcbaa.pickAll
open Go.ChangeShapes Go.WideShapes Go.ChangeAt Go.RowKit
open Go.ChangeMaps (open_string shut_string)
set_option linter.unusedVariables false
set_option linter.unusedSimpArgs false
set_option maxRecDepth 100000

def cN (l : List (List UInt8)) : List Value := l.map fun l => .string (mk l)
theorem setL_ok {L : List (List UInt8)} (h : ∀ d ∈ L, d.length ≤ 1000) : ∀ r ∈ setL L, RROk r := fun r hr => by
  obtain ⟨d, h1, rfl⟩ := List.mem_map.1 hr
  have := h d h1
  exact ⟨by show (1 : Nat) ≤ maxLen; decide, by show d.length ≤ maxLen; unfold maxLen; omega⟩
theorem t1 (da : Option Addr) (N dc : Nat) (n : Int) (w : World) (hbad : 20 < (N : Int) ∨ (¬ 20 < (N : Int) ∧ n < 1) ∨ (¬ 20 < (N : Int) ∧ ¬ n < 1 ∧ 12 < n)) (HAW : Hid (∀ W, Calls Try.prog 7 #[] W fun e w' => e = .returned (.bool true) ∧ Below W.heap.size W w')) :
    Calls Try.prog 4 #[.slice da N dc, .int .i64 n] w fun e w' => e = .returned (.bool true) ∧ Below w.heap.size w w' := by
  have hbX : Below w.heap.size w ((w.alloc (.cells #[.slice da N dc] 30)).alloc (.cells #[.int .i64 n] 3)) := ((Below.refl _ _).alloc (Nat.le_refl _) _).alloc (by simp) _
  have HB := Go.Lib.hid hbX
  clear hbX
  rcases hbad with h1 | ⟨h1, h2⟩ | ⟨h1, h2, h3⟩
  all_goals
    go_enter Try.func4, Try.ntmps4
    go_wp2_with fail
    refine (HAW.out _).mono ?_; rintro e wb1 ⟨rfl, hx⟩
    have hb := HB.out.trans (hx.mono HB.out.size)
    clear HB
    have HB := Go.Lib.hid hb
    clear hx hb
    go_wp2_with fail
    go_ret
    exact ⟨rfl, HB.out⟩
theorem namesP_succ (k : Nat) : namesP (k + 1) = namesP k ++ [nmM k] := by unfold namesP; rw [List.range_succ, List.map_append]; rfl
theorem cN_app (l m : List (List UInt8)) : cN (l ++ m) = cN l ++ cN m := List.map_append
theorem one_cN (l : List (List UInt8)) : ∀ u ∈ cN l, u.oneCell' = true := by
  intro u hu
  obtain ⟨x, _, rfl⟩ := List.mem_map.1 hu
  rfl
/-- the first loop's world: the boxes, the names' list -/
structure P1 (w : World) (b1 b2 b3 : Nat) (a1 : Option Addr) (c1 : Nat) (D : List Int) (n k : Nat) (a3 : Option Addr) (c3 : Nat) (W : World) : Prop where
  x1 : W.heap[b1]? = some (.cells #[.slice a1 D.length c1] 30 (0, 0))
  x2 : W.heap[b2]? = some (.cells #[.int .i64 n] 3 (0, 0))
  x3 : W.heap[b3]? = some (.cells #[.slice a3 k c3] 31 (0, 0))
  i1 : Ints W (.slice a1 D.length c1) D
  o3 : W.ownsRow (b3 + 1) 9 1 (.slice a3 k c3) k (cN (namesP k))
  be : Below w.heap.size w W
  l1 : w.heap.size ≤ b1
  l2 : b1 < b2
  l3 : b2 < b3
theorem p1_step {w W W' : World} {b1 b2 b3 : Nat} {a1 : Option Addr} {c1 : Nat} {D : List Int} {n k : Nat} {a3 : Option Addr} {c3 : Nat} {v' : Value} {s : List UInt8} (h : P1 w b1 b2 b3 a1 c1 D n k a3 c3 W) (hi : ∀ B, Below B w W → w.heap.size ≤ B → True) (hw : Ints w (.slice a1 D.length c1) D) (hs : s = nmM k)
    (hX : World) (hbX : Below W.heap.size W hX) (ho : W'.ownsRow (b3 + 1) 9 1 v' (k + 1) (cN (namesP k) ++ [.string (mk s)])) (hg : hX.grownBy W' (Value.slice a3 k c3).ownBlock) :
    W'.cell? ⟨b3, 0, none⟩ = some (.slice a3 k c3) ∧ W'.frozen? ⟨b3, 0, none⟩ = false ∧ ∃ a c, v' = .slice a (k + 1) c ∧ P1 w b1 b2 b3 a1 c1 D n (k + 1) a c (W'.setCell ⟨b3, 0, none⟩ v') := by
  subst hs
  have hb3 : b3 < W.heap.size := (Array.getElem?_eq_some_iff.1 h.x3).1
  have hbB : Below (b3 + 1) W W' := below_app (hbX.mono (by omega)) (owns_below h.o3 hbX) hg (Nat.le_refl _) (by have := hbX.size; omega)
  have y1 := (hbB.block b1 (by have := h.l2; have := h.l3; omega)).trans h.x1
  have y2 := (hbB.block b2 (by have := h.l3; omega)).trans h.x2
  have y3 := (hbB.block b3 (by omega)).trans h.x3
  obtain ⟨a, c, rfl, _, _⟩ := (SlC.of_owns ho).slice
  have e := setCell_eq_setRow W' b3 0 _ _ (0, 0) (.slice a (k + 1) c) y3
  have l1 := h.l1
  have l2 := h.l2
  have l3 := h.l3
  have hbe : Below w.heap.size w W' := h.be.trans (hbB.mono (by omega))
  have hbz : Below w.heap.size w (W'.setCell ⟨b3, 0, none⟩ (.slice a (k + 1) c)) := hbe.setCell (p := ⟨b3, 0, none⟩) (by show _ ≤ b3; omega) _
  refine ⟨by simp [World.cell?, y3], by simp [World.frozen?, y3], a, c, rfl, ?_, ?_, ?_, SlC.below hw hbz (Nat.le_refl _), ?_, hbz, l1, l2, l3⟩
  · rw [e, setRow_other _ _ _ _ (by omega)]; exact y1
  · rw [e, setRow_other _ _ _ _ (by omega)]; exact y2
  · rw [e]; exact setRow_heap W' b3 _ _ _ _ y3
  · rw [e, namesP_succ, cN_app]
    exact ho.kept (row := some b3) ⟨rfl, rfl, rfl, by rw [setRow_size]; exact Nat.le_refl _, fun k hk hn => setRow_other _ _ _ _ (fun e => hn (by rw [e]))⟩ (.inr fun e => by have := (ho.lt b3 e).1; omega)
theorem P1.done {w W : World} {b1 b2 b3 : Nat} {a1 : Option Addr} {c1 : Nat} {D : List Int} {n : Nat} {a3 : Option Addr} {c3 : Nat} (h : P1 w b1 b2 b3 a1 c1 D n n a3 c3 W) : BP b1 b2 b3 a1 c1 D n a3 c3 W :=
  ⟨h.x1, h.x2, h.x3, h.i1, by unfold Strs; rw [namesP_len]; exact SlC.of_owns h.o3⟩
set_option maxHeartbeats 16000000 in
theorem t2 (da : Option Addr) (D : List Int) (dc : Nat) (n : Nat) (w : World) (hd : Ints w (.slice da D.length dc) D) (hD : D.length ≤ 20) (hn0 : 1 ≤ n) (hn : n ≤ 12) (HAW : Hid (∀ W, Calls Try.prog 7 #[] W fun e w' => e = .returned (.bool true) ∧ Below W.heap.size W w')) :
    Calls Try.prog 4 #[.slice da D.length dc, .int .i64 n] w fun e w' => e = .returned (.bool true) ∧ Below w.heap.size w w' := by
  have mixed : Try.prog.follows .mixedOrders = true := by kernel_rfl
  obtain ⟨X, hX⟩ : ∃ X, ((w.alloc (.cells #[.slice da D.length dc] 30)).alloc (.cells #[.int .i64 n] 3)).alloc (.cells #[.slice none 0 0] 31) = X := ⟨_, rfl⟩
  obtain ⟨b1, hb1⟩ : ∃ b, w.heap.size = b := ⟨_, rfl⟩
  have hbA := (Below.refl w.heap.size w).alloc (Nat.le_refl _) (.cells #[.slice da D.length dc] 30)
  have hbB := hbA.alloc hbA.size (.cells #[.int .i64 n] 3)
  have hbC := hbB.alloc hbB.size (.cells #[.slice none 0 0] 31)
  have hp0 : P1 w b1 (b1 + 1) (b1 + 2) da dc D n 0 none 0 X := by
    have z1 : (w.alloc (.cells #[.slice da D.length dc] 30)).heap.size = w.heap.size + 1 := World.size_alloc _ _
    have z2 : ((w.alloc (.cells #[.slice da D.length dc] 30)).alloc (.cells #[.int .i64 n] 3)).heap.size = w.heap.size + 2 := by rw [World.size_alloc, z1]
    have g1 := World.alloc_heap_new w (.cells #[.slice da D.length dc] 30)
    have g2 := World.alloc_heap_new (w.alloc (.cells #[.slice da D.length dc] 30)) (.cells #[.int .i64 n] 3)
    have g3 := World.alloc_heap_new ((w.alloc (.cells #[.slice da D.length dc] 30)).alloc (.cells #[.int .i64 n] 3)) (.cells #[.slice none 0 0] 31)
    rw [z1] at g2
    rw [z2] at g3
    subst hX hb1
    refine ⟨?_, ?_, g3, SlC.below hd hbC (Nat.le_refl _), World.ownsRow_nil _ _ _ _, hbC, Nat.le_refl _, by omega, by omega⟩
    · rw [Below.heap_alloc _ _ _ (by rw [z2]; omega), Below.heap_alloc _ _ _ (by rw [z1]; omega)]; exact g1
    · rw [Below.heap_alloc _ _ _ (by rw [z2]; omega)]; exact g2
  clear hbA hbB hbC
  have g1 : ¬ 20 < (D.length : Int) := by omega
  have g2 : ¬ (n : Int) < 1 := by omega
  have g3 : ¬ 12 < (n : Int) := by omega
  obtain ⟨b2, hb2⟩ : ∃ b, b = b1 + 1 := ⟨_, rfl⟩
  obtain ⟨b3, hb3⟩ : ∃ b, b = b1 + 1 + 1 := ⟨_, rfl⟩
  rw [show b1 + 2 = b1 + 1 + 1 from rfl, ← hb3, ← hb2] at hp0
  have HP0 := Go.Lib.hid hp0
  have HD := Go.Lib.hid hd
  clear hp0 hd
  go_enter Try.func4, Try.ntmps4
  go_wp2_with fail
  rw [← hb3, ← hb2]
  clear hX hb1 hb2 hb3 g1 g2 g3
  go_loopw [7] (fun i wr => ∃ k a c, i = .int .i64 (k : Nat) ∧ k ≤ n ∧ P1 w b1 b2 b3 da dc D n k a c wr) (fun i _ => n - (RowKit.intOf i).toNat)
  case atStart => exact ⟨0, _, _, rfl, Nat.zero_le _, HP0.out⟩
  case round =>
    clear HP0
    obtain ⟨k, a3, c3, rfl, hk, hs⟩ := hrel
    have e2 := box_cell hs.x2
    have e3 := box_cell hs.x3
    by_cases hlt : k < n
    · have hlt2 : (k : Int) < (n : Int) := by omega
      have hl8 := let_u8 (k := k) (by omega)
      have hw8 := let_wrap (k := k) (by omega)
      have hnm : [1, UInt8.ofNat (97 + k), 0] = nmM k := rfl
      generalize UInt8.ofNat (97 + k) = c at *
      have hcc := c.toNat_lt
      have hw1 : IntKind.i64.wrap (97 + (k : Int)) = (c.toNat : Int) := by rw [wrapi (by omega) (by omega)]; exact hl8
      have hconv := run_conv_new wr 1 [.int .u8 c.toNat] [c] rfl rfl (by decide)
      have hcat1 : (⟨#[1]⟩ : ByteArray) ++ mk [c] = mk [1, c] := cat_mk [1] [c]
      have hcat2 : mk [1, c] ++ (⟨#[0]⟩ : ByteArray) = mk [1, c, 0] := cat_mk [1, c] [0]
      have hs1 : (mk [c]).size = 1 := rfl
      have hs2 : (mk [1, c]).size = 2 := rfl
      have hbA := (Below.refl wr.heap.size wr).alloc (Nat.le_refl _) (.cells #[.int .u8 c.toNat] 5)
      have hbC := hbA.alloc hbA.size (.cells #[.string ⟨#[1, c, 0]⟩] 9)
      have hoA := owns_below hs.o3 hbC
      have hzA : wr.heap.size < ((wr.alloc (.cells #[.int .u8 c.toNat] 5)).alloc (.cells #[.string ⟨#[1, c, 0]⟩] 9)).heap.size := by simp; omega
      have hzB := (Array.getElem?_eq_some_iff.1 hs.x3).1
      have hnew := new_cells (wr.alloc (.cells #[.int .u8 c.toNat] 5)) [.string (mk [1, c, 0])] 9
      rw [World.size_alloc] at hnew
      have hstep := fun W' v' h1 h2 => p1_step (W' := W') (v' := v') hs (fun _ _ _ => trivial) HD.out hnm _ hbC h1 h2
      have HS := Go.Lib.hid hs
      have HNM := Go.Lib.hid hnm
      have HL8 := Go.Lib.hid hl8
      have HOA := Go.Lib.hid hoA
      have HSTEP := Go.Lib.hid hstep
      have HBC := Go.Lib.hid hbC
      have HNEW := Go.Lib.hid hnew
      clear hs hnm hl8 hoA hstep hbC hnew
      clear hbA
      go_wp2_with (at_builtin; refine wpList_app1 eiS (.tmp 42) (.tmp 50) rfl rfl (b3 + 1) rfl rfl HOA.out (news := [.string (mk [1, c, 0])]) rfl HNEW.out (fun u hu => by rw [List.mem_singleton] at hu; subst hu; rfl) (by unfold maxLen; omega) (by omega) (Nat.le_trans hzB HBC.out.size) ?_; intro v5 W5 hown5 hg5 hsn5; obtain ⟨q1, q2, a5, c5, rfl, hs5⟩ := HSTEP.out _ _ hown5 hg5; have HS5 := Go.Lib.hid hs5; clear hown5 hg5 hsn5 hs5)
      go_roundw
      case rel => exact ⟨k + 1, _, _, by go_num, by omega, HS5.out⟩
      case measure => simp [RowKit.intOf]; omega
    · obtain rfl : n = k := by omega
      generalize wr = W1 at *
      have hB := hs.done
      have hbe := hs.be
      have HBP := Go.Lib.hid hB
      have HBE := Go.Lib.hid hbe
      clear hB hbe
      clear hs
      go_wp2_with fail
      go_loopw [6, 9] (fun v i wr => ∃ k : Nat, i = .int .i64 k ∧ k ≤ D.length ∧ wr.ownsRow W1.heap.size 3 1 v (unlP D n k).length ((unlP D n k).map (Value.int .i64)) ∧ Below W1.heap.size W1 wr) (fun _ i _ => D.length - (RowKit.intOf i).toNat)
      case atStart => exact ⟨0, rfl, Nat.zero_le _, World.ownsRow_nil _ _ _ _, Below.refl _ _⟩
      case round =>
        obtain ⟨k, rfl, hk, hown, hb⟩ := hrel
        generalize wr = w2 at *
        have hBr := HBP.out.below hb
        have e1 := box_cell hBr.x1
        have e2 := box_cell hBr.x2
        by_cases hlt : k < D.length
        · have hlt2 : (k : Int) < (D.length : Int) := by omega
          obtain ⟨g1, o1, rfl, hg1, hcell1⟩ := Ints.at hBr.i1 (by omega)
          have f1 := hcell1 k hlt
          have hrem := rem_nat k n
          have hst : unlP D n (k + 1) = if k % n + 1 = n ∨ rP D k ∈ unlP D n k then unlP D n k else unlP D n k ++ [rP D k] := rfl
          have hr := fun W => Round_any (D.getD k 0) 9 W (by omega) (by omega)
          have hrp : D.getD k 0 % 9 = rP D k := rfl
          rw [hrp] at hr
          have hLl := unlP_len D n k
          have hqn : k % n < n := Nat.mod_lt _ (by omega)
          generalize k % n = q at *
          generalize D.getD k 0 = dk at *
          generalize rP D k = r at *
          generalize unlP D n k = L at *
          obtain ⟨m0, hm0⟩ : ∃ m0, m0 = decide (q + 1 = n) := ⟨_, rfl⟩
          have hq1 : ((q : Int) == (n : Int) - 1) = m0 := by rw [hm0, Bool.eq_iff_iff, beq_iff_eq, decide_eq_true_iff]; omega
          have hw1 : IntKind.i64.wrap (q : Int) = q := wrapi (by omega) (by omega)
          have hw2 : IntKind.i64.wrap ((n : Int) - 1) = (n : Int) - 1 := wrapi (by omega) (by omega)
          have hne : ¬ (n : Int) = 0 := by omega
          obtain ⟨a6, c6, rfl, _, _⟩ := (SlC.of_owns hown).slice
          obtain ⟨Z, hZ⟩ : ∃ Z, L.length = Z := ⟨_, rfl⟩
          rw [hZ] at hown hLl
          try rw [hZ]
          have HST := Go.Lib.hid hst
          have HR := Go.Lib.hid hr
          have HRP := Go.Lib.hid hrp
          have HOWN := Go.Lib.hid hown
          have HBQ := Go.Lib.hid hb
          have HBR := Go.Lib.hid hBr
          have HM0 := Go.Lib.hid hm0
          have HZ := Go.Lib.hid hZ
          clear hst hr hrp hown hb hBr hm0 hZ
          clear hcell1
          go_wp2_with fail
          go_quiet (fail)
          go_wp2_with fail
          obtain ⟨Y, hY⟩ : ∃ Y, Y = w2.drewN nq := ⟨_, rfl⟩
          have hb2Y : Below w2.heap.size w2 Y := by rw [hY]; exact below_drewN (Below.refl _ _) _
          rw [← hY]
          clear hY
          have hownY := owns_below HOWN.out hb2Y
          have hbY := HBQ.out.trans (hb2Y.mono HBQ.out.size)
          have e1Y : Y.cell? ⟨b1, 0, none⟩ = some (.slice (some ⟨g1, o1, none⟩) D.length dc) := (hb2Y.cell (p := ⟨b1, 0, none⟩) (Array.getElem?_eq_some_iff.1 HBR.out.x1).1).trans e1
          have f1Y : Y.cell? ⟨g1, o1 + k, none⟩ = some (.int .i64 dk) := (hb2Y.cell (p := ⟨g1, o1 + k, none⟩) hg1).trans f1
          have l1 : b1 < Y.heap.size := Nat.lt_of_lt_of_le (Array.getElem?_eq_some_iff.1 HBR.out.x1).1 hb2Y.size
          have l2 : g1 < Y.heap.size := Nat.lt_of_lt_of_le hg1 hb2Y.size
          have hany : ∀ i, i < L.length → (m0 || (L.take (i + 1)).any (· == r)) = ((m0 || (L.take i).any (· == r)) || (L.getD i 0 == r)) := fun i hi => by
            rw [List.take_succ_eq_append_getElem hi, List.any_append, List.getD_eq_getElem?_getD, List.getElem?_eq_getElem hi]
            simp [Bool.or_assoc]
          have hslY := SlC.of_owns hownY
          have HOY := Go.Lib.hid hownY
          have HBY := Go.Lib.hid hbY
          have HANY := Go.Lib.hid hany
          have HSLY := Go.Lib.hid hslY
          clear hownY hbY hany hslY
          clear hb2Y e1 e2 f1 HOWN HBQ hw1 hw2 hrem
          go_loopw [10, 11] (fun m j wq => ∃ i : Nat, j = .int .i64 i ∧ i ≤ Z ∧ m = .bool (m0 || (L.take i).any (· == r)) ∧ Below Y.heap.size Y wq) (fun _ j _ => Z - (RowKit.intOf j).toNat)
          case atStart => exact ⟨0, rfl, Nat.zero_le _, by simp, Below.refl _ _⟩
          case round =>
            obtain ⟨i, rfl, hi, rfl, hbi⟩ := hrel
            have hz3 : Z ≤ 20 := by omega
            by_cases hil : i < Z
            · have hil2 : (i : Int) < (Z : Int) := by omega
              have hstep := HANY.out i (by rw [HZ.out]; exact hil)
              cases hE : (m0 || (L.take i).any (· == r)) with
              | true =>
                rw [hE, Bool.true_or] at hstep
                have HBI := Go.Lib.hid hbi
                have HSTEP := Go.Lib.hid hstep
                have HE := Go.Lib.hid hE
                clear hbi hstep hE
                go_wp2_with fail
                refine Go.Mix.wp_region_mix (Es := [10]) (Below Y.heap.size Y) mixed (by kernel_rfl) (show Below Y.heap.size Y (World.drew _) from HBI.out.drew) (fun _ => ?_)
                iterate 10 (refine Go.Mix.mix_step rfl (fun K hK => ?_); have HKK := Go.Lib.hid hK; clear hK; go_simp; refine HKK.out _ _ ?_; clear HKK K)
                refine Go.Mix.mix_eff rfl (fun K hK => ?_)
                have HKK := Go.Lib.hid hK
                clear hK
                go_simp
                refine HKK.out _ _ HBI.out.drew ?_
                clear HKK K
                iterate 3 (refine Go.Mix.mix_step rfl (fun K hK => ?_); have HKK := Go.Lib.hid hK; clear hK; go_simp; refine HKK.out _ _ ?_; clear HKK K)
                refine Go.Mix.mix_nil ?_
                go_wp2_with fail
                go_roundw
                case rel => exact ⟨i + 1, by go_num, by omega, by rw [HSTEP.out], HBI.out.drew⟩
                case measure => simp [RowKit.intOf]; omega
              | false =>
                rw [hE, Bool.false_or] at hstep
                obtain ⟨g6, o6, rfl, hg6, hcell6⟩ := Ints.at (show Ints Y (.slice a6 Z c6) L by unfold Ints; rw [HZ.out]; exact HSLY.out) (by rw [HZ.out]; omega)
                have f6 := hcell6 i (by rw [HZ.out]; exact hil)
                have D1 : ∀ z : Subtype (Below Y.heap.size Y), z.1.cell? ⟨b1, 0, none⟩ = some (.slice (some ⟨g1, o1, none⟩) D.length dc) := fun z => (z.2.cell (p := ⟨b1, 0, none⟩) l1).trans e1Y
                have D2 : ∀ z : Subtype (Below Y.heap.size Y), z.1.cell? ⟨g1, o1 + k, none⟩ = some (.int .i64 dk) := fun z => (z.2.cell (p := ⟨g1, o1 + k, none⟩) l2).trans f1Y
                have D3 : ∀ z : Subtype (Below Y.heap.size Y), z.1.cell? ⟨g6, o6 + i, none⟩ = some (.int .i64 (L.getD i 0)) := fun z => (z.2.cell (p := ⟨g6, o6 + i, none⟩) hg6).trans f6
                have hne2 : Nonempty (Subtype (Below Y.heap.size Y)) := ⟨⟨Y, Below.refl _ _⟩⟩
                generalize L.getD i 0 = x at *
                have HBI := Go.Lib.hid hbi
                have HSTEP := Go.Lib.hid hstep
                have HE := Go.Lib.hid hE
                clear hbi hstep hE
                clear hcell6 f6
                go_wp2_with fail
                refine Go.Mix.wp_region_mix (Es := [10]) (Below Y.heap.size Y) mixed (by kernel_rfl) (show Below Y.heap.size Y (World.drew _) from HBI.out.drew) (fun _ => ?_)
                iterate 10 (refine Go.Mix.mix_step rfl (fun K hK => ?_); have HKK := Go.Lib.hid hK; clear hK; go_simp; refine HKK.out _ _ ?_; clear HKK K)
                refine Go.Mix.mix_eff rfl (fun K hK => ?_)
                have HKK := Go.Lib.hid hK
                clear hK
                go_simp
                refine (HR.out _).mono ?_; rintro e _ ⟨rfl, rfl⟩
                go_simp
                refine HKK.out _ _ HBI.out.drew ?_
                clear HKK K
                iterate 3 (refine Go.Mix.mix_step rfl (fun K hK => ?_); have HKK := Go.Lib.hid hK; clear hK; go_simp; refine HKK.out _ _ ?_; clear HKK K)
                refine Go.Mix.mix_nil ?_
                go_wp2_with fail
                go_roundw
                case rel => exact ⟨i + 1, by go_num, by omega, by rw [HSTEP.out], HBI.out.drew⟩
                case measure => simp [RowKit.intOf]; omega
            · obtain rfl : i = Z := by omega
              have hE : (m0 || (L.take i).any (· == r)) = decide (q + 1 = n ∨ r ∈ L) := by
                rw [List.take_of_length_le (by rw [HZ.out]; exact Nat.le_refl _), HM0.out, Bool.eq_iff_iff]
                simp
              have hown3 := owns_below HOY.out hbi
              have hb3 := HBY.out.trans (hbi.mono HBY.out.size)
              have e1i : wr.cell? ⟨b1, 0, none⟩ = some (.slice (some ⟨g1, o1, none⟩) D.length dc) := (hbi.cell (p := ⟨b1, 0, none⟩) l1).trans e1Y
              have f1i : wr.cell? ⟨g1, o1 + k, none⟩ = some (.int .i64 dk) := (hbi.cell (p := ⟨g1, o1 + k, none⟩) l2).trans f1Y
              generalize (m0 || (L.take i).any (· == r)) = E at *
              by_cases hc : q + 1 = n ∨ r ∈ L
              · rw [decide_eq_true hc] at hE
                subst hE
                have hst2 := HST.out
                rw [if_pos hc] at hst2
                have HST2 := Go.Lib.hid hst2
                have HOWN3 := Go.Lib.hid hown3
                have HB3 := Go.Lib.hid hb3
                have HBI := Go.Lib.hid hbi
                clear hst2 hown3 hb3 hbi
                clear hc
                go_wp2_with fail
                go_roundw
                case rel => exact ⟨k + 1, by go_num, by omega, by rw [HST2.out, HZ.out]; exact HOWN3.out, HB3.out⟩
                case measure => simp [RowKit.intOf]; omega
              · rw [decide_eq_false hc] at hE
                subst hE
                have hst2 := HST.out
                rw [if_neg hc] at hst2
                have hownA := hown3.alloc (.cells #[.int .i64 r] 3)
                have hbA := hb3.alloc hb3.size (.cells #[.int .i64 r] 3)
                have HST2 := Go.Lib.hid hst2
                have HOWN3 := Go.Lib.hid hown3
                have HB3 := Go.Lib.hid hb3
                have HBI := Go.Lib.hid hbi
                have HOA := Go.Lib.hid hownA
                have HBA := Go.Lib.hid hbA
                clear hst2 hown3 hb3 hbi hownA hbA
                clear hc
                go_wp2_with fail
                refine (HR.out _).mono ?_; rintro e _ ⟨rfl, rfl⟩
                go_wp2_with (at_builtin; refine wpList_app1 eiIP (.tmp 86) (.tmp 92) rfl rfl W1.heap.size rfl rfl HOA.out (news := [.int .i64 r]) rfl (new_cells _ _ _) (fun u hu => by rw [List.mem_singleton] at hu; subst hu; rfl) (by unfold maxLen; omega) (by omega) HBA.out.size ?_; intro v5 W5 hown5 hg5 hsn5)
                have hb5 := below_app HBA.out HOA.out hg5 (Nat.le_refl _) HBA.out.size
                go_roundw
                case rel => exact ⟨k + 1, by go_num, by omega, by rw [HST2.out, List.length_append, List.map_append, HZ.out]; exact hown5, hb5⟩
                case measure => simp [RowKit.intOf]; omega
        · obtain rfl : k = D.length := by omega
          have hsn : ∀ W, Below w2.heap.size w2 W → Strs W (.slice a3 n c3) (namesP n) := fun W h => by
            have h1 := (hBr.below h).i3
            rw [namesP_len] at h1
            exact h1
          have hset : ∀ W, Below w2.heap.size w2 W → Calls Try.prog 15 #[.slice a3 n c3] W (RetSet W (namesP n)) := fun W h => by
            have h1 := set_any (namesP n) a3 c3 W (by rw [namesP_len]; exact hsn W h) (by rw [namesP_len]; omega)
            rw [namesP_len] at h1
            exact h1
          have hsok : ∀ r ∈ setL (namesP n), RROk r := setL_ok fun d hd => by
            obtain ⟨i, hi, rfl⟩ := namesP_mem.1 hd
            show (3 : Nat) ≤ 1000
            decide
          have hsl : (setL (namesP n)).length ≤ 1000 := by unfold setL; rw [List.length_map, namesP_len]; omega
          have hent : ∀ args w, (callFunc 12 args).run Try.prog w = .ok (.enter 12 args) w := enters_of Try.func12 (by kernel_rfl) rfl
          have htl : ∀ W, Below w2.heap.size w2 W → ∀ s, TellsA Try.prog 12 #[.pointer (some ⟨b1, 0, none⟩), .pointer (some ⟨b2, 0, none⟩), .pointer (some ⟨b3, 0, none⟩)] s (tellP D n s) W := fun W h s => tellP_any b1 b2 b3 da dc D n a3 c3 s W (hBr.below h) hn0 hn hD
          have htlen : ∀ s, (tellP D n s).length ≤ 20 := fun s => Nat.le_trans (tellPk_len D n s _) hD
          have hserv : ∀ W a c, Below w2.heap.size w2 W → RRs W (.slice a (setL (namesP n)).length c) (setL (namesP n)) → Calls Try.prog 14 #[setV [0] 2 (.slice a (setL (namesP n)).length c) 0 [0], .func (.func 12) #[] #[.pointer (some ⟨b1, 0, none⟩), .pointer (some ⟨b2, 0, none⟩), .pointer (some ⟨b3, 0, none⟩)]] W (RetSvs W (servP D n)) := fun W a c h1 h2 =>
            Servers_any [0] 2 0 [0] (setL (namesP n)) a c 12 _ (tellP D n) W h2 hsok hsl hent (fun s _ => htl W h1 s) (fun s _ => by have := htlen s; have := toldN_len (tellP D n s); exact ⟨by omega, by omega⟩)
          have hmiss : ∀ W a c j a2 c2, Below w2.heap.size w2 W → RRs W (.slice a (setL (namesP n)).length c) (setL (namesP n)) → j ≤ (wP D n n).length → Strs W (.slice a2 j c2) (((wP D n n).take j).map nmM) →
              Calls Try.prog 17 #[setV [0] 2 (.slice a (setL (namesP n)).length c) 0 [0], .func (.func 12) #[] #[.pointer (some ⟨b1, 0, none⟩), .pointer (some ⟨b2, 0, none⟩), .pointer (some ⟨b3, 0, none⟩)], .slice a2 j c2] W fun e w' => e = .returned (retM (((wP D n n)[j]?).map nmM)) ∧ Below W.heap.size W w' := by
            intro W a c j a2 c2 h1 h2 h3 h4
            have hl : (((wP D n n).take j).map nmM).length = j := by rw [List.length_map, List.length_take]; omega
            have h5 := Missing_any [0] 2 0 [0] (setL (namesP n)) a c 12 #[.pointer (some ⟨b1, 0, none⟩), .pointer (some ⟨b2, 0, none⟩), .pointer (some ⟨b3, 0, none⟩)] (tellP D n) (((wP D n n).take j).map nmM) a2 c2 W h2 hsok hsl hent
              (fun s _ => htl W h1 s) (fun s _ => by have := htlen s; omega) (by rw [hl]; exact h4) (by rw [hl]; have := wP_len D n n; omega) (fun x hx => by
                obtain ⟨i, hi, rfl⟩ := List.mem_map.1 hx
                show (3 : Nat) ≤ maxLen
                decide)
            rw [hl, missP hn] at h5
            exact h5
          have e3 := box_cell hBr.x3
          have hU := unlP_len D n D.length
          have hSl := servP_len (D := D) hn hD
          have hwl := wP_len D n n
          have hbw := HBE.out.trans (hb.mono HBE.out.size)
          have hnxs := fun j T h1 h2 => next_some (D := D) (n := n) (j := j) (T := T) (by omega) hn h1 h2
          have hnxn := fun j T h1 h2 => next_none (D := D) (n := n) (j := j) (T := T) (by omega) hn h1 h2
          obtain ⟨aU, cU, rfl, _, _⟩ := (SlC.of_owns hown).slice
          generalize unlP D n D.length = U at *
          obtain ⟨Z, hZ⟩ : ∃ Z, U.length = Z := ⟨_, rfl⟩
          rw [hZ] at hU hnxs hnxn
          try rw [hZ]
          have hs2 := hset w2 (Below.refl _ _)
          have HSET := Go.Lib.hid hset
          have HSN := Go.Lib.hid hsn
          have HSERV := Go.Lib.hid hserv
          have HMISS := Go.Lib.hid hmiss
          have HTL := Go.Lib.hid htl
          have HBR := Go.Lib.hid hBr
          have HBW := Go.Lib.hid hbw
          have HNXS := Go.Lib.hid hnxs
          have HNXN := Go.Lib.hid hnxn
          have HS2 := Go.Lib.hid hs2
          have HZ := Go.Lib.hid hZ
          have HTLEN := Go.Lib.hid htlen
          have HSLEN := Go.Lib.hid hSl
          have HWL := Go.Lib.hid hwl
          clear hset hsn hserv hmiss htl hBr hbw hnxs hnxn hs2 hZ htlen hSl hwl
          clear hsok hsl hent hown hb e2
          go_wp2_with fail
          refine HS2.out.mono ?_; rintro e W3 ⟨aR, cR, rfl, hrr, hb3⟩
          have hsv := HSERV.out W3 aR cR hb3 hrr
          have HSV := Go.Lib.hid hsv
          have HB3 := Go.Lib.hid hb3
          clear hsv hb3
          clear hrr HS2 e3 e1
          go_wp2_with fail
          refine HSV.out.mono ?_; rintro e W4 ⟨v4, rfl, hs4, hb4⟩
          have hb24 := HB3.out.trans (hb4.mono HB3.out.size)
          obtain ⟨aS, cS, rfl, _, _⟩ := SlC.slice hs4
          obtain ⟨LS, hLS⟩ : ∃ LS, (servP D n).length = LS := ⟨_, rfl⟩
          have hslen := HSLEN.out
          rw [hLS] at hslen hs4
          have hnext : ∀ W T a c j, Below W4.heap.size W4 W → T.length = j → j ≤ 20 → Svs W (.slice a j c) T → Calls Try.prog 16 #[.slice aS LS cS, .slice a j c] W fun e w' => e = .returned (retN (nextN (servP D n) T)) ∧ Below W.heap.size W w' := fun W T a c j h1 h2 h3 h4 => by
            subst h2
            have h5 := Next_any (servP D n) T aS a cS c W (by rw [hLS]; exact SlC.below hs4 h1 (Nat.le_refl _)) h4 (by omega) (by omega)
            rw [hLS] at h5
            exact h5
          rw [hLS]
          have HB24 := Go.Lib.hid hb24
          have HS4 := Go.Lib.hid hs4
          have HNEXT := Go.Lib.hid hnext
          have HLS := Go.Lib.hid hLS
          clear hb24 hs4 hnext hLS
          clear hb4 HSV HB3
          go_wp2_with fail
          go_loopw [13, 14] (fun v i wq => ∃ (j : Nat) (T : List Sv), i = .int .i64 j ∧ j ≤ Z ∧ Tried D n j T ∧ wq.ownsRow W4.heap.size 25 2 v j (encV T) ∧ Below W4.heap.size W4 wq) (fun _ i _ => Z - (RowKit.intOf i).toNat)
          case atStart => exact ⟨0, [], rfl, Nat.zero_le _, Tried.nil D n, World.ownsRow_nil _ _ _ _, Below.refl _ _⟩
          case round =>
            obtain ⟨j, T, rfl, hj, hT, hown, hb⟩ := hrel
            have hTl := hT.1
            obtain ⟨aT, cT, rfl, _, _⟩ := (SlC.of_owns hown).slice
            have hsT : Svs wr (.slice aT j cT) T := by unfold Svs; rw [hTl]; exact SlC.of_owns hown
            have hnx := HNEXT.out wr T aT cT j hb hTl (by omega) hsT
            by_cases hjz : j < Z
            · have hjz2 : (j : Int) < (Z : Int) := by omega
              obtain ⟨x, hx1, hx2⟩ := HNXS.out j T hT hjz
              rw [hx1] at hnx
              obtain ⟨xn, xa⟩ := x
              have hnx2 : Calls Try.prog 16 #[.slice aS LS cS, .slice aT j cT] wr fun e w' => e = .returned (.tuple #[.agg #[.string ⟨xn.toArray⟩, .int .i64 xa], .bool true]) ∧ Below wr.heap.size wr w' := hnx
              have HBQ := Go.Lib.hid hb
              have HOWN := Go.Lib.hid hown
              have HT := Go.Lib.hid hT
              have HNX2 := Go.Lib.hid hnx2
              have HX2 := Go.Lib.hid hx2
              clear hb hown hT hnx2 hx2
              clear hnx hsT hx1 hTl
              go_wp2_with fail
              refine HNX2.out.mono ?_; rintro e W5 ⟨rfl, hb5⟩
              obtain ⟨Y, hY⟩ : ∃ Y, W5.alloc (.cells #[.string ⟨xn.toArray⟩, .int .i64 xa] 25) = Y := ⟨_, rfl⟩
              have g5 : Y.heap[W5.heap.size]? = some (.cells #[.string ⟨xn.toArray⟩, .int .i64 xa] 25 (0, 0)) := by rw [← hY]; exact World.alloc_heap_new _ _
              have hbY : Below wr.heap.size wr Y := by rw [← hY]; exact hb5.alloc hb5.size _
              have c0 : Y.cell? ⟨W5.heap.size, 0, none⟩ = some (.string ⟨xn.toArray⟩) := row_cell g5 0 (.string ⟨xn.toArray⟩) rfl
              have c1 : Y.cell? ⟨W5.heap.size, 1, none⟩ = some (.int .i64 xa) := row_cell g5 1 (.int .i64 xa) rfl
              have hownY := (owns_below HOWN.out hbY).alloc (.cells #[.string ⟨xn.toArray⟩, .int .i64 xa] 25)
              have hbY2 := HBQ.out.trans (hbY.mono HBQ.out.size)
              have hbY3 := hbY2.alloc hbY2.size (.cells #[.string ⟨xn.toArray⟩, .int .i64 xa] 25)
              have HOY := Go.Lib.hid hownY
              have HBY3 := Go.Lib.hid hbY3
              have HBY := Go.Lib.hid hbY
              clear hownY hbY3 hbY
              clear g5 hb5 HNX2 hbY2
              go_wp2_with (first | (refine wpList_store_row rfl 25 (.tmp 15) (.tmp 108) rfl W5.heap.size #[.string ⟨xn.toArray⟩, .int .i64 xa] rfl rfl _ _ (World.alloc_heap_new _ _) infoZ rfl rfl ?_; rw [World.setRow_alloc_new, hY]) | (at_builtin; refine wpList_app1 eiSv (.tmp 112) (.tmp 114) rfl rfl W4.heap.size rfl rfl HOY.out (news := [.string (mk xn), .int .i64 xa]) rfl (new_cells _ _ _) (one_sv (xn, xa)) (by unfold maxLen; omega) (by omega) HBY3.out.size ?_; intro v6 W6 hown6 hg6 hsn6))
              have hb6 := below_app HBY3.out HOY.out hg6 (Nat.le_refl _) HBY3.out.size
              go_roundw
              case rel => exact ⟨j + 1, T ++ [(xn, xa)], by go_num, by omega, HX2.out, by rw [encV_append]; exact hown6, hb6⟩
              case measure => simp [RowKit.intOf]; omega
            · obtain rfl : j = Z := by omega
              generalize wr = w5 at *
              rw [HNXN.out j T hT rfl] at hnx
              have hnx2 : Calls Try.prog 16 #[.slice aS LS cS, .slice aT j cT] w5 fun e w' => e = .returned (.tuple #[.agg #[.string ⟨#[]⟩, .int .i64 0], .bool false]) ∧ Below w5.heap.size w5 w' := hnx
              have hb25 := HB24.out.trans (hb.mono HB24.out.size)
              have HNX2 := Go.Lib.hid hnx2
              have HB25 := Go.Lib.hid hb25
              clear hnx2 hb25
              clear hnx hsT hT hown hb hTl
              go_wp2_with fail
              refine HNX2.out.mono ?_; rintro e W5 ⟨rfl, hb5⟩
              obtain ⟨Y, hY⟩ : ∃ Y, W5.alloc (.cells #[.string ⟨#[]⟩, .int .i64 0] 25) = Y := ⟨_, rfl⟩
              have hb2Y : Below w2.heap.size w2 Y := by
                have h1 := HB25.out.trans (hb5.mono HB25.out.size)
                rw [← hY]; exact h1.alloc h1.size _
              have HY := Go.Lib.hid hY
              have HB2Y := Go.Lib.hid hb2Y
              clear hY hb2Y
              clear hb5 HNX2 HNEXT HNXS HNXN
              go_wp2_with fail
              rw [HY.out]
              have hmiss := HMISS.out
              have hwl := HWL.out
              have hP12 : ∀ i ∈ wP D n n, i < n := fun i hi => wP_mem hi
              obtain ⟨P, hP⟩ : ∃ P, P = wP D n n := ⟨_, rfl⟩
              rw [← hP] at hmiss hwl hP12
              obtain ⟨WL, hWL⟩ : ∃ q, P.length = q := ⟨_, rfl⟩
              rw [hWL] at hmiss hwl
              have HMS := Go.Lib.hid hmiss
              have HP12 := Go.Lib.hid hP12
              have HP := Go.Lib.hid hP
              have HWL2 := Go.Lib.hid hWL
              clear hmiss hP12 hP hWL
              go_loopw [19, 20] (fun v i wq => ∃ j : Nat, i = .int .i64 j ∧ j ≤ WL ∧ wq.ownsRow Y.heap.size 9 1 v j (cN ((P.take j).map nmM)) ∧ Below Y.heap.size Y wq) (fun _ i _ => n + 1 - (RowKit.intOf i).toNat)
              case atStart => exact ⟨0, rfl, Nat.zero_le _, World.ownsRow_nil _ _ _ _, Below.refl _ _⟩
              case round =>
                obtain ⟨q, rfl, hq, hown, hb⟩ := hrel
                have hqn : (q : Int) ≤ (n : Int) := by omega
                obtain ⟨a19, c19, rfl, _, _⟩ := (SlC.of_owns hown).slice
                have hb2q := HB2Y.out.trans (hb.mono HB2Y.out.size)
                have hBq := HBR.out.below hb2q
                have e2 := box_cell hBq.x2
                have e3 := box_cell hBq.x3
                have hsq := HSET.out wr hb2q
                have hlt : ((P.take q).map nmM).length = q := by rw [List.length_map, List.length_take, HWL2.out]; omega
                have hstq : Strs wr (.slice a19 q c19) ((P.take q).map nmM) := by
                  unfold Strs
                  rw [hlt]
                  exact SlC.of_owns hown
                by_cases hqz : q < WL
                · have hql : q < P.length := by rw [HWL2.out]; exact hqz
                  have hsome : P[q]? = some (P.getD q 0) := by rw [List.getD_eq_getElem?_getD, List.getElem?_eq_getElem hql]; rfl
                  have htk : (P.take (q + 1)).map nmM = (P.take q).map nmM ++ [nmM (P.getD q 0)] := by
                    rw [List.take_succ_eq_append_getElem hql, List.map_append, List.getD_eq_getElem?_getD, List.getElem?_eq_getElem hql]; rfl
                  have hmq := fun W a c' h1 h2 => HMS.out W a c' q a19 c19 h1 h2 hq
                  rw [hsome] at hmq
                  generalize P.getD q 0 = i at *
                  have hnm : nmM i = [1, UInt8.ofNat (97 + i), 0] := rfl
                  rw [hnm] at htk
                  generalize UInt8.ofNat (97 + i) = c at *
                  have hret : retM ((some i).map nmM) = .tuple #[.string ⟨#[1, c, 0]⟩, .bool true] := by unfold retM; rw [Option.map_some, hnm]; rfl
                  rw [hret] at hmq
                  have HOWN := Go.Lib.hid hown
                  have HBQ := Go.Lib.hid hb
                  have HB2Q := Go.Lib.hid hb2q
                  have HSQ := Go.Lib.hid hsq
                  have HSTQ := Go.Lib.hid hstq
                  have HNM := Go.Lib.hid hnm
                  have HMQ := Go.Lib.hid hmq
                  have HTK := Go.Lib.hid htk
                  have HSOME := Go.Lib.hid hsome
                  have HBQ2 := Go.Lib.hid hBq
                  clear hown hb hb2q hsq hstq hnm hmq htk hsome hBq
                  clear hret hlt
                  go_wp2_with fail
                  refine HSQ.out.mono ?_; rintro e W6 ⟨a2, c2, rfl, hrr, hb6⟩
                  have hb26 := HB2Q.out.trans (hb6.mono HB2Q.out.size)
                  have hm6 := HMQ.out W6 a2 c2 hb26 hrr (SlC.below HSTQ.out hb6 (Nat.le_refl _))
                  have hbY6 := HBQ.out.trans (hb6.mono HBQ.out.size)
                  have ho6 := owns_below HOWN.out hb6
                  have HBY6 := Go.Lib.hid hbY6
                  have HM6 := Go.Lib.hid hm6
                  have HO6 := Go.Lib.hid ho6
                  clear hbY6 hm6 ho6
                  clear hrr hb6 HSQ hb26
                  go_wp2_with fail
                  refine HM6.out.mono ?_; rintro e W7 ⟨rfl, hb7⟩
                  have hbY7 := HBY6.out.trans (hb7.mono HBY6.out.size)
                  have ho7 := (owns_below HO6.out hb7).alloc (.cells #[.string ⟨#[1, c, 0]⟩] 9)
                  have hbY8 := hbY7.alloc hbY7.size (.cells #[.string ⟨#[1, c, 0]⟩] 9)
                  have HBY8 := Go.Lib.hid hbY8
                  have HO7 := Go.Lib.hid ho7
                  clear hbY8 ho7
                  clear hb7 HM6 HO6 hbY7
                  go_wp2_with (at_builtin; refine wpList_app1 eiS (.tmp 137) (.tmp 139) rfl rfl Y.heap.size rfl rfl HO7.out (news := [.string (mk [1, c, 0])]) rfl (new_cells _ _ _) (fun u hu => by rw [List.mem_singleton] at hu; subst hu; rfl) (by unfold maxLen; omega) (by omega) HBY8.out.size ?_; intro v5 W8 hown5 hg5 hsn5)
                  have hb5 := below_app HBY8.out HO7.out hg5 (Nat.le_refl _) HBY8.out.size
                  go_roundw
                  case rel => exact ⟨q + 1, by go_num, by omega, by rw [HTK.out, cN_app]; exact hown5, hb5⟩
                  case measure => simp [RowKit.intOf]; omega
                · obtain rfl : q = WL := by omega
                  have hnone : P[q]? = none := List.getElem?_eq_none (by rw [HWL2.out]; exact Nat.le_refl _)
                  have hmq := fun W a c' h1 h2 => HMS.out W a c' q a19 c19 h1 h2 (Nat.le_refl _)
                  rw [hnone] at hmq
                  have hret : retM ((none : Option Nat).map nmM) = .tuple #[.string ⟨#[]⟩, .bool false] := rfl
                  rw [hret] at hmq
                  have HBQ := Go.Lib.hid hb
                  have HB2Q := Go.Lib.hid hb2q
                  have HSQ := Go.Lib.hid hsq
                  have HSTQ := Go.Lib.hid hstq
                  have HMQ := Go.Lib.hid hmq
                  have HBQ2 := Go.Lib.hid hBq
                  clear hb hb2q hsq hstq hmq hBq
                  clear hret hown hnone hlt
                  go_wp2_with fail
                  refine HSQ.out.mono ?_; rintro e W6 ⟨a2, c2, rfl, hrr, hb6⟩
                  have hb26 := HB2Q.out.trans (hb6.mono HB2Q.out.size)
                  have hm6 := HMQ.out W6 a2 c2 hb26 hrr (SlC.below HSTQ.out hb6 (Nat.le_refl _))
                  have HM6 := Go.Lib.hid hm6
                  have HB26 := Go.Lib.hid hb26
                  clear hm6 hb26
                  clear hrr hb6 HSQ
                  go_wp2_with fail
                  refine HM6.out.mono ?_; rintro e W7 ⟨rfl, hb7⟩
                  have hb27 := HB26.out.trans (hb7.mono HB26.out.size)
                  have HB27 := Go.Lib.hid hb27
                  clear hb27
                  clear hb7 HM6 e2 e3
                  go_wp2_with fail
                  go_loopw [23, 24] (fun m i wq => ∃ k : Nat, i = .int .i64 k ∧ k ≤ n ∧ m = .int .i64 (wP D n k).length ∧ Below W7.heap.size W7 wq) (fun _ i _ => n - (RowKit.intOf i).toNat)
                  case atStart => exact ⟨0, rfl, Nat.zero_le _, rfl, Below.refl _ _⟩
                  case round =>
                    obtain ⟨k, rfl, hk, rfl, hb⟩ := hrel
                    have hb2k := HB27.out.trans (hb.mono HB27.out.size)
                    have hBk := HBR.out.below hb2k
                    have e2 := box_cell hBk.x2
                    have e3 := box_cell hBk.x3
                    have hwk := wP_succ D n k
                    have hwl2 := wP_len D n k
                    have hfinP : k = n → (wP D n k).length = q := fun e => by rw [e, ← HP.out]; exact HWL2.out
                    by_cases hkn : k < n
                    · have hkn2 : (k : Int) < (n : Int) := by omega
                      obtain ⟨g3, o3, rfl, hg3, hcell3⟩ := Strs.at hBk.i3 (by rw [namesP_len]; omega)
                      have f3 := hcell3 k (by rw [namesP_len]; exact hkn)
                      have e4 : (namesP n).getD k [] = nmM k := by unfold namesP; rw [List.getD_eq_getElem?_getD, List.getElem?_map, List.getElem?_range hkn]; rfl
                      rw [e4] at f3
                      have htl : Calls Try.prog 12 #[.string (mk (nmM k)), .pointer (some ⟨b1, 0, none⟩), .pointer (some ⟨b2, 0, none⟩), .pointer (some ⟨b3, 0, none⟩)] wr fun e w' => ∃ v, e = .returned v ∧ Ints w' v (tellP D n (nmM k)) ∧ Below wr.heap.size wr w' := HTL.out wr hb2k (nmM k) wr (Below.refl _ _)
                      generalize tellP D n (nmM k) = R at *
                      generalize nmM k = s at *
                      have HBQ := Go.Lib.hid hb
                      have HB2K := Go.Lib.hid hb2k
                      have HBK := Go.Lib.hid hBk
                      have HTLL := Go.Lib.hid htl
                      have HWK := Go.Lib.hid hwk
                      have HFINP := Go.Lib.hid hfinP
                      clear hb hb2k hBk htl hwk hfinP
                      clear hcell3 e4
                      go_wp2_with fail
                      refine HTLL.out.mono ?_; rintro e W8 ⟨v8, rfl, hi8, hb8⟩
                      obtain ⟨a8, c8, rfl, _, _⟩ := SlC.slice hi8
                      have hbz := HBQ.out.trans (hb8.mono HBQ.out.size)
                      obtain ⟨m, hm⟩ : ∃ m, R.length = m := ⟨_, rfl⟩
                      have hwk2 := HWK.out
                      rw [hm] at hwk2
                      rw [hm]
                      have hwi : IntKind.i64.wrap (((wP D n k).length : Int) + 1) = ((wP D n k).length : Int) + 1 := wrapi (by omega) (by omega)
                      by_cases hm0 : m = 0
                      · subst hm0
                        rw [if_pos rfl] at hwk2
                        have HBZ := Go.Lib.hid hbz
                        have HWK2 := Go.Lib.hid hwk2
                        have HM := Go.Lib.hid hm
                        clear hbz hwk2 hm
                        clear hi8 hb8
                        go_wp2_with fail
                        go_roundw
                        case rel => exact ⟨k + 1, by go_num, by omega, by rw [HWK2.out, List.length_append]; simp, HBZ.out⟩
                        case measure => simp [RowKit.intOf]; omega
                      · rw [if_neg hm0, List.append_nil] at hwk2
                        have hmb : ((m : Int) == 0) = false := beq_eq_false_iff_ne.2 (by omega)
                        have HBZ := Go.Lib.hid hbz
                        have HWK2 := Go.Lib.hid hwk2
                        have HM := Go.Lib.hid hm
                        clear hbz hwk2 hm
                        clear hi8 hb8
                        go_wp2_with fail
                        go_roundw
                        case rel => exact ⟨k + 1, by go_num, by omega, by rw [HWK2.out], HBZ.out⟩
                        case measure => simp [RowKit.intOf]; omega
                    · obtain rfl : k = n := by omega
                      rw [hfinP rfl]
                      have HB := Go.Lib.hid (HBW.out.trans (hb2k.mono HBW.out.size))
                      clear hb hb2k hBk hwk hfinP hwl2
                      go_wp2_with fail
                      refine (HAW.out _).mono ?_; rintro e W9 ⟨rfl, hb9⟩
                      have hbz := HB.out.trans (hb9.mono HB.out.size)
                      have HBZ := Go.Lib.hid hbz
                      clear hbz
                      clear hb9
                      go_wp2_with fail
                      go_ret
                      exact ⟨rfl, HBZ.out⟩
theorem walk (da : Option Addr) (D : List Int) (dc : Nat) (n : Int) (w : World) (hd : Ints w (.slice da D.length dc) D) (_ : ∀ x ∈ D, Fits x) (_ : Fits n) :
    Calls Try.prog 4 #[.slice da D.length dc, .int .i64 n] w fun e w' => e = .returned (.bool true) ∧ Below w.heap.size w w' := by
  have haw := Go.Lib.hid awake_any
  by_cases hbad : 20 < (D.length : Int) ∨ (¬ 20 < (D.length : Int) ∧ n < 1) ∨ (¬ 20 < (D.length : Int) ∧ ¬ n < 1 ∧ 12 < n)
  · exact t1 da D.length dc n w hbad haw
  · obtain ⟨m, rfl⟩ : ∃ m : Nat, n = m := ⟨n.toNat, by omega⟩
    exact t2 da D dc m w hd (by omega) (by omega) (by omega) haw

set_option maxRecDepth 100000 in
theorem lifted (os : Os) (started : os.Started) (H : Type) (enc : TypeId × Value → H) :
    ReturnsInHanded {} Try.checked os 4 .any (Rows.pickAllSpec.pre6 enc Try.prog Try.f4 Rows.pickAllRow.domain false) (Rows.pickAllSpec.post enc Try.prog Try.f4 false true false false) := by
  refine returnsInHanded_of_change (C := Try.checked) own started (by kernel_rfl) Try.func4
    (ChangeSpec.witness6 (enc := enc) (C := Try.checked) false ⟨#[], #[.slice none 0 0, .int .i64 0], []⟩ 8 (by kernel_rfl) (by kernel_rfl) (by kernel_rfl) (by kernel_rfl)) ?_
  intro W base args ds gs before hval0 hW hcnd _
  have hval : ∀ (j : Nat) t v, Try.f4.params[j]? = some t → args[j]? = some v → Value.okWide Try.prog W .any base t v := hval0
  refine law_post enc 2 (by kernel_rfl) rfl rfl (by kernel_rfl) (fun ds h => match ds, h with | [_, _], _ => rfl) hW ?_
  obtain ⟨p, q, hA0, hV, rfl, _, _⟩ := hW
  have hA : DataW.TrodAll enc Try.prog W 0 (fun _ => true) true Try.f4.params.toList args.toList ds p := hA0
  rw [Try.params4] at hA hval
  obtain ⟨v0, vs0, d0, ds0, p0, q0, hargs, rfl, rfl, h0, r0⟩ := trodAll_cons hA
  obtain ⟨v1, vs1, d1, ds1, p1, q1, rfl, rfl, rfl, h1, r1⟩ := trodAll_cons r0
  obtain ⟨rfl, rfl, rfl⟩ := trodAll_nil r1
  obtain rfl : args = #[v0, v1] := by cases args; simp_all
  obtain ⟨a0, z0, c0, rfl, w0, f0⟩ := open_Ints Try.underlying30 Try.underlying3 (by kernel_rfl) (hval 0 30 v0 rfl rfl) h0
  obtain ⟨a1, rfl, rfl, rfl, w1⟩ := open_int Try.underlying3 (hval 1 3 v1 rfl rfl) h1
  exact walk a0 z0 c0 a1 W w0 f0 (fits_of_wf w1)

theorem over : Rows.pickAllRow.holds Try.pinned (OpenSpec.ofChange Rows.pickAllSpec) :=
  OpenClaim.holds_of_wide 4 Try.f4 rfl rfl rfl rfl rfl rfl rfl ⟨rfl, rfl, rfl, rfl, rfl⟩ rfl rfl rfl rfl rfl (by kernel_rfl) Try.func4 (by kernel_rfl)
    (of_decide_eq_true (by kernel_rfl)) (by unfold Func.isWrapper; first | (rw [if_pos (by decide +kernel)]; kernel_rfl) | (rw [if_neg (by decide +kernel)]; exact ⟨rfl, rfl⟩))
    (fun os started H enc _ => lifted os started H enc)

/-- the statement -/
theorem proved : Rows.PickAllSaid := over
#print axioms proved
end Go.Proofs.Ytgbmclgnbbhcbaa.pickAll
