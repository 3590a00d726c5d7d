/- PickOrder: servers come by their names, and of one name by their addresses, whatever order they stand in; each once. For every input; no conditions. -/
import Derived.Test.YtgbmclgnbbhcbaaG4
import Derived.Test.YtgbmclgnbbhcbaaG5
import Derived.Test.YtgbmclgnbbhcbaaG6
import Derived.Deep.OwnRows
import Derived.WalkSpells
namespace Go.Proofs.Ytgbmclgnbbhcbaa.pickOrder
open Go.ChangeShapes Go.WideShapes Go.ChangeAt Go.RowKit
open Go.ChangeMaps (open_string shut_string)
set_option linter.unusedVariables false
set_option linter.unusedSimpArgs false
set_option maxRecDepth 100000

theorem tell_any (n : List UInt8) (hn : n.length ≤ 1000000) (w : World) : TellsA Try.prog 18 #[] n (tellO n) w := by
  intro W hW
  clear hW
  unfold tellO
  go_enter Try.func18, Try.ntmps18
  go_wp2_with fail
  go_ret
  exact ⟨_, rfl, slc_new _ 1 3 3 [.int .i64 n.length, .int .i64 2, .int .i64 n.length] rfl (by decide), (Below.refl _ W).alloc (Nat.le_refl _) _⟩
theorem t1 (da : Option Addr) (N dc : Nat) (w : World) (hN : 12 < (N : Int)) (HAW : Hid (∀ W, Calls Try.prog 7 #[] W fun e w' => e = .returned (.bool true) ∧ Below W.heap.size W w')) :
    Calls Try.prog 5 #[.slice da N dc] w fun e w' => e = .returned (.bool true) ∧ Below w.heap.size w w' := by
  have HB := Go.Lib.hid (Below.refl w.heap.size w)
  go_enter Try.func5, Try.ntmps5
  go_wp2_with fail
  refine (HAW.out _).mono ?_; rintro e wb1 ⟨rfl, hx⟩
  have hb := HB.out.trans (hx.mono HB.out.size)
  clear HB
  have HB := Go.Lib.hid hb
  clear hx hb
  go_wp2_with fail
  go_ret
  exact ⟨rfl, HB.out⟩
/-- a row of truths -/
def Bls (w : World) (g : Nat) (A : List Bool) : Prop := w.heap[g]? = some (.cells (A.map Value.bool).toArray 4 (0, 0))
theorem Bls.cell {w : World} {g : Nat} {A : List Bool} (h : Bls w g A) {k : Nat} (hk : k < A.length) : w.cell? ⟨g, k, none⟩ = some (.bool (A.getD k false)) := by
  unfold Bls at h
  simp [World.cell?, h, List.getD_eq_getElem?_getD, hk]
theorem Bls.frozen {w : World} {g : Nat} {A : List Bool} (h : Bls w g A) (k : Nat) : w.frozen? ⟨g, k, none⟩ = false := by
  unfold Bls at h
  simp [World.frozen?, h]
theorem bool_info : (Try.prog.info? 4).map (fun i => (i.zero, i.size, i.bytes)) = some (some (.bool false), 1, 1) := by kernel_rfl
def nmC : Array Value := #[.string ⟨#[1, 97, 0]⟩, .string ⟨#[1, 98, 1, 97, 0]⟩, .string ⟨#[1, 98, 0]⟩, .string ⟨#[1, 97, 1, 98, 0]⟩, .string ⟨#[1, 99, 0]⟩]
theorem nmC_get : ∀ q, q < 5 → nmC[q]? = some (.string (mk (nmO q)))
  | 0, _ => rfl
  | 1, _ => rfl
  | 2, _ => rfl
  | 3, _ => rfl
  | 4, _ => rfl
  | q + 5, h => by omega
/-- what the first loop knows: the names' row, the truths' row, the list -/
structure S1 (w : World) (gn gi B : Nat) (ks : List Nat) (k : Nat) (v : Value) (W : World) : Prop where
  nr : W.heap[gn]? = some (.cells nmC 9 (0, 0))
  br : Bls W gi (inO ks)
  ow : W.ownsRow B 9 1 v k (ks.map fun j => .string (mk (nmO j)))
  be : Below w.heap.size w W
  l1 : w.heap.size ≤ gn
  l2 : gn < gi
  l3 : gi < B
  l4 : B ≤ W.heap.size
theorem s1name {w W : World} {gn gi B k : Nat} {ks : List Nat} {v : Value} (h : S1 w gn gi B ks k v W) {q : Nat} (hq : q < 5) : W.cell? ⟨gn, q, none⟩ = some (.string (mk (nmO q))) := by
  have := h.nr
  simp only [World.cell?, this]
  exact nmC_get q hq
theorem s1app {w W W' : World} {gn gi B k q : Nat} {ks : List Nat} {v v' : Value} (h : S1 w gn gi B ks k v W) (o : Obj) (ho : W'.ownsRow B 9 1 v' (k + 1) ((ks.map fun j => .string (mk (nmO j))) ++ [.string (mk (nmO q))])) (hg : (W.alloc o).grownBy W' v.ownBlock) :
    W'.heap[gn]? = some (.cells nmC 9 (0, 0)) ∧ Bls W' gi (inO ks) ∧ W'.ownsRow B 9 1 v' (k + 1) ((ks ++ [q]).map fun j => .string (mk (nmO j))) ∧ Below w.heap.size w W' ∧ B ≤ W'.heap.size := by
  have h1 : Below B W (W.alloc o) := (Below.refl _ _).alloc h.l4 o
  have h2 : Below B W W' := below_app h1 (h.ow.alloc o) hg (Nat.le_refl _) (Nat.le_trans h.l4 h1.size)
  refine ⟨(h2.block gn (by have := h.l2; have := h.l3; omega)).trans h.nr, (h2.block gi h.l3).trans h.br, by rw [List.map_append]; exact ho, h.be.trans (h2.mono (by have := h.l1; have := h.l2; have := h.l3; omega)), Nat.le_trans h.l4 h2.size⟩
theorem s1step {w W W' : World} {gn gi B k q : Nat} {ks : List Nat} {v v' : Value} (h : S1 w gn gi B ks k v W) (hq : q < 5) (o : Obj) (ho : W'.ownsRow B 9 1 v' (k + 1) ((ks.map fun j => .string (mk (nmO j))) ++ [.string (mk (nmO q))])) (hg : (W.alloc o).grownBy W' v.ownBlock) :
    W'.cell? ⟨gi, q, none⟩ = some (.bool ((inO ks).getD q false)) ∧ W'.frozen? ⟨gi, q, none⟩ = false ∧ S1 w gn gi B (ks ++ [q]) (k + 1) v' (W'.setCell ⟨gi, q, none⟩ (.bool true)) := by
  obtain ⟨h1, h2, h3, h4, h5⟩ := s1app h o ho hg
  have l1 := h.l1
  have l2 := h.l2
  have l3 := h.l3
  have hz : (W'.setCell ⟨gi, q, none⟩ (.bool true)).heap.size = W'.heap.size := by
    have e := setCell_eq_setRow W' gi q _ _ (0, 0) (.bool true) h2
    rw [e, setRow_size]
  refine ⟨h2.cell (by rw [inO_len]; exact hq), h2.frozen q, ?_, ?_, ?_, h4.setCell (p := ⟨gi, q, none⟩) (by show _ ≤ gi; omega) _, l1, l2, l3, by rw [hz]; exact h5⟩
  · have e := setCell_eq_setRow W' gi q _ _ (0, 0) (.bool true) h2
    rw [e, setRow_other _ _ _ _ (by omega)]
    exact h1
  · have e := setCell_eq_setRow W' gi q _ _ (0, 0) (.bool true) h2
    unfold Bls
    rw [e, setRow_heap W' gi _ _ _ _ h2, ← inO_set ks hq]
    simp [List.map_set]
  · have e := setCell_eq_setRow W' gi q _ _ (0, 0) (.bool true) h2
    rw [e]
    exact h3.kept (row := some gi) ⟨rfl, rfl, rfl, by rw [setRow_size]; exact Nat.le_refl _, fun k hk hn => setRow_other _ _ _ _ (fun e => hn (by rw [e]))⟩ (.inr fun e => by have := (h3.lt gi e).1; omega)
theorem setL_ok {L : List (List UInt8)} (h : ∀ d ∈ L, d.length ≤ 1000) : ∀ r ∈ setL L, RROk r := fun r hr => by
  obtain ⟨d, h1, rfl⟩ := List.mem_map.1 hr
  have := h d h1
  exact ⟨by show (1 : Nat) ≤ maxLen; decide, by show d.length ≤ maxLen; unfold maxLen; omega⟩
set_option maxHeartbeats 8000000 in
theorem t2 (da : Option Addr) (dl : List Int) (dc : Nat) (w : World) (hd : Ints w (.slice da dl.length dc) dl) (hdl : dl.length ≤ 12)
    (HAW : Hid (∀ W, Calls Try.prog 7 #[] W fun e w' => e = .returned (.bool true) ∧ Below W.heap.size W w')) :
    Calls Try.prog 5 #[.slice da dl.length dc] w fun e w' => e = .returned (.bool true) ∧ Below w.heap.size w w' := by
  have mixed : Try.prog.follows .mixedOrders = true := by kernel_rfl
  generalize hN : dl.length = N at *
  have g1 : ¬ 12 < (N : Int) := by omega
  obtain ⟨X, hX⟩ : ∃ X, w.alloc (.cells #[.string ⟨#[1, 97, 0]⟩, .string ⟨#[1, 98, 1, 97, 0]⟩, .string ⟨#[1, 98, 0]⟩, .string ⟨#[1, 97, 1, 98, 0]⟩, .string ⟨#[1, 99, 0]⟩] 9) = X := ⟨_, rfl⟩
  have hmk : ∀ w, (Instr.makeSlice 47 (.int .i64 5) (.int .i64 5)).run Try.prog w = .ok (.slice (some ⟨w.heap.size, 0, none⟩) 5 5) (w.alloc (.cells #[.bool false, .bool false, .bool false, .bool false, .bool false] 4)) := fun w => by
    have := run_make_row' (P := Try.prog) 47 4 (.bool false) 1 Try.underlying47 bool_info rfl .i64 .i64 5 (by omega) (by omega) w
    rw [show ((5 : Nat) : Int) = (5 : Int) from rfl, show madeCells #[.bool false] 5 = #[.bool false, .bool false, .bool false, .bool false, .bool false] by kernel_rfl] at this
    exact this
  obtain ⟨X1, hX1⟩ : ∃ X1, X.alloc (.cells #[.bool false, .bool false, .bool false, .bool false, .bool false] 4) = X1 := ⟨_, rfl⟩
  obtain ⟨gn, hgn⟩ : ∃ g, w.heap.size = g := ⟨_, rfl⟩
  obtain ⟨gi, hgi⟩ : ∃ g, X.heap.size = g := ⟨_, rfl⟩
  have hwX : Below w.heap.size w X := by rw [← hX]; exact (Below.refl _ _).alloc (Nat.le_refl _) _
  have hXX : Below X.heap.size X X1 := by rw [← hX1]; exact (Below.refl _ _).alloc (Nat.le_refl _) _
  have hz1 : X.heap.size = w.heap.size + 1 := by rw [← hX]; exact World.size_alloc _ _
  have hz2 : X1.heap.size = X.heap.size + 1 := by rw [← hX1]; exact World.size_alloc _ _
  have hs0 : S1 w gn gi X1.heap.size (ksO dl 0) 0 (.slice none 0 0) X1 := by
    subst hgn hgi
    refine ⟨?_, by rw [← hX1]; exact World.alloc_heap_new _ _, World.ownsRow_nil _ _ _ _, hwX.trans (hXX.mono hwX.size), Nat.le_refl _, by omega, by omega, Nat.le_refl _⟩
    have hn0 : X.heap[w.heap.size]? = some (.cells nmC 9 (0, 0)) := by rw [← hX]; exact World.alloc_heap_new _ _
    exact (hXX.block _ (Array.getElem?_eq_some_iff.1 hn0).1).trans hn0
  have HD := Go.Lib.hid hd
  have HN := Go.Lib.hid hN
  have HS0 := Go.Lib.hid hs0
  clear hd hN hs0
  clear hwX hXX hz1 hz2
  go_enter Try.func5, Try.ntmps5
  go_wp2_with fail
  clear hmk hX hX1 hgn hgi g1
  generalize X1.heap.size = B at *
  go_loopw [4, 6] (fun v i wr => ∃ k : Nat, i = .int .i64 k ∧ k ≤ N ∧ S1 w gn gi B (ksO dl k) k v wr) (fun _ i _ => N - (RowKit.intOf i).toNat)
  case atStart => exact ⟨0, rfl, Nat.zero_le _, HS0.out⟩
  case round =>
    clear HS0
    obtain ⟨k, rfl, hk, hs⟩ := hrel
    by_cases hlt : k < N
    · have hlt2 : (k : Int) < (N : Int) := by omega
      obtain ⟨b0, off, rfl, hbw, hcell⟩ := Ints.at (HD.out.below hs.be (Nat.le_refl _)) (by rw [HN.out]; omega)
      have f0 := hcell k (by rw [HN.out]; exact hlt)
      have hsn := ksO_snoc (l := dl) (k := k) (by rw [HN.out]; exact hlt)
      have hround := fun W => Round_any (dl.getD k 0) 5 W (by omega) (by omega)
      have hq5 := rndO_lt (dl.getD k 0)
      rw [rndO_eq] at hround
      generalize rndO (dl.getD k 0) = q at *
      generalize dl.getD k 0 = dk at *
      generalize hks : ksO dl k = ks at *
      have d0 := s1name hs hq5
      have hq5' : (q : Int) < 5 := by omega
      have hown := hs.ow.alloc (.cells #[.string ⟨(nmO q).toArray⟩] 9)
      have hl4 := hs.l4
      have HS := Go.Lib.hid hs
      have HSN := Go.Lib.hid hsn
      have HROUND := Go.Lib.hid hround
      have HOWN := Go.Lib.hid hown
      have HKS := Go.Lib.hid hks
      clear hs hsn hround hown hks
      clear hcell
      go_wp2_with fail
      refine (HROUND.out _).mono ?_; rintro e _ ⟨rfl, rfl⟩
      go_wp2_with (at_builtin; refine wpList_app1 eiS (.tmp 28) (.tmp 33) rfl rfl B rfl rfl HOWN.out (news := [.string (mk (nmO q))]) rfl (new_cells _ _ _) (fun u hu => by rw [List.mem_singleton] at hu; subst hu; rfl) (by unfold maxLen; omega) (by omega) (by simp; omega) ?_; intro v5 W5 hown5 hg5 hsn5; obtain ⟨c1, c2, hs5⟩ := s1step HS.out hq5 _ hown5 hg5; have HS5 := Go.Lib.hid hs5; clear hs5 hown5 hg5 hsn5)
      go_roundw
      case rel => exact ⟨k + 1, by go_num, by omega, by rw [HSN.out]; exact HS5.out⟩
      case measure => simp [RowKit.intOf]; omega
    · obtain rfl : k = N := by omega
      generalize wr = W1 at *
      have hk5 := ksO_lt dl k
      have hkl : (ksO dl k).length = k := by unfold ksO; rw [List.length_map, List.length_take, HN.out]; omega
      generalize hks : ksO dl k = ks at *
      obtain ⟨a4, c4, rfl, _, _⟩ := (SlC.of_owns hs.ow).slice
      have HS := Go.Lib.hid hs
      have HKS := Go.Lib.hid hks
      have HK5 := Go.Lib.hid hk5
      have HKL := Go.Lib.hid hkl
      clear hs hks hk5 hkl
      go_wp2_with fail
      go_loopw [9, 10] (fun v i wq => ∃ j : Nat, i = .int .i64 j ∧ j ≤ 5 ∧ wq.ownsRow W1.heap.size 25 2 v (wantO ks j).length (encV (wantO ks j)) ∧ Below W1.heap.size W1 wq) (fun _ i _ => 5 - (RowKit.intOf i).toNat)
      case atStart => exact ⟨0, rfl, by omega, World.ownsRow_nil _ _ _ _, Below.refl _ _⟩
      case round =>
        obtain ⟨j, rfl, hj, hown, hb⟩ := hrel
        generalize wr = wq at *
        by_cases hj5 : j < 5
        · have hj5' : (j : Int) < 5 := by omega
          have hgi : gi < W1.heap.size := by have := HS.out.l3; have := HS.out.l4; omega
          have hgn : gn < W1.heap.size := by have := HS.out.l2; omega
          have cb := (show Bls wq gi (inO ks) from (hb.block gi hgi).trans HS.out.br).cell (k := j) (by rw [inO_len]; exact hj5)
          rw [inO_get ks hj5] at cb
          cases hc : ks.contains j with
          | false =>
            rw [hc] at cb
            have hw := wantO_skip hc
            have HOWN := Go.Lib.hid hown
            have HBQ := Go.Lib.hid hb
            have HW := Go.Lib.hid hw
            have HC := Go.Lib.hid hc
            clear hown hb hw hc
            go_wp2_with fail
            go_roundw
            case rel => exact ⟨j + 1, by go_num, by omega, by rw [HW.out]; exact HOWN.out, HBQ.out⟩
            case measure => simp [RowKit.intOf]; omega
          | true =>
            rw [hc] at cb
            have hw := wantO_put hc
            have hwl := wantO_len ks j
            have D0 : ∀ z : Subtype (Below W1.heap.size W1), z.1.cell? ⟨gn, j, none⟩ = some (.string (mk (nmO j))) := fun z => (z.2.cell (p := ⟨gn, j, none⟩) hgn).trans (s1name HS.out hj5)
            have hne : Nonempty (Subtype (Below W1.heap.size W1)) := ⟨⟨W1, Below.refl _ _⟩⟩
            generalize nmO j = n at *
            generalize wantO ks j = L at *
            have hsz := hb.size
            have hownA : (wq.drew.alloc (.cells #[.string ⟨n.toArray⟩, .int .i64 2, .string ⟨n.toArray⟩, .int .i64 n.length] 25)).ownsRow W1.heap.size 25 2 _ L.length (encV L) := (owns_below hown (Below.refl _ _).drew).alloc _
            have hbA : Below W1.heap.size W1 (wq.drew.alloc (.cells #[.string ⟨n.toArray⟩, .int .i64 2, .string ⟨n.toArray⟩, .int .i64 n.length] 25)) := hb.drew.alloc hsz _
            have hsl : SlC (wq.drew.alloc (.cells #[.string ⟨n.toArray⟩, .int .i64 2, .string ⟨n.toArray⟩, .int .i64 n.length] 25)) 2 (.slice (some ⟨wq.heap.size, 0, none⟩) 2 2) 2 (encV (twoO n)) := slc_new wq.drew 2 2 25 (encV (twoO n)) rfl (by decide)
            have hon := one_encV (twoO n)
            have HOWN := Go.Lib.hid hown
            have HBQ := Go.Lib.hid hb
            have HW := Go.Lib.hid hw
            have HC := Go.Lib.hid hc
            have HOA := Go.Lib.hid hownA
            have HBA := Go.Lib.hid hbA
            have HSL := Go.Lib.hid hsl
            have HON := Go.Lib.hid hon
            clear hown hb hw hc hownA hbA hsl hon
            go_wp2_with fail
            refine Go.Mix.wp_region_mix (Es := [16, 17]) (Below W1.heap.size W1) mixed (by kernel_rfl) (show Below W1.heap.size W1 (World.drew _) from HBQ.out.drew) (fun _ => ?_)
            iterate 16 (refine Go.Mix.mix_step rfl (fun K hK => ?_); have HKK := Go.Lib.hid hK; clear hK; go_simp; refine HKK.out _ _ ?_; clear HKK K)
            refine Go.Mix.mix_eff rfl (fun K hK => ?_)
            have HKK := Go.Lib.hid hK
            clear hK
            go_simp
            refine HKK.out _ _ HBA.out ?_
            clear HKK K
            refine mix_app eiSv (.tmp 46) (.tmp 62) rfl rfl rfl W1.heap.size rfl rfl HOA.out HSL.out HON.out (by unfold maxLen; omega) (by omega) HBA.out.size (fun v5 W5 hown5 hg5 => ?_)
            have hb5 := below_app HBA.out HOA.out hg5 (Nat.le_refl _) HBA.out.size
            refine ⟨hb5, ?_⟩
            have HB5 := Go.Lib.hid hb5
            have HO5 := Go.Lib.hid hown5
            clear hb5 hown5
            clear hg5
            iterate 1 (refine Go.Mix.mix_step rfl (fun K hK => ?_); have HKK := Go.Lib.hid hK; clear hK; go_simp; refine HKK.out _ _ ?_; clear HKK K)
            refine Go.Mix.mix_nil ?_
            go_wp2_with fail
            go_roundw
            case rel => exact ⟨j + 1, by go_num, by omega, by rw [HW.out, List.length_append, encV_append]; exact HO5.out, HB5.out⟩
            case measure => simp [RowKit.intOf]; omega
        · obtain rfl : j = 5 := by omega
          have hmm : (ks.map nmO).length = k := by rw [List.length_map]; exact HKL.out
          have hst : Strs wq (.slice a4 (ks.map nmO).length c4) (ks.map nmO) := by
            have h := (SlC.of_owns HS.out.ow).below hb (Nat.le_refl _)
            have e : (ks.map nmO).map (fun l => Value.string (mk l)) = ks.map fun j => Value.string (mk (nmO j)) := List.map_map
            unfold Strs
            rw [e, hmm]
            exact h
          have hkn : k ≤ 12 := by have := HN.out; omega
          have hset := set_any (ks.map nmO) a4 c4 wq hst (by rw [hmm]; omega)
          rw [hmm] at hset
          have hser := fun W a c h => Servers_any [0] 2 0 [0] (setL (ks.map nmO)) a c 18 #[] tellO W h (setL_ok fun d hd => by
            obtain ⟨q, h1, rfl⟩ := List.mem_map.1 hd
            have := nmO_len q (HK5.out q h1)
            omega) (by unfold setL; rw [List.length_map, hmm]; omega) (enters_of Try.func18 (by kernel_rfl) rfl) (fun n hn => by
              rw [targsO HK5.out] at hn
              obtain ⟨q, h1, rfl⟩ := TO_mem hn
              have := nmO_len q h1
              exact tell_any _ (by omega) W) (fun n hn => by
              rw [targsO HK5.out] at hn
              obtain ⟨q, h1, rfl⟩ := TO_mem hn
              exact ⟨by simp [tellO], nmO_told q h1⟩)
          rw [servO HK5.out] at hser
          have hbw := HS.out.be.trans (hb.mono HS.out.be.size)
          have hwl := wantO_len ks 5
          have hsame := fun W x1 z1 x2 z2 h1 h2 => sameSvs_any (wantO ks 5) (wantO ks 5) x1 x2 z1 z2 W h1 h2 (by omega)
          simp only [decide_true] at hsame
          have hwa := SlC.of_owns hown
          obtain ⟨a9, c9, rfl, _, _⟩ := hwa.slice
          generalize wantO ks 5 = L at *
          have HST := Go.Lib.hid hst
          have HSET := Go.Lib.hid hset
          have HSER := Go.Lib.hid hser
          have HBW := Go.Lib.hid hbw
          have HSAME := Go.Lib.hid hsame
          have HWA := Go.Lib.hid hwa
          have HMM := Go.Lib.hid hmm
          clear hst hset hser hbw hsame hwa hmm
          clear hown hb
          go_wp2_with fail
          refine HSET.out.mono ?_; rintro e W2 ⟨a2, c2, rfl, hrr, hb2⟩
          have h2 := HSER.out _ _ _ hrr
          have hwa2 := HWA.out.below hb2 (Nat.le_refl _)
          have hbw2 := HBW.out.trans (hb2.mono HBW.out.size)
          have H2 := Go.Lib.hid h2
          have HWA2 := Go.Lib.hid hwa2
          have HBW2 := Go.Lib.hid hbw2
          clear h2 hwa2 hbw2
          clear hrr hb2 HSET HSER
          go_wp2_with fail
          refine H2.out.mono ?_; rintro e W3 ⟨v3, rfl, hs3, hb3⟩
          obtain ⟨a3, c3, rfl, _, _⟩ := SlC.slice hs3
          have h3 := HSAME.out _ _ _ _ _ hs3 (HWA2.out.below hb3 (Nat.le_refl _))
          have hbw3 := HBW2.out.trans (hb3.mono HBW2.out.size)
          have H3 := Go.Lib.hid h3
          have HBW3 := Go.Lib.hid hbw3
          clear h3 hbw3
          clear hs3 hb3 H2
          go_wp2_with fail
          refine H3.out.mono ?_; rintro e W6 ⟨rfl, hb6⟩
          have HB := Go.Lib.hid (HBW3.out.trans (hb6.mono HBW3.out.size))
          clear hb6 H3
          go_wp2_with fail
          refine (HAW.out _).mono ?_; rintro e W9 ⟨rfl, hb9⟩
          have hbz := HB.out.trans (hb9.mono HB.out.size)
          have HBZ := Go.Lib.hid hbz
          clear hbz
          clear hb9
          go_wp2_with fail
          go_ret
          exact ⟨rfl, HBZ.out⟩
theorem walk (da : Option Addr) (dl : List Int) (dc : Nat) (w : World) (hd : Ints w (.slice da dl.length dc) dl) (_ : ∀ x ∈ dl, Fits x) :
    Calls Try.prog 5 #[.slice da dl.length dc] w fun e w' => e = .returned (.bool true) ∧ Below w.heap.size w w' := by
  have haw := Go.Lib.hid awake_any
  by_cases hbad : 12 < dl.length
  · exact t1 da dl.length dc w (by omega) haw
  · exact t2 da dl dc w hd (by omega) haw

set_option maxRecDepth 100000 in
theorem lifted (os : Os) (started : os.Started) (H : Type) (enc : TypeId × Value → H) :
    ReturnsInHanded {} Try.checked os 5 .any (Rows.pickOrderSpec.pre6 enc Try.prog Try.f5 Rows.pickOrderRow.domain false) (Rows.pickOrderSpec.post enc Try.prog Try.f5 false true false false) := by
  refine returnsInHanded_of_change (C := Try.checked) own started (by kernel_rfl) Try.func5
    (ChangeSpec.witness6 (enc := enc) (C := Try.checked) false ⟨#[], #[.slice none 0 0], []⟩ 8 (by kernel_rfl) (by kernel_rfl) (by kernel_rfl) (by kernel_rfl)) ?_
  intro W base args ds gs before hval0 hW hcnd _
  have hval : ∀ (j : Nat) t v, Try.f5.params[j]? = some t → args[j]? = some v → Value.okWide Try.prog W .any base t v := hval0
  refine law_post enc 1 (by kernel_rfl) rfl rfl (by kernel_rfl) (fun ds h => match ds, h with | [_], _ => rfl) hW ?_
  obtain ⟨p, q, hA0, hV, rfl, _, _⟩ := hW
  have hA : DataW.TrodAll enc Try.prog W 0 (fun _ => true) true Try.f5.params.toList args.toList ds p := hA0
  rw [Try.params5] at hA hval
  obtain ⟨v0, vs0, d0, ds0, p0, q0, hargs, rfl, rfl, h0, r0⟩ := trodAll_cons hA
  obtain ⟨rfl, rfl, rfl⟩ := trodAll_nil r0
  obtain rfl : args = #[v0] := by cases args; simp_all
  obtain ⟨a0, z0, c0, rfl, w0, f0⟩ := open_Ints Try.underlying30 Try.underlying3 (by kernel_rfl) (hval 0 30 v0 rfl rfl) h0
  exact walk a0 z0 c0 W w0 f0

theorem over : Rows.pickOrderRow.holds Try.pinned (OpenSpec.ofChange Rows.pickOrderSpec) :=
  OpenClaim.holds_of_wide 5 Try.f5 rfl rfl rfl rfl rfl rfl rfl ⟨rfl, rfl, rfl, rfl, rfl⟩ rfl rfl rfl rfl rfl (by kernel_rfl) Try.func5 (by kernel_rfl)
    (of_decide_eq_true (by kernel_rfl)) (by unfold Func.isWrapper; first | (rw [if_pos (by decide +kernel)]; kernel_rfl) | (rw [if_neg (by decide +kernel)]; exact ⟨rfl, rfl⟩))
    (fun os started H enc _ => lifted os started H enc)

/-- the statement -/
theorem proved : Rows.PickOrderSaid := over
#print axioms proved
end Go.Proofs.Ytgbmclgnbbhcbaa.pickOrder
