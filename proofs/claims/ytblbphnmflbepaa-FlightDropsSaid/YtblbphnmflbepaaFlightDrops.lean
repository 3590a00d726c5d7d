/- FlightDrops: what is dropped is told, and matched no more; the others are as they were. For every input; no conditions. -/
import Derived.Test.YtblbphnmflbepaaFlO
import Derived.Test.YtblbphnmflbepaaBits
import Derived.Deep.OwnRows
import Derived.WalkSpells
namespace Go.Proofs.Ytblbphnmflbepaa.flightDrops
open Go.ChangeShapes Go.WideShapes Go.ChangeAt Go.RowKit
open Go.ChangeMaps (open_string shut_string)
set_option linter.unusedVariables false

def sD (i : Nat) : Sn := sentN i (100 + i) 9 7
def gA (A : List Bool) (i : Nat) : Option Sn := if A.getD i false then some (sD i) else none
theorem gA_true {A : List Bool} {i : Nat} (h : A.getD i false = true) : gA A i = some (sD i) := by unfold gA; rw [h]; rfl
theorem gA_false {A : List Bool} {i : Nat} (h : A.getD i false = false) : gA A i = none := by unfold gA; rw [h]; rfl
theorem gA_jobs (A : List Bool) : Jobs (gA A) := fun k s h => by
  unfold gA at h
  split at h
  · cases h; rfl
  · cases h
theorem gA_set {A : List Bool} {k : Nat} (hk : k < A.length) (x : Bool) : gA (A.set k x) = upd (gA A) k (if x then some (sD k) else none) := by
  funext j
  unfold gA upd
  by_cases h : j = k
  · subst h
    rw [if_pos rfl, getD_set_eq' A _ _ hk]
  · rw [if_neg h, getD_set_ne' A _ _ h]
def tr (N i : Nat) : List Bool := List.replicate i true ++ List.replicate (N - i) false
theorem tr_set {N i : Nat} (h : i < N) : (tr N i).set i true = tr N (i + 1) := by
  unfold tr
  obtain ⟨d, hd⟩ : ∃ d, N - i = d + 1 := ⟨N - i - 1, by omega⟩
  rw [List.set_append_right _ _ (by simp), hd, show N - (i + 1) = d by omega, List.length_replicate, Nat.sub_self, List.replicate_succ, List.set_cons_zero, List.replicate_succ', List.append_assoc]
  rfl
theorem tr_get {N i j : Nat} (h : i ≤ j) : (tr N i).getD j false = false := by
  unfold tr
  rw [List.getD_eq_getElem?_getD, List.getElem?_append_right (by simpa using h), List.getElem?_replicate]
  split <;> rfl
theorem tr_len {N i : Nat} (h : i ≤ N) : (tr N i).length = N := by simp [tr]; omega
theorem LF_none (N : Nat) : LF N (gA (tr N 0)) = [] := by
  unfold LF
  refine List.eq_nil_iff_forall_not_mem.2 fun s hs => ?_
  obtain ⟨k, _, h2, h3⟩ := mem_part hs
  rw [gA_false (tr_get (Nat.zero_le _))] at h3
  cases h3
theorem LF_tr {N k : Nat} (h : k < N) (hl : (LF N (gA (tr N k))).length = k) : addN (N : Int) (LF N (gA (tr N k))) (sD k) = (LF N (gA (tr N (k + 1))), 0) ∧ (LF N (gA (tr N (k + 1)))).length = k + 1 := by
  have hg : gA (tr N k) k = none := gA_false (tr_get (Nat.le_refl _))
  have hs := gA_set (A := tr N k) (by rw [tr_len (by omega)]; exact h) true
  rw [tr_set h] at hs
  rw [LF_add_none (gA_jobs _) h hg rfl, hl, if_neg (by omega), hs]
  exact ⟨rfl, by rw [if_pos rfl, LF_len_none h hg, hl]⟩
/-- a row of truths -/
def Bls (w : World) (g : Nat) (A : List Bool) : Prop := w.heap[g]? = some (.cells (A.map Value.bool).toArray 4 (0, 0))
theorem Bls.cell {w : World} {g : Nat} {A : List Bool} (h : Bls w g A) {k : Nat} (hk : k < A.length) : w.cell? ⟨g, k, none⟩ = some (.bool (A.getD k false)) := by
  unfold Bls at h
  simp [World.cell?, h, List.getD_eq_getElem?_getD, hk]
theorem Bls.frozen {w : World} {g : Nat} {A : List Bool} (h : Bls w g A) (k : Nat) : w.frozen? ⟨g, k, none⟩ = false := frozen_row h k
theorem Bls.set {w : World} {g : Nat} {A : List Bool} (h : Bls w g A) (k : Nat) (x : Bool) : Bls (w.setCell ⟨g, k, none⟩ (.bool x)) g (A.set k x) := by
  have e := setCell_eq_setRow w g k _ _ (0, 0) (.bool x) h
  unfold Bls
  rw [e, heap_row h]
  simp [List.map_set]
theorem Bls.below {w w' : World} {g : Nat} {A : List Bool} (h : Bls w g A) (hb : Below w.heap.size w w') : Bls w' g A := (hb.block g (Array.getElem?_eq_some_iff.1 h).1).trans h
theorem Bls.keeps {w w' : World} {g base b : Nat} {most : Int} {l : List Sn} {A : List Bool} (h : Bls w g A) (hk : KeepsT b w w') (hT : IsTab base b most l w) (hg : g ≠ b) : Bls w' g A := hk.ty hT hg (by decide) h
theorem tab_bls {w : World} {g base b : Nat} {most : Int} {l : List Sn} {A : List Bool} (hT : IsTab base b most l w) (h : Bls w g A) (hg : g ≠ b) (k : Nat) (x : Bool) : IsTab base b most l (w.setCell ⟨g, k, none⟩ (.bool x)) := by
  have e := setCell_eq_setRow w g k _ _ (0, 0) (.bool x) h
  rw [e]
  obtain ⟨h0, v, h1, h2⟩ := hT
  have hne : v.ownBlock ≠ some g := own_ne h2 h (by decide)
  refine ⟨h0, v, (setRow_other _ _ _ _ (Ne.symm hg)).trans h1, h2.kept (row := some g) ⟨rfl, rfl, rfl, by rw [setRow_size]; exact Nat.le_refl _, fun k hk hn => setRow_other _ _ _ _ (fun e => hn (by rw [e]))⟩ (.inr hne)⟩
theorem made_bls (N : Nat) : madeCells #[.bool false] N = ((tr N 0).map Value.bool).toArray := by
  apply Array.ext_getElem?
  intro i
  simp [madeCells, tr, Array.getElem?_range, Nat.mod_one]
  split <;> simp_all
theorem bool_info : (Try.prog.info? 4).map (fun i => (i.zero, i.size, i.bytes)) = some (some (.bool false), 1, 1) := by kernel_rfl
/-- the answer of i's -/
def mD (i : Nat) : Msg := replyN (askN (100 + (i : Int)) ⟨[1, 97, 0], 1, 1⟩) 0 [] []
theorem same_a : Nm.sameN [1, 97, 0] [1, 97, 0] = true := by decide +kernel
theorem hit_iff (i j : Nat) (hj : j < 60000) : hitN 7 9 (mD i) (sD j) = true ↔ j = i := by
  have e : bits .and .i64 (100 + (j : Int)) 65535 = 100 + j := by rw [and16]; omega
  have e2 : hitN 7 9 (mD i) (sD j) = ((100 + (i : Int)) == bits .and .i64 (100 + (j : Int)) 65535) := by
    simp [hitN, answersN, mD, replyN, askN, sD, sentN, same_a]
  rw [e2, e, beq_iff_eq]
  omega
theorem mat_eq {N i : Nat} {A : List Bool} (hi : i < N) (hA : A.length = N) (hN : N ≤ 12) : matchN 7 9 (mD i) (LF N (gA A)) = ((gA A i).getD s0, (gA A i).isSome) := by
  have h := LF_find (g := gA A) hi (f := hitN 7 9 (mD i)) (fun j s hs => by
    unfold gA at hs
    split at hs
    · rename_i hh
      cases hs
      refine hit_iff i j ?_
      rcases Nat.lt_or_ge j A.length with h | h
      · omega
      · rw [List.getD_eq_getElem?_getD, List.getElem?_eq_none h] at hh; cases hh
    · cases hs)
  cases hg : gA A i with
  | none => exact matchN_none (h.trans hg)
  | some s => exact matchN_some (h.trans hg)
theorem LF_ok (N : Nat) (A : List Bool) : SnOk (LF N (gA A)) := fun s hs => by
  obtain ⟨k, _, h⟩ := LF_mem hs
  unfold gA at h
  split at h
  · cases h; exact (by decide : (3 : Nat) ≤ maxLen)
  · cases h
theorem fld_sent0 (w : World) : (Instr.field 36 (snV (sentN 0 0 0 0)) 4).run Try.prog w = .ok (.agg #[.string (mk [1, 97, 0]), .int .i64 1, .int .i64 1]) w := by kernel_rfl

set_option maxRecDepth 100000 in
theorem t1 (n : Int) (da : Option Addr) (m dc : Nat) (w : World) (hbad : n < 1 ∨ (¬ n < 1 ∧ 12 < n) ∨ (¬ n < 1 ∧ ¬ 12 < n ∧ 20 < (m : Int)))
    (HAW : Hid (∀ W, Calls Try.prog 8 #[] W fun e w' => e = .returned (.bool true) ∧ Below W.heap.size W w')) :
    Calls Try.prog 6 #[.int .i64 n, .slice da m dc] w fun e w' => e = .returned (.bool true) ∧ Below w.heap.size w w' := by
  have HB := Go.Lib.hid (Below.refl w.heap.size w)
  rcases hbad with h1 | ⟨h1, h2⟩ | ⟨h1, h2, h3⟩
  · go_enter Try.func6, Try.ntmps6
    go_wp2_with fail
    refine (HAW.out _).mono ?_; rintro e wb1 ⟨rfl, hx⟩
    have hb := HB.out.trans (hx.mono HB.out.size)
    clear HB
    have HB := Go.Lib.hid hb
    clear hx hb
    go_wp2_with fail
    go_ret
    exact ⟨rfl, HB.out⟩
  · go_enter Try.func6, Try.ntmps6
    go_wp2_with fail
    refine (HAW.out _).mono ?_; rintro e wb2 ⟨rfl, hx⟩
    have hb := HB.out.trans (hx.mono HB.out.size)
    clear HB
    have HB := Go.Lib.hid hb
    clear hx hb
    go_wp2_with fail
    go_ret
    exact ⟨rfl, HB.out⟩
  · go_enter Try.func6, Try.ntmps6
    go_wp2_with fail
    refine (HAW.out _).mono ?_; rintro e wb3 ⟨rfl, hx⟩
    have hb := HB.out.trans (hx.mono HB.out.size)
    clear HB
    have HB := Go.Lib.hid hb
    clear hx hb
    go_wp2_with fail
    go_ret
    exact ⟨rfl, HB.out⟩

set_option maxRecDepth 100000 in
set_option maxHeartbeats 8000000 in
theorem t2 (N : Nat) (da : Option Addr) (dl : List Int) (dc : Nat) (w : World) (hN1 : 1 ≤ N) (hN : N ≤ 12) (hd : Ints w (.slice da dl.length dc) dl) (hdl : dl.length ≤ 20)
    (HAW : Hid (∀ W, Calls Try.prog 8 #[] W fun e w' => e = .returned (.bool true) ∧ Below W.heap.size W w')) :
    Calls Try.prog 6 #[.int .i64 N, .slice da dl.length dc] w fun e w' => e = .returned (.bool true) ∧ Below w.heap.size w w' := by
  have mixed : Try.prog.follows .mixedOrders = true := by kernel_rfl
  have hnew := New_any w.heap.size N w (Nat.le_refl _)
  rw [show max (N : Int) 0 = (N : Int) by omega] at hnew
  generalize hM : dl.length = M at *
  have g1 : ¬ (N : Int) < 1 := by omega
  have g2 : ¬ 12 < (N : Int) := by omega
  have g3 : ¬ 20 < (M : Int) := by omega
  have hmk : ∀ w, (Instr.makeSlice 67 (.int .i64 (N : Int)) (.int .i64 (N : Int))).run Try.prog w = .ok (.slice (some ⟨w.heap.size, 0, none⟩) N N) (w.alloc (.cells ((tr N 0).map Value.bool).toArray 4)) := fun w => by
    rw [← made_bls]
    exact run_make_row' 67 4 (.bool false) 1 Try.underlying67 bool_info rfl .i64 .i64 N (by omega) (by omega) w
  have HNEW := Go.Lib.hid hnew
  have HD := Go.Lib.hid hd
  have HM := Go.Lib.hid hM
  clear hnew hd hM
  go_enter Try.func6, Try.ntmps6
  go_wp2_with fail
  refine HNEW.out.mono ?_; rintro e w1 ⟨rfl, hT, hb, hlt⟩
  obtain ⟨X1, hX1⟩ : ∃ X, w1.alloc (.cells ((tr N 0).map Value.bool).toArray 4) = X := ⟨_, rfl⟩
  have hw1 : Below w1.heap.size w1 X1 := by rw [← hX1]; exact (Below.refl _ _).alloc (Nat.le_refl _) _
  have hbls : Bls X1 w1.heap.size (tr N 0) := by rw [← hX1]; exact heap_alloc_new _ _
  have hTX := hT.below hw1
  have hbX := hb.trans (hw1.mono hb.size)
  have hgb : w1.heap.size ≠ w.heap.size := by omega
  rw [← LF_none N] at hTX
  obtain ⟨g, hg⟩ : ∃ g, g = w1.heap.size := ⟨_, rfl⟩
  have HT1 := Go.Lib.hid hTX
  have HB1 := Go.Lib.hid hbX
  have HBL := Go.Lib.hid hbls
  clear hTX hbX hbls
  clear HNEW g1 g2 g3 hT hb hw1
  go_wp2_with fail
  clear hmk hX1
  rw [← hg] at HBL hgb ⊢
  have hgn : w.heap.size ≤ g := by omega
  clear hg hlt
  have HGB := Go.Lib.hid hgb
  have HGN := Go.Lib.hid hgn
  clear hgb hgn
  go_loopw [8] (fun i wr => ∃ k : Nat, i = .int .i64 k ∧ k ≤ N ∧ IsTab w.heap.size w.heap.size N (LF N (gA (tr N k))) wr ∧ Bls wr g (tr N k) ∧ (LF N (gA (tr N k))).length = k ∧ Below w.heap.size w wr) (fun i _ => N - (intOf i).toNat)
  case atStart => exact ⟨0, rfl, Nat.zero_le _, HT1.out, HBL.out, by rw [LF_none]; rfl, HB1.out⟩
  case round =>
    obtain ⟨k, rfl, hk, hT, hbl, hlen, hbr⟩ := hrel
    generalize wr = wk at *
    clear HT1 HBL HB1
    by_cases hlt : k < N
    · obtain ⟨hadd0, hlen1⟩ := LF_tr hlt hlen
      have hw100 : IntKind.i64.wrap (100 + (k : Int)) = 100 + k := wrapi (by omega) (by omega)
      have HT := Go.Lib.hid hT
      have HBL := Go.Lib.hid hbl
      have HB := Go.Lib.hid hbr
      have HLEN := Go.Lib.hid hlen
      have HLEN1 := Go.Lib.hid hlen1
      clear hT hbl hbr hlen hlen1
      go_wp2_with fail
      refine (sent_any k (100 + k) 9 7 wk).mono ?_; rintro e wa ⟨rfl, hx⟩
      have hTa := HT.out.below hx
      have hba := HB.out.trans (hx.mono HB.out.size)
      have hbla := HBL.out.below hx
      have hadd := Add_any w.heap.size w.heap.size N (LF N (gA (tr N k))) (sD k) wa hTa (LF_up (gA_jobs _) N) (by have := LF_length N (gA (tr N k)); omega) hba.size
      rw [hadd0] at hadd
      unfold sD at hadd
      have HTA := Go.Lib.hid hTa
      have HBA := Go.Lib.hid hba
      have HBLA := Go.Lib.hid hbla
      have HADD := Go.Lib.hid hadd
      clear hTa hba hbla hadd
      clear hx HT HB HBL hadd0
      go_wp2_with fail
      refine HADD.out.mono ?_; rintro e wb ⟨rfl, hTb, hx, hkb⟩
      have hbb := HBA.out.trans hx
      have hblb := HBLA.out.keeps hkb HTA.out HGB.out
      have hcell := hblb.cell (k := k) (by rw [tr_len hk]; exact hlt)
      have hfr := hblb.frozen k
      have hblc := hblb.set k true
      rw [tr_set hlt] at hblc
      have hTc := tab_bls hTb hblb HGB.out k true
      have hbc := hbb.setCell (p := ⟨g, k, none⟩) HGN.out (.bool true)
      have HBLC := Go.Lib.hid hblc
      have HTC := Go.Lib.hid hTc
      have HBC := Go.Lib.hid hbc
      clear hblc hTc hbc
      clear hx hTb hkb hbb hblb HTA HBA HBLA HADD
      go_wp2_with fail
      go_roundw
      case rel => exact ⟨k + 1, by go_num, by omega, HTC.out, HBLC.out, HLEN1.out, HBC.out⟩
      case measure => simp [intOf]; omega
    · obtain rfl : k = N := by omega
      have HT := Go.Lib.hid hT
      have HBL := Go.Lib.hid hbl
      have HB := Go.Lib.hid hbr
      have HLEN := Go.Lib.hid hlen
      clear hT hbl hbr hlen
      go_wp2_with fail
      go_loopw [7, 9] (fun lf i wq => ∃ (j n : Nat) (A : List Bool), i = .int .i64 j ∧ j ≤ M ∧ lf = .int .i64 n ∧ A.length = k ∧ IsTab w.heap.size w.heap.size k (LF k (gA A)) wq ∧ Bls wq g A ∧ (LF k (gA A)).length = n ∧ Below w.heap.size w wq) (fun _ i _ => M - (intOf i).toNat)
      case atStart => exact ⟨0, k, tr k k, rfl, Nat.zero_le _, rfl, tr_len (Nat.le_refl _), HT.out, HBL.out, HLEN.out, HB.out⟩
      case round =>
        obtain ⟨j, n, A, rfl, hj, rfl, hAl, hT, hbl, hlen, hbr⟩ := hrel
        generalize wr = wq at *
        clear HT HBL HB HLEN
        have HT := Go.Lib.hid hT
        have HBL := Go.Lib.hid hbl
        have HB := Go.Lib.hid hbr
        have HLEN := Go.Lib.hid hlen
        have HAL := Go.Lib.hid hAl
        clear hT hbl hbr hlen hAl
        by_cases hlt2 : j < M
        · obtain ⟨b0, off, rfl, hbw, hcell⟩ := Ints.at (HD.out.below HB.out (Nat.le_refl _)) (by rw [HM.out]; omega)
          have f0 := hcell j (by rw [HM.out]; exact hlt2)
          obtain ⟨q, hq, hqk⟩ : ∃ q : Nat, dl.getD j 0 % (k : Int) = (q : Int) ∧ q < k := by
            have hk0 : (k : Int) ≠ 0 := by omega
            have hp1 := Int.emod_nonneg (dl.getD j 0) hk0
            have hp2 := Int.emod_lt_of_pos (dl.getD j 0) (by omega : (0 : Int) < (k : Int))
            exact ⟨(dl.getD j 0 % (k : Int)).toNat, by omega, by omega⟩
          have hround := fun W => Round_any (dl.getD j 0) k W (by omega) (by omega)
          rw [hq] at hround
          generalize dl.getD j 0 = dj at *
          have HROUND := Go.Lib.hid hround
          clear hround
          clear hcell hq
          go_wp2_with fail
          refine (HROUND.out _).mono ?_; rintro e _ ⟨rfl, rfl⟩
          have hdrop := Drop_any w.heap.size w.heap.size k (LF k (gA A)) q wq HT.out (LF_up (gA_jobs _) k) (by have := LF_length k (gA A); omega) HB.out.size
          clear f0 HROUND
          cases hA : A.getD q false with
          | true =>
            rw [LF_drop_some (gA_jobs _) hqk (gA_true hA)] at hdrop
            have hset := gA_set (A := A) (k := q) (by rw [HAL.out]; exact hqk) false
            rw [if_neg (by decide)] at hset
            rw [← hset] at hdrop
            have hlen2 := LF_len_drop (g := gA A) hqk (gA_true hA)
            rw [← hset, HLEN.out] at hlen2
            have HDROP := Go.Lib.hid hdrop
            have HLEN2 := Go.Lib.hid hlen2
            clear hdrop hlen2
            clear hset
            go_wp2_with fail
            refine HDROP.out.mono ?_; rintro e wd ⟨rfl, hTd, hbd, hkd⟩
            have hbd := HB.out.trans hbd
            have hbld := HBL.out.keeps hkd HT.out HGB.out
            obtain ⟨X, hX⟩ : ∃ X, wd.alloc (.cells #[.int .i64 (sD q).job, .int .i64 (sD q).id, .int .i64 (sD q).port, .string (mk (sD q).sn), .int .i64 (sD q).sa, .string (mk (sD q).qn), .int .i64 (sD q).qt, .int .i64 (sD q).qc, .string (mk (sD q).zone)] 36) = X := ⟨_, rfl⟩
            have hwX : Below wd.heap.size wd X := by rw [← hX]; exact (Below.refl _ _).alloc (Nat.le_refl _) _
            have hXh : X.heap[wd.heap.size]? = some (.cells (snA (sD q)) 36 (0, 0)) := by rw [← hX]; exact heap_alloc_new _ _
            have hTX := hTd.below hwX
            have hblX := hbld.below hwX
            have hbX := hbd.trans (hwX.mono hbd.size)
            have hlX := (Array.getElem?_eq_some_iff.1 hXh).1
            obtain ⟨e0, e1, e2, e3, e4, e5, e6, e7, e8⟩ := SnBlk.of_heap hXh
            have c0 := BelowC.cell (W := X) e0 hlX
            have c1 := BelowC.cell (W := X) e1 hlX
            have c2 := BelowC.cell (W := X) e2 hlX
            have c3 := BelowC.cell (W := X) e3 hlX
            have c4 := BelowC.cell (W := X) e4 hlX
            have c5 := BelowC.cell (W := X) e5 hlX
            have c6 := BelowC.cell (W := X) e6 hlX
            have c7 := BelowC.cell (W := X) e7 hlX
            have c8 := BelowC.cell (W := X) e8 hlX
            have cg := hblX.cell (k := q) (by rw [HAL.out]; exact hqk)
            rw [hA] at cg
            have cgX := BelowC.cell (W := X) cg (Array.getElem?_eq_some_iff.1 hblX).1
            have hne : Nonempty (Subtype (Below X.heap.size X)) := ⟨⟨X, Below.refl _ _⟩⟩
            have hw100 : IntKind.i64.wrap (100 + (q : Int)) = 100 + q := wrapi (by omega) (by omega)
            have HTX := Go.Lib.hid hTX
            have HBLX := Go.Lib.hid hblX
            have HBX := Go.Lib.hid hbX
            clear hTX hblX hbX
            have hsent : ∀ W : World, Calls Try.prog 20 #[.int .i64 q, .int .i64 (100 + q), .int .i64 9, .int .i64 7] W fun e w' => e = .returned (snV (sD q)) ∧ Below W.heap.size W w' := fun W => sent_any q (100 + q) 9 7 W
            have HSENT := Go.Lib.hid hsent
            clear hsent
            clear hTd hbd hkd hbld hwX hXh HDROP HT HBL HB e0 e1 e2 e3 e4 e5 e6 e7 e8 cg
            go_wp2_with fail
            clear hX
            refine Go.Mix.wp_region_mixT (Es := [17]) 20 (Below X.heap.size X) mixed (by kernel_rfl) (Below.refl _ _).drew ?_
            iterate 17 (refine Go.Mix.mixT_step rfl (fun K hK => ?_); have HKK := Go.Lib.hid hK; clear hK; go_simp; refine HKK.out _ _ ?_; clear HKK K)
            refine Go.Mix.mixT_eff rfl (fun K hK => ?_)
            have HKK := Go.Lib.hid hK
            clear hK
            go_simp
            refine (HSENT.out _).mono ?_; rintro e wf ⟨rfl, hx⟩
            have hbf : Below X.heap.size X wf := ((Below.refl X.heap.size X).drew).trans hx
            have HBF := Go.Lib.hid hbf
            clear hbf
            clear hx
            go_simp
            refine HKK.out _ _ HBF.out ?_
            clear HKK K
            iterate 2 (refine Go.Mix.mixT_step rfl (fun K hK => ?_); have HKK := Go.Lib.hid hK; clear hK; go_simp; refine HKK.out _ _ ?_; clear HKK K)
            refine Go.Mix.mixT_last rfl (fun K hK => ?_)
            have HKK := Go.Lib.hid hK
            clear hK
            go_simp
            refine HKK.out _ _ ?_
            clear HKK K c0 c1 c2 c3 c4 c5 c6 c7 c8 cgX hne
            have hTf := HTX.out.below HBF.out
            have hblf := HBLX.out.below HBF.out
            have hbf := HBX.out.trans (HBF.out.mono HBX.out.size)
            have cg := hblf.cell (k := q) (by rw [HAL.out]; exact hqk)
            rw [hA] at cg
            have cf := hblf.frozen q
            have hn1 : IntKind.i64.wrap ((n : Int) - 1) = (n : Int) - 1 := wrapi (by have := HLEN2.out; omega) (by have := HLEN2.out; have := LF_length k (gA (A.set q false)); omega)
            have hbls := hblf.set q false
            have hTs := tab_bls hTf hblf HGB.out q false
            have hbs := hbf.setCell (p := ⟨g, q, none⟩) HGN.out (.bool false)
            have HBLS := Go.Lib.hid hbls
            have HTS := Go.Lib.hid hTs
            have HBS := Go.Lib.hid hbs
            clear hbls hTs hbs
            clear hTf hblf hbf HTX HBLX HBX HBF
            go_wp2_with fail
            go_roundw
            case rel => exact ⟨j + 1, n - 1, A.set q false, by go_num, by omega, by have := HLEN2.out; go_num, by rw [List.length_set]; exact HAL.out, HTS.out, HBLS.out, by have := HLEN2.out; omega, HBS.out⟩
            case measure => simp [intOf]; omega
          | false =>
            rw [LF_drop_none (gA_jobs _) hqk (gA_false hA)] at hdrop
            have HDROP := Go.Lib.hid hdrop
            clear hdrop
            go_wp2_with fail
            refine HDROP.out.mono ?_; rintro e wd ⟨rfl, hTd, hbd, hkd⟩
            have hbd := HB.out.trans hbd
            have hbld := HBL.out.keeps hkd HT.out HGB.out
            obtain ⟨X, hX⟩ : ∃ X, wd.alloc (.cells #[.int .i64 s0.job, .int .i64 s0.id, .int .i64 s0.port, .string (mk s0.sn), .int .i64 s0.sa, .string (mk s0.qn), .int .i64 s0.qt, .int .i64 s0.qc, .string (mk s0.zone)] 36) = X := ⟨_, rfl⟩
            have hwX : Below wd.heap.size wd X := by rw [← hX]; exact (Below.refl _ _).alloc (Nat.le_refl _) _
            have hTX := hTd.below hwX
            have hblX := hbld.below hwX
            have hbX := hbd.trans (hwX.mono hbd.size)
            have cg := hblX.cell (k := q) (by rw [HAL.out]; exact hqk)
            rw [hA] at cg
            have cgX := BelowC.cell (W := X) cg (Array.getElem?_eq_some_iff.1 hblX).1
            have hne : Nonempty (Subtype (Below X.heap.size X)) := ⟨⟨X, Below.refl _ _⟩⟩
            have HTX := Go.Lib.hid hTX
            have HBLX := Go.Lib.hid hblX
            have HBX := Go.Lib.hid hbX
            clear hTX hblX hbX
            clear hTd hbd hkd hbld hwX HDROP HT HBL HB cg
            go_wp2_with fail
            clear hX
            refine Go.Mix.wp_region_mixT (Es := [17]) 20 (Below X.heap.size X) mixed (by kernel_rfl) (Below.refl _ _).drew ?_
            iterate 17 (refine Go.Mix.mixT_step rfl (fun K hK => ?_); have HKK := Go.Lib.hid hK; clear hK; go_simp; refine HKK.out _ _ ?_; clear HKK K)
            refine Go.Mix.mixT_eff rfl (fun K hK => ?_)
            have HKK := Go.Lib.hid hK
            clear hK
            go_simp
            refine HKK.out _ _ (Below.refl _ _).drew ?_
            clear HKK K
            iterate 2 (refine Go.Mix.mixT_step rfl (fun K hK => ?_); have HKK := Go.Lib.hid hK; clear hK; go_simp; refine HKK.out _ _ ?_; clear HKK K)
            refine Go.Mix.mixT_last rfl (fun K hK => ?_)
            have HKK := Go.Lib.hid hK
            clear hK
            go_simp
            refine HKK.out _ _ ?_
            clear HKK K cgX hne
            have hTf := HTX.out.drew
            have hblf : Bls X.drew g A := HBLX.out
            have hbf := HBX.out.drew
            have cg := hblf.cell (k := q) (by rw [HAL.out]; exact hqk)
            rw [hA] at cg
            have cf := hblf.frozen q
            have hbls := hblf.set q false
            have hAA : A.set q false = A := by
              apply List.ext_getElem?
              intro t
              rw [List.getElem?_set]
              split
              · rename_i e
                subst e
                have hq2 : q < A.length := by rw [HAL.out]; exact hqk
                rw [if_pos hq2]
                rw [List.getD_eq_getElem?_getD, List.getElem?_eq_getElem hq2] at hA
                rw [List.getElem?_eq_getElem hq2]
                simpa using hA.symm
              · rfl
            rw [hAA] at hbls
            have hTs := tab_bls hTf hblf HGB.out q false
            have hbs := hbf.setCell (p := ⟨g, q, none⟩) HGN.out (.bool false)
            have HBLS := Go.Lib.hid hbls
            have HTS := Go.Lib.hid hTs
            have HBS := Go.Lib.hid hbs
            clear hbls hTs hbs
            clear hTf hblf hbf HTX HBLX HBX hAA
            go_wp2_with fail
            go_roundw
            case rel => exact ⟨j + 1, n, A, by go_num, by omega, rfl, HAL.out, HTS.out, HBLS.out, HLEN.out, HBS.out⟩
            case measure => simp [intOf]; omega
        · obtain rfl : j = M := by omega
          go_wp2_with fail
          go_loopw [13] (fun i wq => ∃ p : Nat, i = .int .i64 p ∧ p ≤ k ∧ IsTab w.heap.size w.heap.size k (LF k (gA A)) wq ∧ Bls wq g A ∧ Below w.heap.size w wq) (fun i _ => k - (intOf i).toNat)
          case atStart => exact ⟨0, rfl, Nat.zero_le _, HT.out, HBL.out, HB.out⟩
          case round =>
            obtain ⟨p, rfl, hp, hT, hbl, hbr⟩ := hrel
            generalize wr = wp at *
            clear HT HBL HB
            have HT := Go.Lib.hid hT
            have HBL := Go.Lib.hid hbl
            have HB := Go.Lib.hid hbr
            clear hT hbl hbr
            by_cases hlt3 : p < k
            · have hof := Of_any w.heap.size w.heap.size k (LF k (gA A)) p wp HT.out (LF_up (gA_jobs _) k) (by have := LF_length k (gA A); omega)
              rw [LF_of (gA_jobs _) hlt3] at hof
              have hw100 : IntKind.i64.wrap (100 + (p : Int)) = 100 + p := wrapi (by omega) (by omega)
              have hb100 : bits .and .i64 (100 + (p : Int)) 65535 = 100 + p := by rw [and16]; omega
              have hask := fun W => refAsk_any (100 + (p : Int)) ⟨[1, 97, 0], 1, 1⟩ W
              rw [hb100] at hask
              have hmat := mat_eq (i := p) hlt3 HAL.out hN
              have hqn : ∀ x ∈ (mD p).qs, x.name.length ≤ maxLen := fun x hx => by
                obtain rfl : x = ⟨[1, 97, 0], 1, 1⟩ := by simpa [mD, replyN, askN] using hx
                exact (by decide : (3 : Nat) ≤ maxLen)
              have hjp : ((sD p).job != (p : Int)) = false := by simp [sD, sentN]
              have HASK := Go.Lib.hid hask
              clear hask
              clear hb100
              cases hA : A.getD p false with
              | true =>
                have hga : gA A p = some (sD p) := gA_true hA
                rw [hga] at hof hmat
                simp only [Option.getD, Option.isSome] at hof hmat
                have HOF := Go.Lib.hid hof
                have HMAT := Go.Lib.hid hmat
                clear hof hmat
                go_wp2_with fail
                refine HOF.out.mono ?_; rintro e wa ⟨rfl, hx⟩
                obtain ⟨Y, hY⟩ : ∃ Y, wa.alloc (.cells #[.int .i64 (sD p).job, .int .i64 (sD p).id, .int .i64 (sD p).port, .string (mk (sD p).sn), .int .i64 (sD p).sa, .string (mk (sD p).qn), .int .i64 (sD p).qt, .int .i64 (sD p).qc, .string (mk (sD p).zone)] 36) = Y := ⟨_, rfl⟩
                have hwY : Below wa.heap.size wa Y := by rw [← hY]; exact (Below.refl _ _).alloc (Nat.le_refl _) _
                have hYh : Y.heap[wa.heap.size]? = some (.cells (snA (sD p)) 36 (0, 0)) := by rw [← hY]; exact heap_alloc_new _ _
                have hpY := hx.trans (hwY.mono hx.size)
                have hfld := fld_sent0
                have HYH := Go.Lib.hid hYh
                have HPY := Go.Lib.hid hpY
                clear hYh hpY
                clear hx hwY HOF
                go_wp2_with fail
                refine (sent_any 0 0 0 0 Y).mono ?_; rintro e wb ⟨rfl, hx⟩
                have hb1 : Below Y.heap.size Y wb := hx
                have HY1 := Go.Lib.hid hb1
                clear hb1
                clear hx
                go_wp2_with fail
                refine (HASK.out _).mono ?_; rintro e wc ⟨f1, f2, f3, f4, rfl, htm, hx⟩
                have hb1 := HY1.out.trans (hx.mono HY1.out.size)
                have hrep : Calls Try.prog 22 #[MV (askN (100 + (p : Int)) ⟨[1, 97, 0], 1, 1⟩) f1 f2 f3 f4, .int .i64 0, .slice none 0 0, .slice none 0 0] wc (RetM wc (mD p)) := refReply_any (askN (100 + (p : Int)) ⟨[1, 97, 0], 1, 1⟩) f1 f2 f3 f4 0 (.slice none 0 0) (.slice none 0 0) [] [] wc htm.lies (SlC.nil _ _) (SlC.nil _ _) (by simp [askN]) (by simp) (by simp)
                have HY2 := Go.Lib.hid hb1
                have HREP := Go.Lib.hid hrep
                clear hb1 hrep
                clear hx HY1 HASK htm hfld
                go_wp2_with fail
                refine HREP.out.mono ?_; rintro e wd ⟨f5, f6, f7, f8, rfl, htm, hx⟩
                have hb1 := HY2.out.trans (hx.mono HY2.out.size)
                have HQN := Go.Lib.hid hqn
                clear hqn
                generalize mD p = mR at *
                have hml := htm.lies
                obtain ⟨aq, cq, rfl, _, _⟩ := hml.qs.slice
                obtain ⟨aa, ca, rfl, _, _⟩ := hml.an.slice
                obtain ⟨asv, cs, rfl, _, _⟩ := hml.sv.slice
                obtain ⟨ad, cd, rfl, _, _⟩ := hml.ad.slice
                obtain ⟨X, hX⟩ : ∃ X, wd.alloc (.cells #[.int .i64 mR.id, .bool mR.resp, .int .i64 mR.op, .bool mR.auth, .bool mR.cut, .bool mR.des, .bool mR.avail, .int .i64 mR.code, .slice aq mR.qs.length cq, .slice aa mR.an.length ca, .slice asv mR.sv.length cs, .slice ad mR.ad.length cd, .bool mR.edns, .int .i64 mR.size] 40) = X := ⟨_, rfl⟩
                have hwX : Below wd.heap.size wd X := by rw [← hX]; exact (Below.refl _ _).alloc (Nat.le_refl _) _
                have hXh : X.heap[wd.heap.size]? = some (.cells (MC mR (.slice aq mR.qs.length cq) (.slice aa mR.an.length ca) (.slice asv mR.sv.length cs) (.slice ad mR.ad.length cd)) 40 (0, 0)) := by rw [← hX]; exact heap_alloc_new _ _
                have m0 := cells_later hXh 0 _ rfl
                have m1 := cells_later hXh 1 _ rfl
                have m2 := cells_later hXh 2 _ rfl
                have m3 := cells_later hXh 3 _ rfl
                have m4 := cells_later hXh 4 _ rfl
                have m5 := cells_later hXh 5 _ rfl
                have m6 := cells_later hXh 6 _ rfl
                have m7 := cells_later hXh 7 _ rfl
                have m8 := cells_later hXh 8 _ rfl
                have m9 := cells_later hXh 9 _ rfl
                have m10 := cells_later hXh 10 _ rfl
                have m11 := cells_later hXh 11 _ rfl
                have m12 := cells_later hXh 12 _ rfl
                have m13 := cells_later hXh 13 _ rfl
                have hYX := hb1.trans (hwX.mono hb1.size)
                have hmX := hml.below hwX (Nat.le_refl _)
                have hXX : Below X.heap.size X X := Below.refl _ _
                have hpX := HPY.out.trans (hYX.mono HPY.out.size)
                have hm1 := Match_any w.heap.size w.heap.size k (LF k (gA A)) 7 9 mR _ _ _ _ X (HT.out.below hpX) (by have := LF_length k (gA A); omega) hmX HQN.out (LF_ok k A)
                rw [HMAT.out] at hm1
                have HM1 := Go.Lib.hid hm1
                have HYX := Go.Lib.hid hYX
                have HPX := Go.Lib.hid hpX
                clear hm1 hYX hpX
                clear hx HREP htm hml hwX hb1 HMAT hmX hXh HY2
                go_wp2_with fail
                refine HM1.out.mono ?_; rintro e we ⟨rfl, hx⟩
                obtain ⟨Z, hZ⟩ : ∃ Z, we.alloc (.cells #[.int .i64 (sD p).job, .int .i64 (sD p).id, .int .i64 (sD p).port, .string (mk (sD p).sn), .int .i64 (sD p).sa, .string (mk (sD p).qn), .int .i64 (sD p).qt, .int .i64 (sD p).qc, .string (mk (sD p).zone)] 36) = Z := ⟨_, rfl⟩
                have hwZ : Below we.heap.size we Z := by rw [← hZ]; exact (Below.refl _ _).alloc (Nat.le_refl _) _
                have hZh : Z.heap[we.heap.size]? = some (.cells (snA (sD p)) 36 (0, 0)) := by rw [← hZ]; exact heap_alloc_new _ _
                have hXZ := hx.trans (hwZ.mono hx.size)
                have hYZ := HYX.out.trans (hXZ.mono HYX.out.size)
                have hpZ := HPX.out.trans (hXZ.mono HPX.out.size)
                have e14 := cells_later HYH.out 0 _ rfl Z hYZ
                have e17 := (SnBlk.of_heap hZh).e0
                have hTZ := HT.out.below hpZ
                have hblZ := HBL.out.below hpZ
                have hbZ := HB.out.trans (hpZ.mono HB.out.size)
                have cg := hblZ.cell (k := p) (by rw [HAL.out]; exact hlt3)
                rw [hA] at cg
                have HTZ := Go.Lib.hid hTZ
                have HBLZ := Go.Lib.hid hblZ
                have HBZ := Go.Lib.hid hbZ
                clear hTZ hblZ hbZ
                clear hx hwZ hZh hXZ hYZ hpZ HM1 hX hXX hY m0 m1 m2 m3 m4 m5 m6 m7 m8 m9 m10 m11 m12 m13
                go_wp2_with fail
                go_roundw
                case rel => exact ⟨p + 1, by go_num, by omega, HTZ.out, HBLZ.out, HBZ.out⟩
                case measure => simp [intOf]; omega
              | false =>
                have hga : gA A p = none := gA_false hA
                rw [hga] at hof hmat
                simp only [Option.getD, Option.isSome] at hof hmat
                have HOF := Go.Lib.hid hof
                have HMAT := Go.Lib.hid hmat
                clear hof hmat
                go_wp2_with fail
                refine HOF.out.mono ?_; rintro e wa ⟨rfl, hx⟩
                obtain ⟨Y, hY⟩ : ∃ Y, wa.alloc (.cells #[.int .i64 s0.job, .int .i64 s0.id, .int .i64 s0.port, .string (mk s0.sn), .int .i64 s0.sa, .string (mk s0.qn), .int .i64 s0.qt, .int .i64 s0.qc, .string (mk s0.zone)] 36) = Y := ⟨_, rfl⟩
                have hwY : Below wa.heap.size wa Y := by rw [← hY]; exact (Below.refl _ _).alloc (Nat.le_refl _) _
                have hYh : Y.heap[wa.heap.size]? = some (.cells (snA s0) 36 (0, 0)) := by rw [← hY]; exact heap_alloc_new _ _
                have hpY := hx.trans (hwY.mono hx.size)
                have hfld := fld_sent0
                have HYH := Go.Lib.hid hYh
                have HPY := Go.Lib.hid hpY
                clear hYh hpY
                clear hx hwY HOF
                go_wp2_with fail
                refine (sent_any 0 0 0 0 Y).mono ?_; rintro e wb ⟨rfl, hx⟩
                have hb1 : Below Y.heap.size Y wb := hx
                have HY1 := Go.Lib.hid hb1
                clear hb1
                clear hx
                go_wp2_with fail
                refine (HASK.out _).mono ?_; rintro e wc ⟨f1, f2, f3, f4, rfl, htm, hx⟩
                have hb1 := HY1.out.trans (hx.mono HY1.out.size)
                have hrep : Calls Try.prog 22 #[MV (askN (100 + (p : Int)) ⟨[1, 97, 0], 1, 1⟩) f1 f2 f3 f4, .int .i64 0, .slice none 0 0, .slice none 0 0] wc (RetM wc (mD p)) := refReply_any (askN (100 + (p : Int)) ⟨[1, 97, 0], 1, 1⟩) f1 f2 f3 f4 0 (.slice none 0 0) (.slice none 0 0) [] [] wc htm.lies (SlC.nil _ _) (SlC.nil _ _) (by simp [askN]) (by simp) (by simp)
                have HY2 := Go.Lib.hid hb1
                have HREP := Go.Lib.hid hrep
                clear hb1 hrep
                clear hx HY1 HASK htm hfld
                go_wp2_with fail
                refine HREP.out.mono ?_; rintro e wd ⟨f5, f6, f7, f8, rfl, htm, hx⟩
                have hb1 := HY2.out.trans (hx.mono HY2.out.size)
                have HQN := Go.Lib.hid hqn
                clear hqn
                generalize mD p = mR at *
                have hml := htm.lies
                obtain ⟨aq, cq, rfl, _, _⟩ := hml.qs.slice
                obtain ⟨aa, ca, rfl, _, _⟩ := hml.an.slice
                obtain ⟨asv, cs, rfl, _, _⟩ := hml.sv.slice
                obtain ⟨ad, cd, rfl, _, _⟩ := hml.ad.slice
                obtain ⟨X, hX⟩ : ∃ X, wd.alloc (.cells #[.int .i64 mR.id, .bool mR.resp, .int .i64 mR.op, .bool mR.auth, .bool mR.cut, .bool mR.des, .bool mR.avail, .int .i64 mR.code, .slice aq mR.qs.length cq, .slice aa mR.an.length ca, .slice asv mR.sv.length cs, .slice ad mR.ad.length cd, .bool mR.edns, .int .i64 mR.size] 40) = X := ⟨_, rfl⟩
                have hwX : Below wd.heap.size wd X := by rw [← hX]; exact (Below.refl _ _).alloc (Nat.le_refl _) _
                have hXh : X.heap[wd.heap.size]? = some (.cells (MC mR (.slice aq mR.qs.length cq) (.slice aa mR.an.length ca) (.slice asv mR.sv.length cs) (.slice ad mR.ad.length cd)) 40 (0, 0)) := by rw [← hX]; exact heap_alloc_new _ _
                have m0 := cells_later hXh 0 _ rfl
                have m1 := cells_later hXh 1 _ rfl
                have m2 := cells_later hXh 2 _ rfl
                have m3 := cells_later hXh 3 _ rfl
                have m4 := cells_later hXh 4 _ rfl
                have m5 := cells_later hXh 5 _ rfl
                have m6 := cells_later hXh 6 _ rfl
                have m7 := cells_later hXh 7 _ rfl
                have m8 := cells_later hXh 8 _ rfl
                have m9 := cells_later hXh 9 _ rfl
                have m10 := cells_later hXh 10 _ rfl
                have m11 := cells_later hXh 11 _ rfl
                have m12 := cells_later hXh 12 _ rfl
                have m13 := cells_later hXh 13 _ rfl
                have hYX := hb1.trans (hwX.mono hb1.size)
                have hmX := hml.below hwX (Nat.le_refl _)
                have hXX : Below X.heap.size X X := Below.refl _ _
                have hpX := HPY.out.trans (hYX.mono HPY.out.size)
                have hm1 := Match_any w.heap.size w.heap.size k (LF k (gA A)) 7 9 mR _ _ _ _ X (HT.out.below hpX) (by have := LF_length k (gA A); omega) hmX HQN.out (LF_ok k A)
                rw [HMAT.out] at hm1
                have HM1 := Go.Lib.hid hm1
                have HYX := Go.Lib.hid hYX
                have HPX := Go.Lib.hid hpX
                clear hm1 hYX hpX
                clear hx HREP htm hml hwX hb1 HMAT hmX hXh HY2
                go_wp2_with fail
                refine HM1.out.mono ?_; rintro e we ⟨rfl, hx⟩
                obtain ⟨Z, hZ⟩ : ∃ Z, we.alloc (.cells #[.int .i64 s0.job, .int .i64 s0.id, .int .i64 s0.port, .string (mk s0.sn), .int .i64 s0.sa, .string (mk s0.qn), .int .i64 s0.qt, .int .i64 s0.qc, .string (mk s0.zone)] 36) = Z := ⟨_, rfl⟩
                have hwZ : Below we.heap.size we Z := by rw [← hZ]; exact (Below.refl _ _).alloc (Nat.le_refl _) _
                have hZh : Z.heap[we.heap.size]? = some (.cells (snA s0) 36 (0, 0)) := by rw [← hZ]; exact heap_alloc_new _ _
                have hXZ := hx.trans (hwZ.mono hx.size)
                have hYZ := HYX.out.trans (hXZ.mono HYX.out.size)
                have hpZ := HPX.out.trans (hXZ.mono HPX.out.size)
                have e14 := cells_later HYH.out 0 _ rfl Z hYZ
                have e17 := (SnBlk.of_heap hZh).e0
                have hTZ := HT.out.below hpZ
                have hblZ := HBL.out.below hpZ
                have hbZ := HB.out.trans (hpZ.mono HB.out.size)
                have cg := hblZ.cell (k := p) (by rw [HAL.out]; exact hlt3)
                rw [hA] at cg
                have HTZ := Go.Lib.hid hTZ
                have HBLZ := Go.Lib.hid hblZ
                have HBZ := Go.Lib.hid hbZ
                clear hTZ hblZ hbZ
                clear hx hwZ hZh hXZ hYZ hpZ HM1 hX hXX hY m0 m1 m2 m3 m4 m5 m6 m7 m8 m9 m10 m11 m12 m13
                go_wp2_with fail
                go_roundw
                case rel => exact ⟨p + 1, by go_num, by omega, HTZ.out, HBLZ.out, HBZ.out⟩
                case measure => simp [intOf]; omega
            · obtain rfl : p = k := by omega
              have hlen := Len_any w.heap.size w.heap.size p (LF p (gA A)) wp HT.out
              rw [HLEN.out] at hlen
              have HLENC := Go.Lib.hid hlen
              clear hlen
              go_wp2_with fail
              refine HLENC.out.mono ?_; rintro e _ ⟨rfl, rfl⟩
              clear HLENC
              go_wp2_with fail
              refine (HAW.out _).mono ?_; rintro e wz ⟨rfl, hx⟩
              have hbz := HB.out.trans (hx.mono HB.out.size)
              have HBZ := Go.Lib.hid hbz
              clear hbz
              clear hx
              go_wp2_with fail
              go_ret
              exact ⟨rfl, HBZ.out⟩

theorem walk (n : Int) (da : Option Addr) (dl : List Int) (dc : Nat) (w : World) (_ : Fits n) (hd : Ints w (.slice da dl.length dc) dl) (_ : ∀ x ∈ dl, Fits x) :
    Calls Try.prog 6 #[.int .i64 n, .slice da dl.length dc] w fun e w' => e = .returned (.bool true) ∧ Below w.heap.size w w' := by
  have haw := Go.Lib.hid awake_any
  by_cases hbad : n < 1 ∨ (¬ n < 1 ∧ 12 < n) ∨ (¬ n < 1 ∧ ¬ 12 < n ∧ 20 < (dl.length : Int))
  · exact t1 n da dl.length dc w hbad haw
  · obtain ⟨N, rfl⟩ : ∃ N : Nat, n = N := ⟨n.toNat, by omega⟩
    exact t2 N da dl dc w (by omega) (by omega) hd (by omega) haw

set_option maxRecDepth 100000 in
theorem lifted (os : Os) (started : os.Started) (H : Type) (enc : TypeId × Value → H) :
    ReturnsInHanded {} Try.checked os 6 .any (Rows.flightDropsSpec.pre6 enc Try.prog Try.f6 Rows.flightDropsRow.domain false) (Rows.flightDropsSpec.post enc Try.prog Try.f6 false true false false) := by
  refine returnsInHanded_of_change (C := Try.checked) own started (by kernel_rfl) Try.func6
    (ChangeSpec.witness6 (enc := enc) (C := Try.checked) false ⟨#[], #[.int .i64 0, .slice none 0 0], []⟩ 8 (by kernel_rfl) (by kernel_rfl) (by kernel_rfl) (by kernel_rfl)) ?_
  intro W base args ds gs before hval0 hW hcnd _
  have hval : ∀ (j : Nat) t v, Try.f6.params[j]? = some t → args[j]? = some v → Value.okWide Try.prog W .any base t v := hval0
  refine law_post enc 2 (by kernel_rfl) rfl rfl (by kernel_rfl) (fun ds h => match ds, h with | [_, _], _ => rfl) hW ?_
  obtain ⟨p, q, hA0, hV, rfl, _, _⟩ := hW
  have hA : DataW.TrodAll enc Try.prog W 0 (fun _ => true) true Try.f6.params.toList args.toList ds p := hA0
  rw [Try.params6] at hA hval
  obtain ⟨v0, vs0, d0, ds0, p0, q0, hargs, rfl, rfl, h0, r0⟩ := trodAll_cons hA
  obtain ⟨v1, vs1, d1, ds1, p1, q1, rfl, rfl, rfl, h1, r1⟩ := trodAll_cons r0
  obtain ⟨rfl, rfl, rfl⟩ := trodAll_nil r1
  obtain rfl : args = #[v0, v1] := by cases args; simp_all
  obtain ⟨a0, rfl, rfl, rfl, w0⟩ := open_int Try.underlying3 (hval 0 3 v0 rfl rfl) h0
  obtain ⟨a1, z1, c1, rfl, w1, f1⟩ := open_Ints Try.underlying66 Try.underlying3 (by kernel_rfl) (hval 1 66 v1 rfl rfl) h1
  exact walk a0 a1 z1 c1 W (fits_of_wf w0) w1 f1

theorem over : Rows.flightDropsRow.holds Try.pinned (OpenSpec.ofChange Rows.flightDropsSpec) :=
  OpenClaim.holds_of_wide 6 Try.f6 rfl rfl rfl rfl rfl rfl rfl ⟨rfl, rfl, rfl, rfl, rfl⟩ rfl rfl rfl rfl rfl (by kernel_rfl) Try.func6 (by kernel_rfl)
    (of_decide_eq_true (by kernel_rfl)) (by unfold Func.isWrapper; first | (rw [if_pos (by decide +kernel)]; kernel_rfl) | (rw [if_neg (by decide +kernel)]; exact ⟨rfl, rfl⟩))
    (fun os started H enc _ => lifted os started H enc)

/-- the statement -/
theorem proved : Rows.FlightDropsSaid := over
#print axioms proved
end Go.Proofs.Ytblbphnmflbepaa.flightDrops

