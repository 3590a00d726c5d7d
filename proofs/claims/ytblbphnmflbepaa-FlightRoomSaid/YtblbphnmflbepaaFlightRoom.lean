/- FlightRoom: no more than so many are in flight, one of each job; a job's next one takes its elder's place; they are told by their jobs. For every input; no conditions. -/
import Derived.Test.YtblbphnmflbepaaFlP
import Derived.WalkSpells
namespace Go.Proofs.Ytblbphnmflbepaa.flightRoom
open Go.ChangeShapes Go.WideShapes Go.ChangeAt Go.RowKit Go.Shelf Go.Sq
open Go.ChangeMaps (open_string shut_string)
set_option linter.unusedVariables false
attribute [local go_sem] Oper.semAt_some

theorem int_info : (Try.prog.info? 3).map (fun i => (i.zero, i.size, i.bytes)) = some (some (.int .i64 0), 1, 8) := by kernel_rfl
theorem bool_info : (Try.prog.info? 4).map (fun i => (i.zero, i.size, i.bytes)) = some (some (.bool false), 1, 1) := by kernel_rfl

set_option maxRecDepth 100000 in
theorem t1 (n : Int) (da : Option Addr) (m dc : Nat) (w : World) (hbad : n < 0 ∨ (¬ n < 0 ∧ 10 < n) ∨ (¬ n < 0 ∧ ¬ 10 < n ∧ 30 < (m : Int)))
    (HAW : Hid (∀ W, Calls Try.prog 8 #[] W fun e w' => e = .returned (.bool true) ∧ Below W.heap.size W w')) :
    Calls Try.prog 5 #[.int .i64 n, .slice da m dc] w fun e w' => e = .returned (.bool true) ∧ Below w.heap.size w w' := by
  have hb0 : Below w.heap.size w (w.alloc (.cells #[.bool false] 4)) := (Below.refl _ w).alloc (Nat.le_refl _) _
  have hh : (w.alloc (.cells #[.bool false] 4)).heap[w.heap.size]? = some (.cells #[.bool false] 4 (0, 0)) := heap_alloc_new _ _
  have HB0 := Go.Lib.hid hb0
  have HH := Go.Lib.hid hh
  clear hb0 hh
  rcases hbad with h1 | ⟨h1, h2⟩ | ⟨h1, h2, h3⟩
  · go_enter Try.func5, Try.ntmps5
    go_wp2_with fail
    refine (HAW.out _).mono ?_; rintro e wz ⟨rfl, hx⟩
    have hz := (hx.block _ (Array.getElem?_eq_some_iff.1 HH.out).1).trans HH.out
    have z1 : wz.cell? ⟨w.heap.size, 0, none⟩ = some (.bool false) := by simp [World.cell?, hz]
    have z2 : wz.frozen? ⟨w.heap.size, 0, none⟩ = false := by simp [World.frozen?, hz]
    have hbz := (HB0.out.trans (hx.mono HB0.out.size)).setCell (p := ⟨w.heap.size, 0, none⟩) (Nat.le_refl _) (.bool true)
    have hset := setCell_eq_setRow wz w.heap.size 0 _ _ (0, 0) (.bool true) hz
    have hz2 : (wz.setCell ⟨w.heap.size, 0, none⟩ (.bool true)).heap[w.heap.size]? = some (.cells #[.bool true] 4 (0, 0)) := by rw [hset]; exact heap_row hz
    have HBZ := Go.Lib.hid hbz
    have HZ2 := Go.Lib.hid hz2
    clear hbz hz2
    clear hx hz hset
    go_wp2_with fail
    exact bodyPost_ret (results_box rfl _ _ _ _ rfl HZ2.out) rfl ⟨rfl, HBZ.out⟩
  · go_enter Try.func5, Try.ntmps5
    go_wp2_with fail
    refine (HAW.out _).mono ?_; rintro e wz ⟨rfl, hx⟩
    have hz := (hx.block _ (Array.getElem?_eq_some_iff.1 HH.out).1).trans HH.out
    have z1 : wz.cell? ⟨w.heap.size, 0, none⟩ = some (.bool false) := by simp [World.cell?, hz]
    have z2 : wz.frozen? ⟨w.heap.size, 0, none⟩ = false := by simp [World.frozen?, hz]
    have hbz := (HB0.out.trans (hx.mono HB0.out.size)).setCell (p := ⟨w.heap.size, 0, none⟩) (Nat.le_refl _) (.bool true)
    have hset := setCell_eq_setRow wz w.heap.size 0 _ _ (0, 0) (.bool true) hz
    have hz2 : (wz.setCell ⟨w.heap.size, 0, none⟩ (.bool true)).heap[w.heap.size]? = some (.cells #[.bool true] 4 (0, 0)) := by rw [hset]; exact heap_row hz
    have HBZ := Go.Lib.hid hbz
    have HZ2 := Go.Lib.hid hz2
    clear hbz hz2
    clear hx hz hset
    go_wp2_with fail
    exact bodyPost_ret (results_box rfl _ _ _ _ rfl HZ2.out) rfl ⟨rfl, HBZ.out⟩
  · go_enter Try.func5, Try.ntmps5
    go_wp2_with fail
    refine (HAW.out _).mono ?_; rintro e wz ⟨rfl, hx⟩
    have hz := (hx.block _ (Array.getElem?_eq_some_iff.1 HH.out).1).trans HH.out
    have z1 : wz.cell? ⟨w.heap.size, 0, none⟩ = some (.bool false) := by simp [World.cell?, hz]
    have z2 : wz.frozen? ⟨w.heap.size, 0, none⟩ = false := by simp [World.frozen?, hz]
    have hbz := (HB0.out.trans (hx.mono HB0.out.size)).setCell (p := ⟨w.heap.size, 0, none⟩) (Nat.le_refl _) (.bool true)
    have hset := setCell_eq_setRow wz w.heap.size 0 _ _ (0, 0) (.bool true) hz
    have hz2 : (wz.setCell ⟨w.heap.size, 0, none⟩ (.bool true)).heap[w.heap.size]? = some (.cells #[.bool true] 4 (0, 0)) := by rw [hset]; exact heap_row hz
    have HBZ := Go.Lib.hid hbz
    have HZ2 := Go.Lib.hid hz2
    clear hbz hz2
    clear hx hz hset
    go_wp2_with fail
    exact bodyPost_ret (results_box rfl _ _ _ _ rfl HZ2.out) rfl ⟨rfl, HBZ.out⟩

set_option maxRecDepth 100000 in
set_option maxHeartbeats 8000000 in
theorem t2 (N : Nat) (da : Option Addr) (dl : List Int) (dc : Nat) (w : World) (hN : N ≤ 10) (hd : Ints w (.slice da dl.length dc) dl) (hdl : dl.length ≤ 30)
    (HAW : Hid (∀ W, Calls Try.prog 8 #[] W fun e w' => e = .returned (.bool true) ∧ Below W.heap.size W w')) :
    Calls Try.prog 5 #[.int .i64 N, .slice da dl.length dc] w fun e w' => e = .returned (.bool true) ∧ Below w.heap.size w w' := by
  have mixed : Try.prog.follows .mixedOrders = true := by kernel_rfl
  have hb0 : Below w.heap.size w (w.alloc (.cells #[.bool false] 4)) := (Below.refl _ w).alloc (Nat.le_refl _) _
  have hh : (w.alloc (.cells #[.bool false] 4)).heap[w.heap.size]? = some (.cells #[.bool false] 4 (0, 0)) := heap_alloc_new _ _
  have hnew := New_any w.heap.size N (w.alloc (.cells #[.bool false] 4)) (by simp)
  rw [show max (N : Int) 0 = (N : Int) by omega, World.size_alloc] at hnew
  generalize hM : dl.length = M at *
  have g1 : ¬ (N : Int) < 0 := by omega
  have g2 : ¬ 10 < (N : Int) := by omega
  have g3 : ¬ 30 < (M : Int) := by omega
  have hmk1 : ∀ w, (Instr.makeSlice 67 (.int .i64 12) (.int .i64 12)).run Try.prog w = .ok (.slice (some ⟨w.heap.size, 0, none⟩) 12 12) (w.alloc (.cells ((List.replicate 12 false).map Value.bool).toArray 4)) := fun w => by
    rw [← made_bools]
    exact run_make_row' 67 4 (.bool false) 1 Try.underlying67 bool_info rfl .i64 .i64 12 (by omega) (by omega) w
  have hmk2 : ∀ w, (Instr.makeSlice 66 (.int .i64 12) (.int .i64 12)).run Try.prog w = .ok (.slice (some ⟨w.heap.size, 0, none⟩) 12 12) (w.alloc (.cells ((List.replicate 12 (0 : Int)).map (Value.int .i64)).toArray 3)) := fun w => by
    rw [← made_ints]
    exact run_make_row' 66 3 (.int .i64 0) 8 Try.underlying66 int_info rfl .i64 .i64 12 (by omega) (by omega) w
  generalize hl1 : ((List.replicate 12 false).map Value.bool).toArray = cb at *
  generalize hl2 : ((List.replicate 12 (0 : Int)).map (Value.int .i64)).toArray = ci at *
  have HNEW := Go.Lib.hid hnew
  have HD := Go.Lib.hid hd
  have HM := Go.Lib.hid hM
  have HB0 := Go.Lib.hid hb0
  have HH := Go.Lib.hid hh
  have HL1 := Go.Lib.hid hl1
  have HL2 := Go.Lib.hid hl2
  clear hnew hd hM hb0 hh hl1 hl2
  refine (callsIn_wide (n := 8)).1 ?_
  refine callsIn_of_wp_marks Try.func5 rfl trivial ?_ rfl
  simp only [Try.ntmps5, List.size_toArray, List.length_cons, List.length_nil, Nat.reduceAdd, Nat.reduceSub, Array.replicate_succ, Array.replicate_zero, List.push_toArray, List.append_toArray, List.nil_append, List.cons_append]
  gi_wp2_with fail
  refine ⟨trivial, (callsIn_wide.2 HNEW.out).mono ?_⟩
  rintro e w1 ⟨rfl, hT, hb, hlt⟩
  have HT1 := Go.Lib.hid hT
  have HB1 := Go.Lib.hid hb
  clear hT hb
  clear HNEW g1 g2 g3
  gi_wp2_with fail
  generalize hW0 : ((((w1.alloc (.cells cb 4)).alloc (.cells #[.slice (some ⟨w1.heap.size, 0, none⟩) 12 12] 67)).alloc (.cells ci 3)).alloc (.cells #[.slice (some ⟨w1.heap.size + 1 + 1, 0, none⟩) 12 12] 66)).alloc (.cells #[.int .i64 0] 3) = W0
  obtain ⟨k6, k6b, k7, k7b, k8, hz0, hb0⟩ := heap5 w1 _ _ _ _ _ W0 hW0.symm
  clear hW0 hmk1 hmk2
  have hTW := HT1.out.below hb0
  have hb1 : Below w.heap.size w w1 := HB0.out.trans (HB1.out.mono (by simp))
  have hbW := hb1.trans (hb0.mono hb1.size)
  have h4 : W0.heap[w.heap.size]? = some (.cells #[.bool false] 4 (0, 0)) := (hb0.block _ (by omega)).trans ((HB1.out.block _ (by omega)).trans HH.out)
  rw [← gR_none 12] at hTW
  have hRB : RB w.heap.size w1.heap.size (List.replicate 12 false) (List.replicate 12 0) ((LF 12 (gR (List.replicate 12 false) (List.replicate 12 0))).length : Int) W0 := ⟨by unfold RBl; rw [HL1.out]; exact k6, by unfold RIn; rw [HL2.out]; exact k7, h4, k6b, k7b, by rw [gR_none]; exact k8⟩
  clear k6 k6b k7 k7b k8 hz0 hb0 hb1 h4 HT1 HB1 HL1 HL2 HB0 HH
  generalize w1.heap.size = g at *
  have HT := Go.Lib.hid hTW
  have HRB := Go.Lib.hid hRB
  have HB := Go.Lib.hid hbW
  have HLT := Go.Lib.hid hlt
  clear hTW hRB hbW hlt
  gi_loopw [9] (fun i wr => ∃ (k : Nat) (A : List Bool) (I : List Int), i = .int .i64 k ∧ k ≤ M ∧ A.length = 12 ∧ I.length = 12 ∧ IsTab w.heap.size (w.heap.size + 1) N (LF 12 (gR A I)) wr ∧ RB w.heap.size g A I ((LF 12 (gR A I)).length : Int) wr ∧ Below w.heap.size w wr) (fun i _ => M - (RowKit.intOf i).toNat)
  case atStart => exact ⟨0, _, _, rfl, Nat.zero_le _, by simp, by simp, HT.out, HRB.out, HB.out⟩
  case round =>
    obtain ⟨k, A, I, rfl, hk, hA, hI, hT, hRB, hbr⟩ := hrel
    generalize wr = wk at *
    clear HT HRB HB
    have HT := Go.Lib.hid hT
    have HRB := Go.Lib.hid hRB
    have HB := Go.Lib.hid hbr
    have HA := Go.Lib.hid hA
    have HI := Go.Lib.hid hI
    clear hT hRB hbr hA hI
    by_cases hlt : k < M
    · obtain ⟨b0, off, rfl, hbw, hcell⟩ := Ints.at (HD.out.below HB.out (Nat.le_refl _)) (by rw [HM.out]; omega)
      have f0 := hcell k (by rw [HM.out]; exact hlt)
      obtain ⟨q, hq, hqk⟩ : ∃ q : Nat, dl.getD k 0 % 12 = (q : Int) ∧ q < 12 := ⟨(dl.getD k 0 % 12).toNat, by omega, by omega⟩
      have hround := fun W => Round_any (dl.getD k 0) 12 W (by omega) (by omega)
      rw [hq] at hround
      generalize dl.getD k 0 = dj at *
      have HROUND := Go.Lib.hid hround
      clear hround
      clear hcell hq
      gi_wp2_with fail
      refine ⟨trivial, (callsIn_wide.2 (HROUND.out _)).mono ?_⟩
      rintro e _ ⟨rfl, rfl⟩
      clear f0 HROUND
      gi_wp2_with fail
      refine ⟨trivial, (callsIn_wide.2 (sent_any q k 9 7 wk)).mono ?_⟩
      rintro e wa ⟨rfl, hx⟩
      have hTa := HT.out.below hx
      have hRa := HRB.out.below hx
      have hba := HB.out.trans (hx.mono HB.out.size)
      obtain ⟨hra, hrl⟩ := room_add HA.out HI.out hqk (k : Int) (N : Int)
      have hadd := Add_any w.heap.size (w.heap.size + 1) N (LF 12 (gR A I)) (sentN q k 9 7) wa hTa (LF_up (gR_jobs A I) 12) (by have := LF_length 12 (gR A I); omega) hba.size
      have hln := LF_length 12 (gR A I)
      rw [hra] at hadd
      generalize hlnn : (LF 12 (gR A I)).length = ln at *
      have HTA := Go.Lib.hid hTa
      have HRA := Go.Lib.hid hRa
      have HBA := Go.Lib.hid hba
      have HRL := Go.Lib.hid hrl
      have HLNN := Go.Lib.hid hlnn
      clear hTa hRa hba hrl hlnn
      clear hx hra HT HRB HB
      cases hAq : A.getD q false with
      | true =>
        rw [if_pos (.inl hAq)] at hadd
        have HADD := Go.Lib.hid hadd
        clear hadd
        gi_wp2_with fail
        refine ⟨trivial, (callsIn_wide.2 HADD.out).mono ?_⟩
        rintro e wb ⟨rfl, hTb, hx, hkb⟩
        have hRb := HRA.out.keeps hkb HTA.out (by omega) HLT.out
        have hbb := HBA.out.trans hx
        obtain ⟨c0, c1, c2, c3, c4, f0, f2, f4⟩ := hRb.f (q := q) (by rw [HA.out]; exact hqk) (by rw [HI.out]; exact hqk)
        have hR6 := hRb.set6 (by have := HLT.out; omega) q true
        obtain ⟨d0, d1, d2, d3, d4, y0, y2, y4⟩ := hR6.f (q := q) (by rw [List.length_set, HA.out]; exact hqk) (by rw [HI.out]; exact hqk)
        rw [hAq] at c0
        have hR7 := hR6.set7 (by have := HLT.out; omega) q (k : Int)
        have hT6 := tab_set (k := q) (x := .bool true) hTb hRb.bl (by have := HLT.out; omega) (by decide)
        have hT7 := tab_set (k := q) (x := .int .i64 (k : Int)) hT6 hR6.il (by have := HLT.out; omega) (by decide)
        have hb7 := (hbb.setCell (p := ⟨g, q, none⟩) (by have := HLT.out; show w.heap.size ≤ g; omega) (.bool true)).setCell (p := ⟨g + 1 + 1, q, none⟩) (by have := HLT.out; show w.heap.size ≤ g + 1 + 1; omega) (.int .i64 (k : Int))
        have HR7 := Go.Lib.hid hR7
        have HT7 := Go.Lib.hid hT7
        have HB7 := Go.Lib.hid hb7
        clear hR7 hT7 hb7
        clear hx hkb HADD hR6 hT6 hTb hRb hbb
        gi_wp2_with fail
        go_roundw
        case rel =>
          have hl2 := HRL.out
          rw [hAq, if_pos rfl, Nat.add_zero] at hl2
          exact ⟨k + 1, A.set q true, I.set q k, by go_num, by omega, by rw [List.length_set]; exact HA.out, by rw [List.length_set]; exact HI.out, HT7.out, by rw [hl2]; exact HR7.out, HB7.out⟩
        case measure => simp [RowKit.intOf]; omega
      | false =>
        by_cases hm : (ln : Int) < (N : Int)
        · rw [if_pos (.inr hm)] at hadd
          have hl12 : ln ≤ 12 := hln
          have hw1 : IntKind.i64.wrap ((ln : Int) + 1) = (ln : Int) + 1 := wrapi (by omega) (by omega)
          have HADD := Go.Lib.hid hadd
          clear hadd
          gi_wp2_with fail
          refine ⟨trivial, (callsIn_wide.2 HADD.out).mono ?_⟩
          rintro e wb ⟨rfl, hTb, hx, hkb⟩
          have hRb := HRA.out.keeps hkb HTA.out (by omega) HLT.out
          have hbb := HBA.out.trans hx
          obtain ⟨c0, c1, c2, c3, c4, f0, f2, f4⟩ := hRb.f (q := q) (by rw [HA.out]; exact hqk) (by rw [HI.out]; exact hqk)
          have hR8 := hRb.set8 (by have := HLT.out; omega) ((ln : Int) + 1)
          have hT8 := tab_set (k := 0) (x := .int .i64 ((ln : Int) + 1)) hTb hRb.h8 (by have := HLT.out; omega) (by decide)
          have hR6 := hR8.set6 (by have := HLT.out; omega) q true
          have hT6 := tab_set (k := q) (x := .bool true) hT8 hR8.bl (by have := HLT.out; omega) (by decide)
          have hR7 := hR6.set7 (by have := HLT.out; omega) q (k : Int)
          have hT7 := tab_set (k := q) (x := .int .i64 (k : Int)) hT6 hR6.il (by have := HLT.out; omega) (by decide)
          have hb7 := ((hbb.setCell (p := ⟨g + 1 + 1 + 1 + 1, 0, none⟩) (by have := HLT.out; show w.heap.size ≤ g + 1 + 1 + 1 + 1; omega) (.int .i64 ((ln : Int) + 1))).setCell (p := ⟨g, q, none⟩) (by have := HLT.out; show w.heap.size ≤ g; omega) (.bool true)).setCell (p := ⟨g + 1 + 1, q, none⟩) (by have := HLT.out; show w.heap.size ≤ g + 1 + 1; omega) (.int .i64 (k : Int))
          obtain ⟨a0, a1, a2, a3, a4, z0, z2, z4⟩ := hR8.f (q := q) (by rw [HA.out]; exact hqk) (by rw [HI.out]; exact hqk)
          obtain ⟨d0, d1, d2, d3, d4, y0, y2, y4⟩ := hR6.f (q := q) (by rw [List.length_set, HA.out]; exact hqk) (by rw [HI.out]; exact hqk)
          rw [hAq] at c0 a0
          have HR7 := Go.Lib.hid hR7
          have HT7 := Go.Lib.hid hT7
          have HB7 := Go.Lib.hid hb7
          clear hR7 hT7 hb7
          clear hx hkb HADD hR6 hT6 hR8 hT8 hTb hRb hbb
          gi_wp2_with fail
          go_roundw
          case rel =>
            have hl2 := HRL.out
            rw [hAq, if_neg (by decide)] at hl2
            exact ⟨k + 1, A.set q true, I.set q k, by go_num, by omega, by rw [List.length_set]; exact HA.out, by rw [List.length_set]; exact HI.out, HT7.out, by rw [hl2]; exact HR7.out, HB7.out⟩
          case measure => simp [RowKit.intOf]; omega
        · rw [if_neg (by rw [hAq]; simpa using hm)] at hadd
          have HADD := Go.Lib.hid hadd
          clear hadd
          gi_wp2_with fail
          refine ⟨trivial, (callsIn_wide.2 HADD.out).mono ?_⟩
          rintro e wb ⟨rfl, hTb, hx, hkb⟩
          have hRb := HRA.out.keeps hkb HTA.out (by omega) HLT.out
          have hbb := HBA.out.trans hx
          obtain ⟨c0, c1, c2, c3, c4, f0, f2, f4⟩ := hRb.f (q := q) (by rw [HA.out]; exact hqk) (by rw [HI.out]; exact hqk)
          rw [hAq] at c0
          have HTB := Go.Lib.hid hTb
          have HRB := Go.Lib.hid hRb
          have HBB := Go.Lib.hid hbb
          clear hTb hRb hbb
          clear hx hkb HADD
          gi_wp2_with fail
          go_roundw
          case rel => exact ⟨k + 1, A, I, by go_num, by omega, HA.out, HI.out, HTB.out, by rw [HLNN.out]; exact HRB.out, HBB.out⟩
          case measure => simp [RowKit.intOf]; omega
    · obtain rfl : k = M := by omega
      have hall := All_any (.pointer (some ⟨w.heap.size + 1, 0, none⟩)) wk (.inr ⟨_, rfl⟩)
      generalize hL : LF 12 (gR A I) = L at *
      have hlen := Len_any w.heap.size (w.heap.size + 1) N L
      have hLup : JobsUp L := by rw [← hL]; exact LF_up (gR_jobs A I) 12
      have hLl : L.length ≤ 12 := by rw [← hL]; exact LF_length 12 _
      have hLj : ∀ s ∈ L, ∃ q : Nat, q < 12 ∧ A.getD q false = true ∧ s = sentN q (I.getD q 0) 9 7 := fun s hs => by
        rw [← hL] at hs
        obtain ⟨q, hq, h⟩ := LF_mem hs
        refine ⟨q, hq, ?_⟩
        unfold gR at h
        split at h
        · rename_i hh; cases h; exact ⟨hh, rfl⟩
        · cases h
      have HALL := Go.Lib.hid hall
      have HLEN := Go.Lib.hid hlen
      have HLL := Go.Lib.hid hL
      have HUP := Go.Lib.hid hLup
      have HJ := Go.Lib.hid hLj
      clear hall hlen hL hLup hLj
      gi_wp2_with fail
      refine ⟨trivial, (callsIn_wide.2 HALL.out).mono ?_⟩
      rintro e wl ⟨rfl, hwl⟩
      have hbl : Below wk.heap.size wk wl := by rw [hwl]; exact (Below.refl _ _).alloc (Nat.le_refl _) _
      have hkl : wl.heap[wk.heap.size]? = some (.cells #[.pointer (some ⟨w.heap.size + 1, 0, none⟩)] 25 (0, 0)) := by rw [hwl]; exact heap_alloc_new _ _
      have hTl := HT.out.below hbl
      have hRl := HRB.out.below hbl
      have hbbl := HB.out.trans (hbl.mono HB.out.size)
      have hl8 := (hRl.f (q := 0) (by rw [HA.out]; omega) (by rw [HI.out]; omega)).c4
      have c8 := BelowC.cell (W := wl) hl8 (Array.getElem?_eq_some_iff.1 hRl.h8).1
      have hfn : ∀ W, (binOp .eql 68 (.func (.func 34) #[] #[.pointer (some ⟨wk.heap.size, 0, none⟩)]) .nilFunc).run Try.prog W = .ok (.bool false) W := fun W => by kernel_rfl
      have hne : Nonempty (Subtype (Below wl.heap.size wl)) := ⟨⟨wl, Below.refl _ _⟩⟩
      have HTL := Go.Lib.hid hTl
      have HRL2 := Go.Lib.hid hRl
      have HBL := Go.Lib.hid hbbl
      have HKL := Go.Lib.hid hkl
      have HBWL := Go.Lib.hid hbl
      clear hTl hRl hbbl hkl hbl
      clear hwl hl8 HALL
      gi_wp2_with fail
      refine wpIn_wide.2 ?_
      refine Go.Mix.wp_region_mixT (Es := [4]) 7 (Below wl.heap.size wl) mixed (by kernel_rfl) (Below.refl _ _).drew ?_
      iterate 4 (refine Go.Mix.mixT_step rfl (fun K hK => ?_); have HKK := Go.Lib.hid hK; clear hK; go_simp; refine HKK.out _ _ ?_; clear HKK K)
      refine Go.Mix.mixT_eff rfl (fun K hK => ?_)
      have HKK := Go.Lib.hid hK
      clear hK
      go_simp
      refine (HLEN.out _ HTL.out.drew).mono ?_; rintro e _ ⟨rfl, rfl⟩
      go_simp
      refine HKK.out _ _ (Below.refl _ _).drew ?_
      clear HKK K
      iterate 2 (refine Go.Mix.mixT_step rfl (fun K hK => ?_); have HKK := Go.Lib.hid hK; clear hK; go_simp; refine HKK.out _ _ ?_; clear HKK K)
      refine Go.Mix.mixT_last rfl (fun K hK => ?_)
      have HKK := Go.Lib.hid hK
      clear hK
      go_simp
      refine HKK.out _ _ ?_
      clear HKK K c8 hne hfn
      obtain ⟨R, hR⟩ : ∃ R, R = (wl.alloc (.cells #[.int .i64 (-1)] 3)).drew := ⟨_, rfl⟩
      have hbR : Below wl.heap.size wl R := by rw [hR]; exact ((Below.refl _ wl).alloc (Nat.le_refl _) _).drew
      have hk13 : R.heap[wl.heap.size]? = some (.cells #[.int .i64 (-1)] 3 (0, 0)) := by rw [hR]; exact heap_alloc_new wl _
      have hRs : R.heap.size = wl.heap.size + 1 := by rw [hR]; exact World.size_alloc wl _
      have hTR := HTL.out.below hbR
      have hRR := HRL2.out.below hbR
      have hbRw := HBL.out.trans (hbR.mono HBL.out.size)
      have hkR : R.heap[wk.heap.size]? = _ := (hbR.block _ (Array.getElem?_eq_some_iff.1 HKL.out).1).trans HKL.out
      have hseq := all_seq 7 (by omega) wk.heap.size w.heap.size (w.heap.size + 1) N L R hTR (by omega) (Array.getElem?_eq_some_iff.1 hkR).1 (by simp [World.cell?, hkR])
      have hwls : g + 1 + 1 + 1 + 1 < wl.heap.size := (Array.getElem?_eq_some_iff.1 HRL2.out.h8).1
      have HRS := Go.Lib.hid hRs
      have HRR := Go.Lib.hid hRR
      have HBR := Go.Lib.hid hbRw
      have HSEQ := Go.Lib.hid hseq
      have HK13 := Go.Lib.hid hk13
      have HWLS := Go.Lib.hid hwls
      clear hRs hRR hbRw hseq hk13 hwls
      clear hbR hTR hkR
      gi_wp2_with fail
      rw [← hR]
      clear hR
      refine act_gen fun T hT => ?_
      refine wpIn_rangeFunc_ok rfl (by omega) (gf := 34) (lb := #[.pointer (some ⟨wk.heap.size, 0, none⟩)]) (by rw [hT]; rfl) trivial (enters_of Try.func34 (by kernel_rfl) rfl)
        HSEQ.out KpT.trans (fun W l o o' _ h1 h2 _ => KpT.put W l o o' h1 h2) (Below.refl _ _) (fun _ => rfl)
        (fun pre W => Below w.heap.size w W ∧ (R.heap.size ≤ W.heap.size ∧ (RB w.heap.size g A I ((L.length : Int) - (pre.length : Int)) W ∧ W.heap[wl.heap.size]? = some (.cells #[.int .i64 (lastJ pre)] 3 (0, 0))))) (fun _ _ _ => False)
        (OwnFrom.and (ownFrom_below (Nat.le_refl _) (by have := HRS.out; have := HLT.out; have := HWLS.out; omega)) (OwnFrom.and (ownFrom_size _ _) (OwnFrom.and (ownFrom_RB _ _ _ _ _ (fun pre : List Sn => (L.length : Int) - (pre.length : Int))) (ownFrom_heap _ _ (fun pre : List Sn => #[.int .i64 (lastJ pre)]) _ _))))
        (fun c _ _ _ _ h _ _ => h.elim)
        ⟨HBR.out, Nat.le_refl _, by simpa using HRR.out, HK13.out⟩ (fun x a' W => ∃ Nb, (R.heap.size ≤ Nb ∧ a' = { tmps := (T.setIfInBounds 96 (snV x)).setIfInBounds 14 (.pointer (some ⟨Nb, 0, none⟩)), defers := [] }) ∧ W.heap[Nb]? = some (.cells (snA x) 36 (0, 0)))
        (fun x a' => ownFrom_ex fun Nb => OwnFrom.and (ownFrom_const _ _) (ownFrom_heap _ _ (fun _ => _) _ _)) ?assign ?body ?done ?stop
      case assign =>
        intro lp pre x W K hi hok hK
        have HK := Go.Lib.hid hK
        have HI := Go.Lib.hid hi
        clear hK hi
        subst hT
        unfold encSn
        gi_wp2
        have hw := heap_alloc_new W (.cells (snA x) 36)
        have hbw : Below W.heap.size W (W.alloc (.cells (snA x) 36)) := (Below.refl _ W).alloc (Nat.le_refl _) _
        refine HK.out _ _ (keepsFrom_below hbw) ((KpT.refl W).alloc _) ⟨HI.out.1.trans (hbw.mono HI.out.1.size), Nat.le_trans HI.out.2.1 hbw.size, HI.out.2.2.1.below hbw, (hbw.block _ (Array.getElem?_eq_some_iff.1 HI.out.2.2.2).1).trans HI.out.2.2.2⟩ ⟨W.heap.size, ⟨HI.out.2.1, ?fr⟩, hw⟩
        case fr => rfl
      case body =>
        rintro lp pre x a' W ⟨hb, hsz, hRB, h13⟩ hok ⟨Nb, ⟨hNb, rfl⟩, hx⟩
        subst hT
        simp only [List.setIfInBounds_toArray, List.set_cons_succ, List.set_cons_zero]
        obtain ⟨q, hq, hAq, rfl⟩ := HJ.out x (List.IsPrefix.subset hok (by simp))
        have hlast := lastJ_lt hok HUP.out (by show (0 : Int) ≤ (q : Int); omega)
        have hlast : lastJ pre < (q : Int) := hlast
        have hlen : pre.length + 1 ≤ L.length := by have := List.IsPrefix.length_le hok; simpa using this
        have hNl := (Array.getElem?_eq_some_iff.1 hx).1
        have hwls := HWLS.out
        have hlt := HLT.out
        have hrs := HRS.out
        obtain ⟨c0, c1, c2, c3, c4, f0, f2, f4⟩ := hRB.f (q := q) (by rw [HA.out]; exact hq) (by rw [HI.out]; exact hq)
        rw [hAq] at c0
        have x0 := BelowC.cell (W := W) (show W.cell? ⟨Nb, 0, none⟩ = some (.int .i64 (q : Int)) by simp [World.cell?, hx, sentN]) hNl
        have x1 := BelowC.cell (W := W) (show W.cell? ⟨Nb, 1, none⟩ = some (.int .i64 (I.getD q 0)) by simp [World.cell?, hx, sentN]) hNl
        have x2 := BelowC.cell (W := W) (show W.cell? ⟨wl.heap.size, 0, none⟩ = some (.int .i64 (lastJ pre)) by simp [World.cell?, h13]) (Array.getElem?_eq_some_iff.1 h13).1
        have x3 := BelowC.cell (W := W) c0 (Array.getElem?_eq_some_iff.1 hRB.bl).1
        have x4 := BelowC.cell (W := W) c1 (Array.getElem?_eq_some_iff.1 hRB.h6).1
        have x5 := BelowC.cell (W := W) c2 (Array.getElem?_eq_some_iff.1 hRB.il).1
        have x6 := BelowC.cell (W := W) c3 (Array.getElem?_eq_some_iff.1 hRB.h7).1
        have hne : Nonempty (Subtype (Below W.heap.size W)) := ⟨⟨W, Below.refl _ _⟩⟩
        have y0 : W.cell? ⟨Nb, 0, none⟩ = some (.int .i64 (q : Int)) := by simp [World.cell?, hx, sentN]
        have y2 : W.cell? ⟨wl.heap.size, 0, none⟩ = some (.int .i64 (lastJ pre)) := by simp [World.cell?, h13]
        have y3 : W.frozen? ⟨wl.heap.size, 0, none⟩ = false := frozen_row h13 _
        have hset13 : W.setCell ⟨wl.heap.size, 0, none⟩ (.int .i64 (q : Int)) = W.setRow wl.heap.size #[.int .i64 (q : Int)] := setCell_eq_setRow W _ 0 _ _ (0, 0) _ h13
        have hR1 : RB w.heap.size g A I ((L.length : Int) - (pre.length : Int)) (W.setCell ⟨wl.heap.size, 0, none⟩ (.int .i64 (q : Int))) := by rw [hset13]; exact hRB.row ⟨by omega, by omega, by omega, by omega, by omega, by omega⟩
        have h131 : (W.setCell ⟨wl.heap.size, 0, none⟩ (.int .i64 (q : Int))).heap[wl.heap.size]? = some (.cells #[.int .i64 (q : Int)] 3 (0, 0)) := by rw [hset13]; exact heap_row h13
        have z4 := (hR1.f (q := q) (by rw [HA.out]; exact hq) (by rw [HI.out]; exact hq)).c4
        have z5 := (hR1.f (q := q) (by rw [HA.out]; exact hq) (by rw [HI.out]; exact hq)).f4
        have hR2 := hR1.set8 (by omega) ((L.length : Int) - (pre.length : Int) - 1)
        have h132 : ((W.setCell ⟨wl.heap.size, 0, none⟩ (.int .i64 (q : Int))).setCell ⟨g + 1 + 1 + 1 + 1, 0, none⟩ (.int .i64 ((L.length : Int) - (pre.length : Int) - 1))).heap[wl.heap.size]? = some (.cells #[.int .i64 (q : Int)] 3 (0, 0)) := (Below.heap_setCell _ _ _ _ (by show wl.heap.size ≠ g + 1 + 1 + 1 + 1; omega)).trans h131
        have hb2 := (hb.setCell (p := ⟨wl.heap.size, 0, none⟩) (show w.heap.size ≤ wl.heap.size by omega) (.int .i64 (q : Int))).setCell (p := ⟨g + 1 + 1 + 1 + 1, 0, none⟩) (show w.heap.size ≤ g + 1 + 1 + 1 + 1 by omega) (.int .i64 ((L.length : Int) - (pre.length : Int) - 1))
        have hk2 : KeepsFrom R.heap.size W ((W.setCell ⟨wl.heap.size, 0, none⟩ (.int .i64 (q : Int))).setCell ⟨g + 1 + 1 + 1 + 1, 0, none⟩ (.int .i64 ((L.length : Int) - (pre.length : Int) - 1))) := ((KeepsOthers.setCell _ _ _).from _).trans ((KeepsOthers.setCell _ _ _).from _)
        have hp2 : KpT IsSn W ((W.setCell ⟨wl.heap.size, 0, none⟩ (.int .i64 (q : Int))).setCell ⟨g + 1 + 1 + 1 + 1, 0, none⟩ (.int .i64 ((L.length : Int) - (pre.length : Int) - 1))) := ((KpT.refl W).set (a := ⟨wl.heap.size, 0, none⟩) h13 (by decide) _).set (a := ⟨g + 1 + 1 + 1 + 1, 0, none⟩) hR1.h8 (by decide) _
        have hs2 : R.heap.size ≤ ((W.setCell ⟨wl.heap.size, 0, none⟩ (.int .i64 (q : Int))).setCell ⟨g + 1 + 1 + 1 + 1, 0, none⟩ (.int .i64 ((L.length : Int) - (pre.length : Int) - 1))).heap.size := by simpa using hsz
        have hlj := lastJ_snoc pre (sentN q (I.getD q 0) 9 7)
        have hw1 : IntKind.i64.wrap ((L.length : Int) - (pre.length : Int) - 1) = (L.length : Int) - (pre.length : Int) - 1 := wrapi (by omega) (by omega)
        have hpl : ((pre ++ [sentN q (I.getD q 0) 9 7]).length : Int) = (pre.length : Int) + 1 := by simp
        generalize hnn : (L.length : Int) - (pre.length : Int) = nn at *
        generalize lastJ pre = lv at *
        generalize I.getD q 0 = iq at *
        have hq1 : ¬ (q : Int) ≤ lv := by omega
        have hq2 : ¬ (12 : Int) ≤ (q : Int) := by omega
        have HBB := Go.Lib.hid hb
        have HSZ := Go.Lib.hid hsz
        have HRBB := Go.Lib.hid hRB
        have H13 := Go.Lib.hid h13
        have HX := Go.Lib.hid hx
        have HOK := Go.Lib.hid hok
        have HR1 := Go.Lib.hid hR1
        have H131 := Go.Lib.hid h131
        have HR2 := Go.Lib.hid hR2
        have H132 := Go.Lib.hid h132
        have HB2 := Go.Lib.hid hb2
        have HK2 := Go.Lib.hid hk2
        have HP2 := Go.Lib.hid hp2
        have HS2 := Go.Lib.hid hs2
        have HLJ := Go.Lib.hid hlj
        have HPL := Go.Lib.hid hpl
        have HLAST := Go.Lib.hid hlast
        have HLENN := Go.Lib.hid hlen
        have HNN := Go.Lib.hid hnn
        have HLT2 := Go.Lib.hid hlt
        have HWLS2 := Go.Lib.hid hwls
        have HRS2 := Go.Lib.hid hrs
        clear hb hsz hRB h13 hx hok hR1 h131 hR2 h132 hb2 hk2 hp2 hs2 hlj hpl hlast hlen hnn hlt hwls hrs
        clear hset13
        gi_wp2_with fail
        refine Go.Mix.wpIn_region_mixT (Es := []) 26 (Below W.heap.size W) mixed (by kernel_rfl) (Below.refl _ _).drew ?_
        iterate 26 (refine Go.Mix.mixT_step rfl (fun K hK => ?_); have HKK := Go.Lib.hid hK; clear hK; go_simp; refine HKK.out _ _ ?_; clear HKK K)
        refine Go.Mix.mixT_last rfl (fun K hK => ?_)
        have HKK := Go.Lib.hid hK
        clear hK
        go_simp
        refine HKK.out _ _ ?_
        clear HKK K x0 x1 x2 x3 x4 x5 x6 hne
        gi_wp2_with fail
        refine ⟨⟨HK2.out.size, HK2.out.same⟩, HP2.out.drew, HB2.out.drew, HS2.out, ?_, ?_⟩
        · rw [show (L.length : Int) - ((pre ++ [sentN (q : Int) iq 9 7]).length : Int) = nn - 1 by rw [HPL.out, ← HNN.out]; omega]
          exact HR2.out.drew
        · rw [HLJ.out]
          exact H132.out
      case done =>
        rintro D ys W hD rfl ⟨hb, hsz, hRB, h13⟩ hK
        subst hT
        rw [Int.sub_self] at hRB
        have c4 := (hRB.f (q := 0) (by rw [HA.out]; omega) (by rw [HI.out]; omega)).c4
        have hlt := HLT.out
        have hrs := HRS.out
        have hwls := HWLS.out
        have HBB := Go.Lib.hid hb
        have HSZ := Go.Lib.hid hsz
        have HRBB := Go.Lib.hid hRB
        have HDD := Go.Lib.hid hD
        have HKD := Go.Lib.hid hK
        have HLT2 := Go.Lib.hid hlt
        have HRS2 := Go.Lib.hid hrs
        have HWLS2 := Go.Lib.hid hwls
        clear hb hsz hRB hD hK hlt hrs hwls
        clear h13
        gi_wp2_with fail
        refine ⟨trivial, (callsIn_wide.2 (HAW.out _)).mono ?_⟩
        rintro e wz ⟨rfl, hx⟩
        have h4 := (hx.block _ (Array.getElem?_eq_some_iff.1 HRBB.out.h4).1).trans HRBB.out.h4
        have hKz := (hx.block _ (Array.getElem?_eq_some_iff.1 HKD.out).1).trans HKD.out
        have z1 : wz.cell? ⟨w.heap.size, 0, none⟩ = some (.bool false) := by simp [World.cell?, h4]
        have z2 : wz.frozen? ⟨w.heap.size, 0, none⟩ = false := frozen_row h4 _
        have hset := setCell_eq_setRow wz w.heap.size 0 _ _ (0, 0) (.bool true) h4
        have hbz := (HBB.out.trans (hx.mono HBB.out.size)).setCell (p := ⟨w.heap.size, 0, none⟩) (Nat.le_refl _) (.bool true)
        have hz4 : (wz.setCell ⟨w.heap.size, 0, none⟩ (.bool true)).heap[w.heap.size]? = some (.cells #[.bool true] 4 (0, 0)) := by rw [hset]; exact heap_row h4
        have hzD : (wz.setCell ⟨w.heap.size, 0, none⟩ (.bool true)).heap[D]? = some (.deferred (some [])) := (Below.heap_setCell _ _ _ _ (by have := HDD.out; have := HRS2.out; have := HLT2.out; have := HWLS2.out; show D ≠ w.heap.size; omega)).trans hKz
        have HBZ := Go.Lib.hid hbz
        have HZ4 := Go.Lib.hid hz4
        have HZD := Go.Lib.hid hzD
        clear hbz hz4 hzD
        clear hx h4 hKz hset c4
        gi_wp2_with fail
        refine ⟨by simp, .inl ⟨_, _, rfl, run_takeDeferred HZD.out, ?_⟩⟩
        have hDl := HDD.out
        have hrs := HRS2.out
        have hlt := HLT2.out
        have hwls := HWLS2.out
        refine ⟨_, results_box rfl _ _ _ _ rfl ((World.putObj_heap_other (by omega)).trans HZ4.out), ?_⟩
        exact ⟨rfl, HBZ.out.trans (belowK_b (w := w) (Nat.le_refl _) _ D _ _ (by omega) HZD.out rfl rfl)⟩
      case stop =>
        rintro D c pre W hD hpre h hK
        exact h.elim

theorem walk (n : Int) (da : Option Addr) (dl : List Int) (dc : Nat) (w : World) (_ : Fits n) (hd : Ints w (.slice da dl.length dc) dl) (_ : ∀ x ∈ dl, Fits x) :
    Calls Try.prog 5 #[.int .i64 n, .slice da dl.length dc] w fun e w' => e = .returned (.bool true) ∧ Below w.heap.size w w' := by
  have haw := Go.Lib.hid awake_any
  by_cases hbad : n < 0 ∨ (¬ n < 0 ∧ 10 < n) ∨ (¬ n < 0 ∧ ¬ 10 < n ∧ 30 < (dl.length : Int))
  · exact t1 n da dl.length dc w hbad haw
  · obtain ⟨N, rfl⟩ : ∃ N : Nat, n = N := ⟨n.toNat, by omega⟩
    exact t2 N da dl dc w (by omega) hd (by omega) haw

set_option maxRecDepth 100000 in
theorem lifted (os : Os) (started : os.Started) (H : Type) (enc : TypeId × Value → H) :
    ReturnsInHanded {} Try.checked os 5 .any (Rows.flightRoomSpec.pre6 enc Try.prog Try.f5 Rows.flightRoomRow.domain false) (Rows.flightRoomSpec.post enc Try.prog Try.f5 false true false false) := by
  refine returnsInHanded_of_change (C := Try.checked) own started (by kernel_rfl) Try.func5
    (ChangeSpec.witness6 (enc := enc) (C := Try.checked) false ⟨#[], #[.int .i64 0, .slice none 0 0], []⟩ 8 (by kernel_rfl) (by kernel_rfl) (by kernel_rfl) (by kernel_rfl)) ?_
  intro W base args ds gs before hval0 hW hcnd _
  have hval : ∀ (j : Nat) t v, Try.f5.params[j]? = some t → args[j]? = some v → Value.okWide Try.prog W .any base t v := hval0
  refine law_post enc 2 (by kernel_rfl) rfl rfl (by kernel_rfl) (fun ds h => match ds, h with | [_, _], _ => rfl) hW ?_
  obtain ⟨p, q, hA0, hV, rfl, _, _⟩ := hW
  have hA : DataW.TrodAll enc Try.prog W 0 (fun _ => true) true Try.f5.params.toList args.toList ds p := hA0
  rw [Try.params5] at hA hval
  obtain ⟨v0, vs0, d0, ds0, p0, q0, hargs, rfl, rfl, h0, r0⟩ := trodAll_cons hA
  obtain ⟨v1, vs1, d1, ds1, p1, q1, rfl, rfl, rfl, h1, r1⟩ := trodAll_cons r0
  obtain ⟨rfl, rfl, rfl⟩ := trodAll_nil r1
  obtain rfl : args = #[v0, v1] := by cases args; simp_all
  obtain ⟨a0, rfl, rfl, rfl, w0⟩ := open_int Try.underlying3 (hval 0 3 v0 rfl rfl) h0
  obtain ⟨a1, z1, c1, rfl, w1, f1⟩ := open_Ints Try.underlying66 Try.underlying3 (by kernel_rfl) (hval 1 66 v1 rfl rfl) h1
  exact walk a0 a1 z1 c1 W (fits_of_wf w0) w1 f1

theorem over : Rows.flightRoomRow.holds Try.pinned (OpenSpec.ofChange Rows.flightRoomSpec) :=
  OpenClaim.holds_of_wide 5 Try.f5 rfl rfl rfl rfl rfl rfl rfl ⟨rfl, rfl, rfl, rfl, rfl⟩ rfl rfl rfl rfl rfl (by kernel_rfl) Try.func5 (by kernel_rfl)
    (of_decide_eq_true (by kernel_rfl)) (by unfold Func.isWrapper; first | (rw [if_pos (by decide +kernel)]; kernel_rfl) | (rw [if_neg (by decide +kernel)]; exact ⟨rfl, rfl⟩))
    (fun os started H enc _ => lifted os started H enc)

/-- the statement -/
theorem proved : Rows.FlightRoomSaid := over
#print axioms proved
end Go.Proofs.Ytblbphnmflbepaa.flightRoom

