/- FlightMatches: an answer matches what was asked just if its number, port, server and question do; of two that it matches it is the least job's. For every input; no conditions. -/
import Derived.Test.YtblbphnmflbepaaFlN
import Derived.Test.YtblbphnmflbepaaBits
import Derived.WalkSpells
namespace Go.Proofs.Ytblbphnmflbepaa.flightMatches
open Go.ChangeShapes Go.WideShapes Go.ChangeAt Go.RowKit
open Go.ChangeMaps (open_string shut_string)
set_option linter.unusedVariables false

theorem add5 (id port addr : Int) : addN (max 3 0) [] (sentN 5 id port addr) = ([sentN 5 id port addr], 0) := by
  simp [addN, hasN, posN]
  decide
theorem add3 (id port addr : Int) : addN (max 3 0) [sentN 5 id port addr] (sentN 3 id port addr) = ([sentN 3 id port addr, sentN 5 id port addr], 0) := by
  simp [addN, hasN, posN, sentN, jobAt]
  decide
theorem up2 (id port addr : Int) : JobsUp [sentN 3 id port addr, sentN 5 id port addr] := fun a b h1 h2 => by
  simp at h2
  obtain rfl : a = 0 := by omega
  obtain rfl : b = 1 := by omega
  exact (by decide : (3 : Int) < 5)
theorem ok2 (id port addr : Int) : SnOk [sentN 3 id port addr, sentN 5 id port addr] := fun s hs => by
  simp only [List.mem_cons, List.not_mem_nil, or_false] at hs
  rcases hs with rfl | rfl <;> exact (by decide : (3 : Nat) ≤ maxLen)
/-- the answer -/
def mK (i : Int) (qn : List UInt8) (qt : Int) : Msg := replyN (askN i ⟨qn, qt, 1⟩) 0 [] []
theorem hit_eq (j id port addr i p a : Int) (qn : List UInt8) (qt : Int) : hitN a p (mK i qn qt) (sentN j id port addr) = (decide (port = p) && decide (addr = a) && ((i == bits .and .i64 id 65535) && (Nm.sameN [1, 97, 0] qn && ((1 : Int) == qt)))) := by
  simp [hitN, answersN, mK, replyN, askN, sentN]
  rfl
theorem mat_yes {id port addr i p a : Int} {qn : List UInt8} {qt : Int} (h : ∀ j, hitN a p (mK i qn qt) (sentN j id port addr) = true) : matchN a p (mK i qn qt) [sentN 3 id port addr, sentN 5 id port addr] = (sentN 3 id port addr, true) :=
  matchN_some (by simp [h])
theorem mat_no {id port addr i p a : Int} {qn : List UInt8} {qt : Int} (h : ∀ j, hitN a p (mK i qn qt) (sentN j id port addr) = false) : matchN a p (mK i qn qt) [sentN 3 id port addr, sentN 5 id port addr] = (s0, false) :=
  matchN_none (by simp [h])
theorem same_a : Nm.sameN [1, 97, 0] [1, 97, 0] = true := by decide +kernel
theorem same_b : Nm.sameN [1, 97, 0] [1, 98, 0] = false := by decide +kernel

set_option maxRecDepth 100000 in
set_option maxHeartbeats 4000000 in
theorem t1 (id port addr k b : Int) (w : World)
    (hbad : id < 0 ∨ (¬ id < 0 ∧ 65535 < id) ∨ (¬ id < 0 ∧ ¬ 65535 < id ∧ port < 0) ∨ (¬ id < 0 ∧ ¬ 65535 < id ∧ ¬ port < 0 ∧ 65535 < port) ∨ (¬ id < 0 ∧ ¬ 65535 < id ∧ ¬ port < 0 ∧ ¬ 65535 < port ∧ addr < 0) ∨
      (¬ id < 0 ∧ ¬ 65535 < id ∧ ¬ port < 0 ∧ ¬ 65535 < port ∧ ¬ addr < 0 ∧ 2147483648 < addr) ∨ (¬ id < 0 ∧ ¬ 65535 < id ∧ ¬ port < 0 ∧ ¬ 65535 < port ∧ ¬ addr < 0 ∧ ¬ 2147483648 < addr ∧ b < 1) ∨
      (¬ id < 0 ∧ ¬ 65535 < id ∧ ¬ port < 0 ∧ ¬ 65535 < port ∧ ¬ addr < 0 ∧ ¬ 2147483648 < addr ∧ ¬ b < 1 ∧ 1000 < b)) :
    Calls Try.prog 4 #[.int .i64 id, .int .i64 port, .int .i64 addr, .int .i64 k, .int .i64 b] w fun e w' => e = .returned (.bool true) ∧ Below w.heap.size w w' := by
  have haw := Go.Lib.hid awake_any
  have HB := Go.Lib.hid (Below.refl w.heap.size w)
  rcases hbad with h1 | ⟨h1, h2⟩ | ⟨h1, h2, h3⟩ | ⟨h1, h2, h3, h4⟩ | ⟨h1, h2, h3, h4, h5⟩ | ⟨h1, h2, h3, h4, h5, h6⟩ | ⟨h1, h2, h3, h4, h5, h6, h7⟩ | ⟨h1, h2, h3, h4, h5, h6, h7, h8⟩

  · go_enter Try.func4, Try.ntmps4
    go_wp2_with fail
    refine (haw.out _).mono ?_; rintro e wb1 ⟨rfl, hx⟩
    have hb := HB.out.trans (hx.mono HB.out.size)
    clear HB
    have HB := Go.Lib.hid hb
    clear hx hb
    go_wp2_with fail
    go_ret
    exact ⟨rfl, HB.out⟩
  · go_enter Try.func4, Try.ntmps4
    go_wp2_with fail
    refine (haw.out _).mono ?_; rintro e wb2 ⟨rfl, hx⟩
    have hb := HB.out.trans (hx.mono HB.out.size)
    clear HB
    have HB := Go.Lib.hid hb
    clear hx hb
    go_wp2_with fail
    go_ret
    exact ⟨rfl, HB.out⟩
  · go_enter Try.func4, Try.ntmps4
    go_wp2_with fail
    refine (haw.out _).mono ?_; rintro e wb3 ⟨rfl, hx⟩
    have hb := HB.out.trans (hx.mono HB.out.size)
    clear HB
    have HB := Go.Lib.hid hb
    clear hx hb
    go_wp2_with fail
    go_ret
    exact ⟨rfl, HB.out⟩
  · go_enter Try.func4, Try.ntmps4
    go_wp2_with fail
    refine (haw.out _).mono ?_; rintro e wb4 ⟨rfl, hx⟩
    have hb := HB.out.trans (hx.mono HB.out.size)
    clear HB
    have HB := Go.Lib.hid hb
    clear hx hb
    go_wp2_with fail
    go_ret
    exact ⟨rfl, HB.out⟩
  · go_enter Try.func4, Try.ntmps4
    go_wp2_with fail
    refine (haw.out _).mono ?_; rintro e wb5 ⟨rfl, hx⟩
    have hb := HB.out.trans (hx.mono HB.out.size)
    clear HB
    have HB := Go.Lib.hid hb
    clear hx hb
    go_wp2_with fail
    go_ret
    exact ⟨rfl, HB.out⟩
  · go_enter Try.func4, Try.ntmps4
    go_wp2_with fail
    refine (haw.out _).mono ?_; rintro e wb6 ⟨rfl, hx⟩
    have hb := HB.out.trans (hx.mono HB.out.size)
    clear HB
    have HB := Go.Lib.hid hb
    clear hx hb
    go_wp2_with fail
    go_ret
    exact ⟨rfl, HB.out⟩
  · go_enter Try.func4, Try.ntmps4
    go_wp2_with fail
    refine (haw.out _).mono ?_; rintro e wb7 ⟨rfl, hx⟩
    have hb := HB.out.trans (hx.mono HB.out.size)
    clear HB
    have HB := Go.Lib.hid hb
    clear hx hb
    go_wp2_with fail
    go_ret
    exact ⟨rfl, HB.out⟩
  · go_enter Try.func4, Try.ntmps4
    go_wp2_with fail
    refine (haw.out _).mono ?_; rintro e wb8 ⟨rfl, hx⟩
    have hb := HB.out.trans (hx.mono HB.out.size)
    clear HB
    have HB := Go.Lib.hid hb
    clear hx hb
    go_wp2_with fail
    go_ret
    exact ⟨rfl, HB.out⟩

set_option maxRecDepth 100000 in
set_option maxHeartbeats 8000000 in
theorem v0 (id port addr k b : Int) (w : World) (hk : k % 6 = 0) (h1 : ¬ id < 0) (h2 : ¬ 65535 < id) (h3 : ¬ port < 0) (h4 : ¬ 65535 < port) (h5 : ¬ addr < 0) (h6 : ¬ 2147483648 < addr) (h7 : ¬ b < 1) (h8 : ¬ 1000 < b) :
    Calls Try.prog 4 #[.int .i64 id, .int .i64 port, .int .i64 addr, .int .i64 k, .int .i64 b] w fun e w' => e = .returned (.bool true) ∧ Below w.heap.size w w' := by
  have haw := Go.Lib.hid awake_any
  have hnew := New_any w.heap.size 3 w (Nat.le_refl _)
  have hround := fun W => Round_any k 6 W (by decide) (by decide)
  rw [hk] at hround
  have hw1 : IntKind.i64.wrap (id + b) = id + b := wrapi (by omega) (by omega)
  have hw2 : IntKind.i64.wrap (port + b) = port + b := wrapi (by omega) (by omega)
  have hw3 : IntKind.i64.wrap (addr + b) = addr + b := wrapi (by omega) (by omega)
  have hw4 : IntKind.i64.wrap (1 + b) = 1 + b := wrapi (by omega) (by omega)
  have hb0 : bits .and .i64 id 65535 = id := by rw [and16]; omega
  have hbb : bits .and .i64 (bits .and .i64 (id + b) 65535) 65535 = bits .and .i64 (id + b) 65535 := by rw [and16, and16]; omega
  have hb1 : ¬ bits .and .i64 (id + b) 65535 = id := by rw [and16]; omega
  have hit : ∀ j, hitN addr port (mK id [1, 97, 0] 1) (sentN j id port addr) = true := fun j => by
    rw [hit_eq, hb0]
    simp [same_a] <;> omega
  have hmat : matchN addr port (mK id [1, 97, 0] 1) [sentN 3 id port addr, sentN 5 id port addr] = (sentN 3 id port addr, true) := mat_yes hit
  have hak : bits .and .i64 id 65535 = id := hb0
  have hask := fun W => refAsk_any id ⟨[1, 97, 0], 1, 1⟩ W
  rw [hak] at hask
  have HNEW := Go.Lib.hid hnew
  have HROUND := Go.Lib.hid hround
  have HMAT := Go.Lib.hid hmat
  have HASK := Go.Lib.hid hask
  clear hnew hround hmat hask
  clear hit hk hb0 hbb hb1 hak
  go_enter Try.func4, Try.ntmps4
  go_wp2_with fail
  refine HNEW.out.mono ?_; rintro e w1 ⟨rfl, hT, hb, hlt⟩
  have HT1 := Go.Lib.hid hT
  have HB1 := Go.Lib.hid hb
  clear hT hb
  clear HNEW h1 h2 h3 h4 h5 h6 h7 h8
  go_wp2_with fail
  refine (sent_any 5 id port addr w1).mono ?_; rintro e w2 ⟨rfl, hx⟩
  have hT2 := HT1.out.below hx
  have hb2 := HB1.out.trans (hx.mono HB1.out.size)
  have hadd := Add_any w.heap.size w.heap.size (max 3 0) [] (sentN 5 id port addr) w2 hT2 jobsUp_nil (by simp) hb2.size
  rw [add5] at hadd
  have HB2 := Go.Lib.hid hb2
  have HADD := Go.Lib.hid hadd
  clear hb2 hadd
  clear hx hT2 HT1 HB1
  go_wp2_with fail
  refine HADD.out.mono ?_; rintro e w3 ⟨rfl, hT3, hx, _⟩
  have hb3 := HB2.out.trans hx
  have HT3 := Go.Lib.hid hT3
  have HB3 := Go.Lib.hid hb3
  clear hT3 hb3
  clear hx HADD HB2
  go_wp2_with fail
  refine (sent_any 3 id port addr w3).mono ?_; rintro e w4 ⟨rfl, hx⟩
  have hT2 := HT3.out.below hx
  have hb2 := HB3.out.trans (hx.mono HB3.out.size)
  have hadd := Add_any w.heap.size w.heap.size (max 3 0) [sentN 5 id port addr] (sentN 3 id port addr) w4 hT2 (jobsUp_one _) (by simp) hb2.size
  rw [add3] at hadd
  have HB2 := Go.Lib.hid hb2
  have HADD := Go.Lib.hid hadd
  clear hb2 hadd
  clear hx hT2 HT3 HB3
  go_wp2_with fail
  refine HADD.out.mono ?_; rintro e w5 ⟨rfl, hT3, hx, _⟩
  have hb3 := HB2.out.trans hx
  have HT3 := Go.Lib.hid hT3
  have HB3 := Go.Lib.hid hb3
  clear hT3 hb3
  clear hx HADD HB2
  go_wp2_with fail
  refine (sent_any 1 1 1 1 w5).mono ?_; rintro e w8 ⟨rfl, hx⟩
  have hT2 := HT3.out.below hx
  have hb2 := HB3.out.trans (hx.mono HB3.out.size)
  have hfld := fld_sent w8
  have HB2 := Go.Lib.hid hb2
  have HT2 := Go.Lib.hid hT2
  clear hb2 hT2
  clear hx HT3 HB3
  go_wp2_with fail
  refine (HROUND.out _).mono ?_; rintro e _ ⟨rfl, rfl⟩
  go_wp2_with fail
  refine (HASK.out _).mono ?_; rintro e w9 ⟨f1, f2, f3, f4, rfl, htm, hx⟩
  have hx := ((Below.refl _ w8).alloc (Nat.le_refl _) _).trans (hx.mono (by simp))
  have hT2 := HT2.out.below hx
  have hb2 := HB2.out.trans (hx.mono HB2.out.size)
  have hrep : Calls Try.prog 22 #[MV (askN id ⟨[1, 97, 0], 1, 1⟩) f1 f2 f3 f4, .int .i64 0, .slice none 0 0, .slice none 0 0] w9 (RetM w9 (mK id [1, 97, 0] 1)) := refReply_any (askN id ⟨[1, 97, 0], 1, 1⟩) f1 f2 f3 f4 0 (.slice none 0 0) (.slice none 0 0) [] [] w9 htm.lies (SlC.nil _ _) (SlC.nil _ _) (by simp [askN]) (by simp) (by simp)
  have HB3 := Go.Lib.hid hb2
  have HT3 := Go.Lib.hid hT2
  have HREP := Go.Lib.hid hrep
  clear hb2 hT2 hrep
  clear hx HT2 HB2 HASK htm hfld
  go_wp2_with fail
  refine HREP.out.mono ?_; rintro e w10 ⟨f5, f6, f7, f8, rfl, htm, hx⟩
  have hqn : ∀ x ∈ (mK id [1, 97, 0] 1).qs, x.name.length ≤ maxLen := fun x hx => by
    obtain rfl : x = ⟨[1, 97, 0], 1, 1⟩ := by simpa [mK, replyN, askN] using hx
    exact (by decide : (3 : Nat) ≤ maxLen)
  have HQN := Go.Lib.hid hqn
  clear hqn
  generalize mK id [1, 97, 0] 1 = mR at *
  have hT2 := HT3.out.below hx
  have hb2 := HB3.out.trans (hx.mono HB3.out.size)
  have hml := htm.lies
  obtain ⟨aq, cq, rfl, _, _⟩ := hml.qs.slice
  obtain ⟨aa, ca, rfl, _, _⟩ := hml.an.slice
  obtain ⟨asv, cs, rfl, _, _⟩ := hml.sv.slice
  obtain ⟨ad, cd, rfl, _, _⟩ := hml.ad.slice
  obtain ⟨X, hX⟩ : ∃ X, w10.alloc (.cells #[.int .i64 mR.id, .bool mR.resp, .int .i64 mR.op, .bool mR.auth, .bool mR.cut, .bool mR.des, .bool mR.avail, .int .i64 mR.code, .slice aq mR.qs.length cq, .slice aa mR.an.length ca, .slice asv mR.sv.length cs, .slice ad mR.ad.length cd, .bool mR.edns, .int .i64 mR.size] 40) = X := ⟨_, rfl⟩
  have hwX : Below w10.heap.size w10 X := by rw [← hX]; exact (Below.refl _ _).alloc (Nat.le_refl _) _
  have hXh : X.heap[w10.heap.size]? = some (.cells (MC mR (.slice aq mR.qs.length cq) (.slice aa mR.an.length ca) (.slice asv mR.sv.length cs) (.slice ad mR.ad.length cd)) 40 (0, 0)) := by rw [← hX]; exact heap_alloc_new _ _
  have m0 := cells_later hXh 0 _ rfl
  have m1 := cells_later hXh 1 _ rfl
  have m2 := cells_later hXh 2 _ rfl
  have m3 := cells_later hXh 3 _ rfl
  have m4 := cells_later hXh 4 _ rfl
  have m5 := cells_later hXh 5 _ rfl
  have m6 := cells_later hXh 6 _ rfl
  have m7 := cells_later hXh 7 _ rfl
  have m8 := cells_later hXh 8 _ rfl
  have m9 := cells_later hXh 9 _ rfl
  have m10 := cells_later hXh 10 _ rfl
  have m11 := cells_later hXh 11 _ rfl
  have m12 := cells_later hXh 12 _ rfl
  have m13 := cells_later hXh 13 _ rfl
  have hTX := hT2.below hwX
  have hbX := hb2.trans (hwX.mono hb2.size)
  have hmX := hml.below hwX (Nat.le_refl _)
  have hXX : Below X.heap.size X X := Below.refl _ _
  have hm1 := Match_any w.heap.size w.heap.size (max 3 0) [sentN 3 id port addr, sentN 5 id port addr] addr port mR _ _ _ _ X hTX (by simp) hmX HQN.out (ok2 id port addr)
  rw [HMAT.out] at hm1
  have HT4 := Go.Lib.hid hT2
  have HBX := Go.Lib.hid hbX
  have HTX := Go.Lib.hid hTX
  have HMX := Go.Lib.hid hmX
  have HM1 := Go.Lib.hid hm1
  have HXH := Go.Lib.hid hXh
  clear hT2 hbX hTX hmX hm1 hXh
  clear hx HT3 HB3 HREP htm hml hwX hb2 HMAT
  go_wp2_with fail
  refine HM1.out.mono ?_; rintro e w11 ⟨rfl, hx⟩
  obtain ⟨Y, hY⟩ : ∃ Y, w11.alloc (.cells #[.int .i64 (sentN 3 id port addr).job, .int .i64 (sentN 3 id port addr).id, .int .i64 (sentN 3 id port addr).port, .string (mk (sentN 3 id port addr).sn), .int .i64 (sentN 3 id port addr).sa, .string (mk (sentN 3 id port addr).qn), .int .i64 (sentN 3 id port addr).qt, .int .i64 (sentN 3 id port addr).qc, .string (mk (sentN 3 id port addr).zone)] 36) = Y := ⟨_, rfl⟩
  have hwY : Below w11.heap.size w11 Y := by rw [← hY]; exact (Below.refl _ _).alloc (Nat.le_refl _) _
  have y6 : Y.heap[w11.heap.size]? = some (.cells (snA (sentN 3 id port addr)) 36 (0, 0)) := by rw [← hY]; exact heap_alloc_new _ _
  have hXY : Below X.heap.size X Y := hx.trans (hwY.mono hx.size)
  have hlen := Len_any w.heap.size w.heap.size (max 3 0) [sentN 3 id port addr, sentN 5 id port addr] Y (HTX.out.below hXY)
  have hbY := HBX.out.trans (hXY.mono HBX.out.size)
  have e0 := (SnBlk.of_heap y6).e0
  have hj3 : ((sentN 3 id port addr).job == 3) = true := rfl
  have HLEN := Go.Lib.hid hlen
  have HBY := Go.Lib.hid hbY
  clear hlen hbY
  clear hx HM1 hXY hwY y6 hX hXX m0 m1 m2 m3 m4 m5 m6 m7 m8 m9 m10 m11 m12 m13
  go_wp2_with fail
  refine HLEN.out.mono ?_; rintro e _ ⟨rfl, rfl⟩
  clear HLEN e0
  go_wp2_with fail
  refine (haw.out _).mono ?_; rintro e wz ⟨rfl, hx⟩
  have hbz := HBY.out.trans (hx.mono HBY.out.size)
  have HBZ := Go.Lib.hid hbz
  clear hbz
  clear hx
  go_wp2_with fail
  go_ret
  exact ⟨rfl, HBZ.out⟩

set_option maxRecDepth 100000 in
set_option maxHeartbeats 8000000 in
theorem v1 (id port addr k b : Int) (w : World) (hk : k % 6 = 1) (h1 : ¬ id < 0) (h2 : ¬ 65535 < id) (h3 : ¬ port < 0) (h4 : ¬ 65535 < port) (h5 : ¬ addr < 0) (h6 : ¬ 2147483648 < addr) (h7 : ¬ b < 1) (h8 : ¬ 1000 < b) :
    Calls Try.prog 4 #[.int .i64 id, .int .i64 port, .int .i64 addr, .int .i64 k, .int .i64 b] w fun e w' => e = .returned (.bool true) ∧ Below w.heap.size w w' := by
  have haw := Go.Lib.hid awake_any
  have hnew := New_any w.heap.size 3 w (Nat.le_refl _)
  have hround := fun W => Round_any k 6 W (by decide) (by decide)
  rw [hk] at hround
  have hw1 : IntKind.i64.wrap (id + b) = id + b := wrapi (by omega) (by omega)
  have hw2 : IntKind.i64.wrap (port + b) = port + b := wrapi (by omega) (by omega)
  have hw3 : IntKind.i64.wrap (addr + b) = addr + b := wrapi (by omega) (by omega)
  have hw4 : IntKind.i64.wrap (1 + b) = 1 + b := wrapi (by omega) (by omega)
  have hb0 : bits .and .i64 id 65535 = id := by rw [and16]; omega
  have hbb : bits .and .i64 (bits .and .i64 (id + b) 65535) 65535 = bits .and .i64 (id + b) 65535 := by rw [and16, and16]; omega
  have hb1 : ¬ bits .and .i64 (id + b) 65535 = id := by rw [and16]; omega
  have hit : ∀ j, hitN addr port (mK (bits .and .i64 (id + b) 65535) [1, 97, 0] 1) (sentN j id port addr) = false := fun j => by
    rw [hit_eq, hb0]
    simp [same_a, hb1] <;> omega
  have hmat : matchN addr port (mK (bits .and .i64 (id + b) 65535) [1, 97, 0] 1) [sentN 3 id port addr, sentN 5 id port addr] = (s0, false) := mat_no hit
  have hak : bits .and .i64 (bits .and .i64 (id + b) 65535) 65535 = (bits .and .i64 (id + b) 65535) := hbb
  have hask := fun W => refAsk_any (bits .and .i64 (id + b) 65535) ⟨[1, 97, 0], 1, 1⟩ W
  rw [hak] at hask
  have HNEW := Go.Lib.hid hnew
  have HROUND := Go.Lib.hid hround
  have HMAT := Go.Lib.hid hmat
  have HASK := Go.Lib.hid hask
  clear hnew hround hmat hask
  clear hit hk hb0 hbb hb1 hak
  go_enter Try.func4, Try.ntmps4
  go_wp2_with fail
  refine HNEW.out.mono ?_; rintro e w1 ⟨rfl, hT, hb, hlt⟩
  have HT1 := Go.Lib.hid hT
  have HB1 := Go.Lib.hid hb
  clear hT hb
  clear HNEW h1 h2 h3 h4 h5 h6 h7 h8
  go_wp2_with fail
  refine (sent_any 5 id port addr w1).mono ?_; rintro e w2 ⟨rfl, hx⟩
  have hT2 := HT1.out.below hx
  have hb2 := HB1.out.trans (hx.mono HB1.out.size)
  have hadd := Add_any w.heap.size w.heap.size (max 3 0) [] (sentN 5 id port addr) w2 hT2 jobsUp_nil (by simp) hb2.size
  rw [add5] at hadd
  have HB2 := Go.Lib.hid hb2
  have HADD := Go.Lib.hid hadd
  clear hb2 hadd
  clear hx hT2 HT1 HB1
  go_wp2_with fail
  refine HADD.out.mono ?_; rintro e w3 ⟨rfl, hT3, hx, _⟩
  have hb3 := HB2.out.trans hx
  have HT3 := Go.Lib.hid hT3
  have HB3 := Go.Lib.hid hb3
  clear hT3 hb3
  clear hx HADD HB2
  go_wp2_with fail
  refine (sent_any 3 id port addr w3).mono ?_; rintro e w4 ⟨rfl, hx⟩
  have hT2 := HT3.out.below hx
  have hb2 := HB3.out.trans (hx.mono HB3.out.size)
  have hadd := Add_any w.heap.size w.heap.size (max 3 0) [sentN 5 id port addr] (sentN 3 id port addr) w4 hT2 (jobsUp_one _) (by simp) hb2.size
  rw [add3] at hadd
  have HB2 := Go.Lib.hid hb2
  have HADD := Go.Lib.hid hadd
  clear hb2 hadd
  clear hx hT2 HT3 HB3
  go_wp2_with fail
  refine HADD.out.mono ?_; rintro e w5 ⟨rfl, hT3, hx, _⟩
  have hb3 := HB2.out.trans hx
  have HT3 := Go.Lib.hid hT3
  have HB3 := Go.Lib.hid hb3
  clear hT3 hb3
  clear hx HADD HB2
  go_wp2_with fail
  refine (sent_any 1 1 1 1 w5).mono ?_; rintro e w8 ⟨rfl, hx⟩
  have hT2 := HT3.out.below hx
  have hb2 := HB3.out.trans (hx.mono HB3.out.size)
  have hfld := fld_sent w8
  have HB2 := Go.Lib.hid hb2
  have HT2 := Go.Lib.hid hT2
  clear hb2 hT2
  clear hx HT3 HB3
  go_wp2_with fail
  refine (HROUND.out _).mono ?_; rintro e _ ⟨rfl, rfl⟩
  go_wp2_with fail
  refine (HASK.out _).mono ?_; rintro e w9 ⟨f1, f2, f3, f4, rfl, htm, hx⟩
  have hx := ((Below.refl _ w8).alloc (Nat.le_refl _) _).trans (hx.mono (by simp))
  have hT2 := HT2.out.below hx
  have hb2 := HB2.out.trans (hx.mono HB2.out.size)
  have hrep : Calls Try.prog 22 #[MV (askN (bits .and .i64 (id + b) 65535) ⟨[1, 97, 0], 1, 1⟩) f1 f2 f3 f4, .int .i64 0, .slice none 0 0, .slice none 0 0] w9 (RetM w9 (mK (bits .and .i64 (id + b) 65535) [1, 97, 0] 1)) := refReply_any (askN (bits .and .i64 (id + b) 65535) ⟨[1, 97, 0], 1, 1⟩) f1 f2 f3 f4 0 (.slice none 0 0) (.slice none 0 0) [] [] w9 htm.lies (SlC.nil _ _) (SlC.nil _ _) (by simp [askN]) (by simp) (by simp)
  have HB3 := Go.Lib.hid hb2
  have HT3 := Go.Lib.hid hT2
  have HREP := Go.Lib.hid hrep
  clear hb2 hT2 hrep
  clear hx HT2 HB2 HASK htm hfld
  go_wp2_with fail
  refine HREP.out.mono ?_; rintro e w10 ⟨f5, f6, f7, f8, rfl, htm, hx⟩
  have hqn : ∀ x ∈ (mK (bits .and .i64 (id + b) 65535) [1, 97, 0] 1).qs, x.name.length ≤ maxLen := fun x hx => by
    obtain rfl : x = ⟨[1, 97, 0], 1, 1⟩ := by simpa [mK, replyN, askN] using hx
    exact (by decide : (3 : Nat) ≤ maxLen)
  have HQN := Go.Lib.hid hqn
  clear hqn
  generalize mK (bits .and .i64 (id + b) 65535) [1, 97, 0] 1 = mR at *
  have hT2 := HT3.out.below hx
  have hb2 := HB3.out.trans (hx.mono HB3.out.size)
  have hml := htm.lies
  obtain ⟨aq, cq, rfl, _, _⟩ := hml.qs.slice
  obtain ⟨aa, ca, rfl, _, _⟩ := hml.an.slice
  obtain ⟨asv, cs, rfl, _, _⟩ := hml.sv.slice
  obtain ⟨ad, cd, rfl, _, _⟩ := hml.ad.slice
  obtain ⟨X, hX⟩ : ∃ X, w10.alloc (.cells #[.int .i64 mR.id, .bool mR.resp, .int .i64 mR.op, .bool mR.auth, .bool mR.cut, .bool mR.des, .bool mR.avail, .int .i64 mR.code, .slice aq mR.qs.length cq, .slice aa mR.an.length ca, .slice asv mR.sv.length cs, .slice ad mR.ad.length cd, .bool mR.edns, .int .i64 mR.size] 40) = X := ⟨_, rfl⟩
  have hwX : Below w10.heap.size w10 X := by rw [← hX]; exact (Below.refl _ _).alloc (Nat.le_refl _) _
  have hXh : X.heap[w10.heap.size]? = some (.cells (MC mR (.slice aq mR.qs.length cq) (.slice aa mR.an.length ca) (.slice asv mR.sv.length cs) (.slice ad mR.ad.length cd)) 40 (0, 0)) := by rw [← hX]; exact heap_alloc_new _ _
  have m0 := cells_later hXh 0 _ rfl
  have m1 := cells_later hXh 1 _ rfl
  have m2 := cells_later hXh 2 _ rfl
  have m3 := cells_later hXh 3 _ rfl
  have m4 := cells_later hXh 4 _ rfl
  have m5 := cells_later hXh 5 _ rfl
  have m6 := cells_later hXh 6 _ rfl
  have m7 := cells_later hXh 7 _ rfl
  have m8 := cells_later hXh 8 _ rfl
  have m9 := cells_later hXh 9 _ rfl
  have m10 := cells_later hXh 10 _ rfl
  have m11 := cells_later hXh 11 _ rfl
  have m12 := cells_later hXh 12 _ rfl
  have m13 := cells_later hXh 13 _ rfl
  have hTX := hT2.below hwX
  have hbX := hb2.trans (hwX.mono hb2.size)
  have hmX := hml.below hwX (Nat.le_refl _)
  have hXX : Below X.heap.size X X := Below.refl _ _
  have hm1 := Match_any w.heap.size w.heap.size (max 3 0) [sentN 3 id port addr, sentN 5 id port addr] addr port mR _ _ _ _ X hTX (by simp) hmX HQN.out (ok2 id port addr)
  rw [HMAT.out] at hm1
  have HT4 := Go.Lib.hid hT2
  have HBX := Go.Lib.hid hbX
  have HTX := Go.Lib.hid hTX
  have HMX := Go.Lib.hid hmX
  have HM1 := Go.Lib.hid hm1
  have HXH := Go.Lib.hid hXh
  clear hT2 hbX hTX hmX hm1 hXh
  clear hx HT3 HB3 HREP htm hml hwX hb2 HMAT
  go_wp2_with fail
  refine HM1.out.mono ?_; rintro e w11 ⟨rfl, hx⟩
  obtain ⟨Y, hY⟩ : ∃ Y, w11.alloc (.cells #[.int .i64 s0.job, .int .i64 s0.id, .int .i64 s0.port, .string (mk s0.sn), .int .i64 s0.sa, .string (mk s0.qn), .int .i64 s0.qt, .int .i64 s0.qc, .string (mk s0.zone)] 36) = Y := ⟨_, rfl⟩
  have hwY : Below w11.heap.size w11 Y := by rw [← hY]; exact (Below.refl _ _).alloc (Nat.le_refl _) _
  have y6 : Y.heap[w11.heap.size]? = some (.cells (snA s0) 36 (0, 0)) := by rw [← hY]; exact heap_alloc_new _ _
  have hXY : Below X.heap.size X Y := hx.trans (hwY.mono hx.size)
  have hlen := Len_any w.heap.size w.heap.size (max 3 0) [sentN 3 id port addr, sentN 5 id port addr] Y (HTX.out.below hXY)
  have hbY := HBX.out.trans (hXY.mono HBX.out.size)
  have e0 := (SnBlk.of_heap y6).e0
  have hj3 : ((sentN 3 id port addr).job == 3) = true := rfl
  have HLEN := Go.Lib.hid hlen
  have HBY := Go.Lib.hid hbY
  clear hlen hbY
  clear hx HM1 hXY hwY y6 hX hXX m0 m1 m2 m3 m4 m5 m6 m7 m8 m9 m10 m11 m12 m13
  go_wp2_with fail
  refine HLEN.out.mono ?_; rintro e _ ⟨rfl, rfl⟩
  clear HLEN e0
  go_wp2_with fail
  refine (haw.out _).mono ?_; rintro e wz ⟨rfl, hx⟩
  have hbz := HBY.out.trans (hx.mono HBY.out.size)
  have HBZ := Go.Lib.hid hbz
  clear hbz
  clear hx
  go_wp2_with fail
  go_ret
  exact ⟨rfl, HBZ.out⟩

set_option maxRecDepth 100000 in
set_option maxHeartbeats 8000000 in
theorem v2 (id port addr k b : Int) (w : World) (hk : k % 6 = 2) (h1 : ¬ id < 0) (h2 : ¬ 65535 < id) (h3 : ¬ port < 0) (h4 : ¬ 65535 < port) (h5 : ¬ addr < 0) (h6 : ¬ 2147483648 < addr) (h7 : ¬ b < 1) (h8 : ¬ 1000 < b) :
    Calls Try.prog 4 #[.int .i64 id, .int .i64 port, .int .i64 addr, .int .i64 k, .int .i64 b] w fun e w' => e = .returned (.bool true) ∧ Below w.heap.size w w' := by
  have haw := Go.Lib.hid awake_any
  have hnew := New_any w.heap.size 3 w (Nat.le_refl _)
  have hround := fun W => Round_any k 6 W (by decide) (by decide)
  rw [hk] at hround
  have hw1 : IntKind.i64.wrap (id + b) = id + b := wrapi (by omega) (by omega)
  have hw2 : IntKind.i64.wrap (port + b) = port + b := wrapi (by omega) (by omega)
  have hw3 : IntKind.i64.wrap (addr + b) = addr + b := wrapi (by omega) (by omega)
  have hw4 : IntKind.i64.wrap (1 + b) = 1 + b := wrapi (by omega) (by omega)
  have hb0 : bits .and .i64 id 65535 = id := by rw [and16]; omega
  have hbb : bits .and .i64 (bits .and .i64 (id + b) 65535) 65535 = bits .and .i64 (id + b) 65535 := by rw [and16, and16]; omega
  have hb1 : ¬ bits .and .i64 (id + b) 65535 = id := by rw [and16]; omega
  have hit : ∀ j, hitN addr (port + b) (mK id [1, 97, 0] 1) (sentN j id port addr) = false := fun j => by
    rw [hit_eq, hb0]
    simp [same_a] <;> omega
  have hmat : matchN addr (port + b) (mK id [1, 97, 0] 1) [sentN 3 id port addr, sentN 5 id port addr] = (s0, false) := mat_no hit
  have hak : bits .and .i64 id 65535 = id := hb0
  have hask := fun W => refAsk_any id ⟨[1, 97, 0], 1, 1⟩ W
  rw [hak] at hask
  have HNEW := Go.Lib.hid hnew
  have HROUND := Go.Lib.hid hround
  have HMAT := Go.Lib.hid hmat
  have HASK := Go.Lib.hid hask
  clear hnew hround hmat hask
  clear hit hk hb0 hbb hb1 hak
  go_enter Try.func4, Try.ntmps4
  go_wp2_with fail
  refine HNEW.out.mono ?_; rintro e w1 ⟨rfl, hT, hb, hlt⟩
  have HT1 := Go.Lib.hid hT
  have HB1 := Go.Lib.hid hb
  clear hT hb
  clear HNEW h1 h2 h3 h4 h5 h6 h7 h8
  go_wp2_with fail
  refine (sent_any 5 id port addr w1).mono ?_; rintro e w2 ⟨rfl, hx⟩
  have hT2 := HT1.out.below hx
  have hb2 := HB1.out.trans (hx.mono HB1.out.size)
  have hadd := Add_any w.heap.size w.heap.size (max 3 0) [] (sentN 5 id port addr) w2 hT2 jobsUp_nil (by simp) hb2.size
  rw [add5] at hadd
  have HB2 := Go.Lib.hid hb2
  have HADD := Go.Lib.hid hadd
  clear hb2 hadd
  clear hx hT2 HT1 HB1
  go_wp2_with fail
  refine HADD.out.mono ?_; rintro e w3 ⟨rfl, hT3, hx, _⟩
  have hb3 := HB2.out.trans hx
  have HT3 := Go.Lib.hid hT3
  have HB3 := Go.Lib.hid hb3
  clear hT3 hb3
  clear hx HADD HB2
  go_wp2_with fail
  refine (sent_any 3 id port addr w3).mono ?_; rintro e w4 ⟨rfl, hx⟩
  have hT2 := HT3.out.below hx
  have hb2 := HB3.out.trans (hx.mono HB3.out.size)
  have hadd := Add_any w.heap.size w.heap.size (max 3 0) [sentN 5 id port addr] (sentN 3 id port addr) w4 hT2 (jobsUp_one _) (by simp) hb2.size
  rw [add3] at hadd
  have HB2 := Go.Lib.hid hb2
  have HADD := Go.Lib.hid hadd
  clear hb2 hadd
  clear hx hT2 HT3 HB3
  go_wp2_with fail
  refine HADD.out.mono ?_; rintro e w5 ⟨rfl, hT3, hx, _⟩
  have hb3 := HB2.out.trans hx
  have HT3 := Go.Lib.hid hT3
  have HB3 := Go.Lib.hid hb3
  clear hT3 hb3
  clear hx HADD HB2
  go_wp2_with fail
  refine (sent_any 1 1 1 1 w5).mono ?_; rintro e w8 ⟨rfl, hx⟩
  have hT2 := HT3.out.below hx
  have hb2 := HB3.out.trans (hx.mono HB3.out.size)
  have hfld := fld_sent w8
  have HB2 := Go.Lib.hid hb2
  have HT2 := Go.Lib.hid hT2
  clear hb2 hT2
  clear hx HT3 HB3
  go_wp2_with fail
  refine (HROUND.out _).mono ?_; rintro e _ ⟨rfl, rfl⟩
  go_wp2_with fail
  refine (HASK.out _).mono ?_; rintro e w9 ⟨f1, f2, f3, f4, rfl, htm, hx⟩
  have hx := ((Below.refl _ w8).alloc (Nat.le_refl _) _).trans (hx.mono (by simp))
  have hT2 := HT2.out.below hx
  have hb2 := HB2.out.trans (hx.mono HB2.out.size)
  have hrep : Calls Try.prog 22 #[MV (askN id ⟨[1, 97, 0], 1, 1⟩) f1 f2 f3 f4, .int .i64 0, .slice none 0 0, .slice none 0 0] w9 (RetM w9 (mK id [1, 97, 0] 1)) := refReply_any (askN id ⟨[1, 97, 0], 1, 1⟩) f1 f2 f3 f4 0 (.slice none 0 0) (.slice none 0 0) [] [] w9 htm.lies (SlC.nil _ _) (SlC.nil _ _) (by simp [askN]) (by simp) (by simp)
  have HB3 := Go.Lib.hid hb2
  have HT3 := Go.Lib.hid hT2
  have HREP := Go.Lib.hid hrep
  clear hb2 hT2 hrep
  clear hx HT2 HB2 HASK htm hfld
  go_wp2_with fail
  refine HREP.out.mono ?_; rintro e w10 ⟨f5, f6, f7, f8, rfl, htm, hx⟩
  have hqn : ∀ x ∈ (mK id [1, 97, 0] 1).qs, x.name.length ≤ maxLen := fun x hx => by
    obtain rfl : x = ⟨[1, 97, 0], 1, 1⟩ := by simpa [mK, replyN, askN] using hx
    exact (by decide : (3 : Nat) ≤ maxLen)
  have HQN := Go.Lib.hid hqn
  clear hqn
  generalize mK id [1, 97, 0] 1 = mR at *
  have hT2 := HT3.out.below hx
  have hb2 := HB3.out.trans (hx.mono HB3.out.size)
  have hml := htm.lies
  obtain ⟨aq, cq, rfl, _, _⟩ := hml.qs.slice
  obtain ⟨aa, ca, rfl, _, _⟩ := hml.an.slice
  obtain ⟨asv, cs, rfl, _, _⟩ := hml.sv.slice
  obtain ⟨ad, cd, rfl, _, _⟩ := hml.ad.slice
  obtain ⟨X, hX⟩ : ∃ X, w10.alloc (.cells #[.int .i64 mR.id, .bool mR.resp, .int .i64 mR.op, .bool mR.auth, .bool mR.cut, .bool mR.des, .bool mR.avail, .int .i64 mR.code, .slice aq mR.qs.length cq, .slice aa mR.an.length ca, .slice asv mR.sv.length cs, .slice ad mR.ad.length cd, .bool mR.edns, .int .i64 mR.size] 40) = X := ⟨_, rfl⟩
  have hwX : Below w10.heap.size w10 X := by rw [← hX]; exact (Below.refl _ _).alloc (Nat.le_refl _) _
  have hXh : X.heap[w10.heap.size]? = some (.cells (MC mR (.slice aq mR.qs.length cq) (.slice aa mR.an.length ca) (.slice asv mR.sv.length cs) (.slice ad mR.ad.length cd)) 40 (0, 0)) := by rw [← hX]; exact heap_alloc_new _ _
  have m0 := cells_later hXh 0 _ rfl
  have m1 := cells_later hXh 1 _ rfl
  have m2 := cells_later hXh 2 _ rfl
  have m3 := cells_later hXh 3 _ rfl
  have m4 := cells_later hXh 4 _ rfl
  have m5 := cells_later hXh 5 _ rfl
  have m6 := cells_later hXh 6 _ rfl
  have m7 := cells_later hXh 7 _ rfl
  have m8 := cells_later hXh 8 _ rfl
  have m9 := cells_later hXh 9 _ rfl
  have m10 := cells_later hXh 10 _ rfl
  have m11 := cells_later hXh 11 _ rfl
  have m12 := cells_later hXh 12 _ rfl
  have m13 := cells_later hXh 13 _ rfl
  have hTX := hT2.below hwX
  have hbX := hb2.trans (hwX.mono hb2.size)
  have hmX := hml.below hwX (Nat.le_refl _)
  have hXX : Below X.heap.size X X := Below.refl _ _
  have hm1 := Match_any w.heap.size w.heap.size (max 3 0) [sentN 3 id port addr, sentN 5 id port addr] addr (port + b) mR _ _ _ _ X hTX (by simp) hmX HQN.out (ok2 id port addr)
  rw [HMAT.out] at hm1
  have HT4 := Go.Lib.hid hT2
  have HBX := Go.Lib.hid hbX
  have HTX := Go.Lib.hid hTX
  have HMX := Go.Lib.hid hmX
  have HM1 := Go.Lib.hid hm1
  have HXH := Go.Lib.hid hXh
  clear hT2 hbX hTX hmX hm1 hXh
  clear hx HT3 HB3 HREP htm hml hwX hb2 HMAT
  go_wp2_with fail
  refine HM1.out.mono ?_; rintro e w11 ⟨rfl, hx⟩
  obtain ⟨Y, hY⟩ : ∃ Y, w11.alloc (.cells #[.int .i64 s0.job, .int .i64 s0.id, .int .i64 s0.port, .string (mk s0.sn), .int .i64 s0.sa, .string (mk s0.qn), .int .i64 s0.qt, .int .i64 s0.qc, .string (mk s0.zone)] 36) = Y := ⟨_, rfl⟩
  have hwY : Below w11.heap.size w11 Y := by rw [← hY]; exact (Below.refl _ _).alloc (Nat.le_refl _) _
  have y6 : Y.heap[w11.heap.size]? = some (.cells (snA s0) 36 (0, 0)) := by rw [← hY]; exact heap_alloc_new _ _
  have hXY : Below X.heap.size X Y := hx.trans (hwY.mono hx.size)
  have hlen := Len_any w.heap.size w.heap.size (max 3 0) [sentN 3 id port addr, sentN 5 id port addr] Y (HTX.out.below hXY)
  have hbY := HBX.out.trans (hXY.mono HBX.out.size)
  have e0 := (SnBlk.of_heap y6).e0
  have hj3 : ((sentN 3 id port addr).job == 3) = true := rfl
  have HLEN := Go.Lib.hid hlen
  have HBY := Go.Lib.hid hbY
  clear hlen hbY
  clear hx HM1 hXY hwY y6 hX hXX m0 m1 m2 m3 m4 m5 m6 m7 m8 m9 m10 m11 m12 m13
  go_wp2_with fail
  refine HLEN.out.mono ?_; rintro e _ ⟨rfl, rfl⟩
  clear HLEN e0
  go_wp2_with fail
  refine (haw.out _).mono ?_; rintro e wz ⟨rfl, hx⟩
  have hbz := HBY.out.trans (hx.mono HBY.out.size)
  have HBZ := Go.Lib.hid hbz
  clear hbz
  clear hx
  go_wp2_with fail
  go_ret
  exact ⟨rfl, HBZ.out⟩

set_option maxRecDepth 100000 in
set_option maxHeartbeats 8000000 in
theorem v3 (id port addr k b : Int) (w : World) (hk : k % 6 = 3) (h1 : ¬ id < 0) (h2 : ¬ 65535 < id) (h3 : ¬ port < 0) (h4 : ¬ 65535 < port) (h5 : ¬ addr < 0) (h6 : ¬ 2147483648 < addr) (h7 : ¬ b < 1) (h8 : ¬ 1000 < b) :
    Calls Try.prog 4 #[.int .i64 id, .int .i64 port, .int .i64 addr, .int .i64 k, .int .i64 b] w fun e w' => e = .returned (.bool true) ∧ Below w.heap.size w w' := by
  have haw := Go.Lib.hid awake_any
  have hnew := New_any w.heap.size 3 w (Nat.le_refl _)
  have hround := fun W => Round_any k 6 W (by decide) (by decide)
  rw [hk] at hround
  have hw1 : IntKind.i64.wrap (id + b) = id + b := wrapi (by omega) (by omega)
  have hw2 : IntKind.i64.wrap (port + b) = port + b := wrapi (by omega) (by omega)
  have hw3 : IntKind.i64.wrap (addr + b) = addr + b := wrapi (by omega) (by omega)
  have hw4 : IntKind.i64.wrap (1 + b) = 1 + b := wrapi (by omega) (by omega)
  have hb0 : bits .and .i64 id 65535 = id := by rw [and16]; omega
  have hbb : bits .and .i64 (bits .and .i64 (id + b) 65535) 65535 = bits .and .i64 (id + b) 65535 := by rw [and16, and16]; omega
  have hb1 : ¬ bits .and .i64 (id + b) 65535 = id := by rw [and16]; omega
  have hit : ∀ j, hitN (addr + b) port (mK id [1, 97, 0] 1) (sentN j id port addr) = false := fun j => by
    rw [hit_eq, hb0]
    simp [same_a] <;> omega
  have hmat : matchN (addr + b) port (mK id [1, 97, 0] 1) [sentN 3 id port addr, sentN 5 id port addr] = (s0, false) := mat_no hit
  have hak : bits .and .i64 id 65535 = id := hb0
  have hask := fun W => refAsk_any id ⟨[1, 97, 0], 1, 1⟩ W
  rw [hak] at hask
  have HNEW := Go.Lib.hid hnew
  have HROUND := Go.Lib.hid hround
  have HMAT := Go.Lib.hid hmat
  have HASK := Go.Lib.hid hask
  clear hnew hround hmat hask
  clear hit hk hb0 hbb hb1 hak
  go_enter Try.func4, Try.ntmps4
  go_wp2_with fail
  refine HNEW.out.mono ?_; rintro e w1 ⟨rfl, hT, hb, hlt⟩
  have HT1 := Go.Lib.hid hT
  have HB1 := Go.Lib.hid hb
  clear hT hb
  clear HNEW h1 h2 h3 h4 h5 h6 h7 h8
  go_wp2_with fail
  refine (sent_any 5 id port addr w1).mono ?_; rintro e w2 ⟨rfl, hx⟩
  have hT2 := HT1.out.below hx
  have hb2 := HB1.out.trans (hx.mono HB1.out.size)
  have hadd := Add_any w.heap.size w.heap.size (max 3 0) [] (sentN 5 id port addr) w2 hT2 jobsUp_nil (by simp) hb2.size
  rw [add5] at hadd
  have HB2 := Go.Lib.hid hb2
  have HADD := Go.Lib.hid hadd
  clear hb2 hadd
  clear hx hT2 HT1 HB1
  go_wp2_with fail
  refine HADD.out.mono ?_; rintro e w3 ⟨rfl, hT3, hx, _⟩
  have hb3 := HB2.out.trans hx
  have HT3 := Go.Lib.hid hT3
  have HB3 := Go.Lib.hid hb3
  clear hT3 hb3
  clear hx HADD HB2
  go_wp2_with fail
  refine (sent_any 3 id port addr w3).mono ?_; rintro e w4 ⟨rfl, hx⟩
  have hT2 := HT3.out.below hx
  have hb2 := HB3.out.trans (hx.mono HB3.out.size)
  have hadd := Add_any w.heap.size w.heap.size (max 3 0) [sentN 5 id port addr] (sentN 3 id port addr) w4 hT2 (jobsUp_one _) (by simp) hb2.size
  rw [add3] at hadd
  have HB2 := Go.Lib.hid hb2
  have HADD := Go.Lib.hid hadd
  clear hb2 hadd
  clear hx hT2 HT3 HB3
  go_wp2_with fail
  refine HADD.out.mono ?_; rintro e w5 ⟨rfl, hT3, hx, _⟩
  have hb3 := HB2.out.trans hx
  have HT3 := Go.Lib.hid hT3
  have HB3 := Go.Lib.hid hb3
  clear hT3 hb3
  clear hx HADD HB2
  go_wp2_with fail
  refine (sent_any 1 1 1 1 w5).mono ?_; rintro e w8 ⟨rfl, hx⟩
  have hT2 := HT3.out.below hx
  have hb2 := HB3.out.trans (hx.mono HB3.out.size)
  have hfld := fld_sent w8
  have HB2 := Go.Lib.hid hb2
  have HT2 := Go.Lib.hid hT2
  clear hb2 hT2
  clear hx HT3 HB3
  go_wp2_with fail
  refine (HROUND.out _).mono ?_; rintro e _ ⟨rfl, rfl⟩
  go_wp2_with fail
  refine (HASK.out _).mono ?_; rintro e w9 ⟨f1, f2, f3, f4, rfl, htm, hx⟩
  have hx := ((Below.refl _ w8).alloc (Nat.le_refl _) _).trans (hx.mono (by simp))
  have hT2 := HT2.out.below hx
  have hb2 := HB2.out.trans (hx.mono HB2.out.size)
  have hrep : Calls Try.prog 22 #[MV (askN id ⟨[1, 97, 0], 1, 1⟩) f1 f2 f3 f4, .int .i64 0, .slice none 0 0, .slice none 0 0] w9 (RetM w9 (mK id [1, 97, 0] 1)) := refReply_any (askN id ⟨[1, 97, 0], 1, 1⟩) f1 f2 f3 f4 0 (.slice none 0 0) (.slice none 0 0) [] [] w9 htm.lies (SlC.nil _ _) (SlC.nil _ _) (by simp [askN]) (by simp) (by simp)
  have HB3 := Go.Lib.hid hb2
  have HT3 := Go.Lib.hid hT2
  have HREP := Go.Lib.hid hrep
  clear hb2 hT2 hrep
  clear hx HT2 HB2 HASK htm hfld
  go_wp2_with fail
  refine HREP.out.mono ?_; rintro e w10 ⟨f5, f6, f7, f8, rfl, htm, hx⟩
  have hqn : ∀ x ∈ (mK id [1, 97, 0] 1).qs, x.name.length ≤ maxLen := fun x hx => by
    obtain rfl : x = ⟨[1, 97, 0], 1, 1⟩ := by simpa [mK, replyN, askN] using hx
    exact (by decide : (3 : Nat) ≤ maxLen)
  have HQN := Go.Lib.hid hqn
  clear hqn
  generalize mK id [1, 97, 0] 1 = mR at *
  have hT2 := HT3.out.below hx
  have hb2 := HB3.out.trans (hx.mono HB3.out.size)
  have hml := htm.lies
  obtain ⟨aq, cq, rfl, _, _⟩ := hml.qs.slice
  obtain ⟨aa, ca, rfl, _, _⟩ := hml.an.slice
  obtain ⟨asv, cs, rfl, _, _⟩ := hml.sv.slice
  obtain ⟨ad, cd, rfl, _, _⟩ := hml.ad.slice
  obtain ⟨X, hX⟩ : ∃ X, w10.alloc (.cells #[.int .i64 mR.id, .bool mR.resp, .int .i64 mR.op, .bool mR.auth, .bool mR.cut, .bool mR.des, .bool mR.avail, .int .i64 mR.code, .slice aq mR.qs.length cq, .slice aa mR.an.length ca, .slice asv mR.sv.length cs, .slice ad mR.ad.length cd, .bool mR.edns, .int .i64 mR.size] 40) = X := ⟨_, rfl⟩
  have hwX : Below w10.heap.size w10 X := by rw [← hX]; exact (Below.refl _ _).alloc (Nat.le_refl _) _
  have hXh : X.heap[w10.heap.size]? = some (.cells (MC mR (.slice aq mR.qs.length cq) (.slice aa mR.an.length ca) (.slice asv mR.sv.length cs) (.slice ad mR.ad.length cd)) 40 (0, 0)) := by rw [← hX]; exact heap_alloc_new _ _
  have m0 := cells_later hXh 0 _ rfl
  have m1 := cells_later hXh 1 _ rfl
  have m2 := cells_later hXh 2 _ rfl
  have m3 := cells_later hXh 3 _ rfl
  have m4 := cells_later hXh 4 _ rfl
  have m5 := cells_later hXh 5 _ rfl
  have m6 := cells_later hXh 6 _ rfl
  have m7 := cells_later hXh 7 _ rfl
  have m8 := cells_later hXh 8 _ rfl
  have m9 := cells_later hXh 9 _ rfl
  have m10 := cells_later hXh 10 _ rfl
  have m11 := cells_later hXh 11 _ rfl
  have m12 := cells_later hXh 12 _ rfl
  have m13 := cells_later hXh 13 _ rfl
  have hTX := hT2.below hwX
  have hbX := hb2.trans (hwX.mono hb2.size)
  have hmX := hml.below hwX (Nat.le_refl _)
  have hXX : Below X.heap.size X X := Below.refl _ _
  have hm1 := Match_any w.heap.size w.heap.size (max 3 0) [sentN 3 id port addr, sentN 5 id port addr] (addr + b) port mR _ _ _ _ X hTX (by simp) hmX HQN.out (ok2 id port addr)
  rw [HMAT.out] at hm1
  have HT4 := Go.Lib.hid hT2
  have HBX := Go.Lib.hid hbX
  have HTX := Go.Lib.hid hTX
  have HMX := Go.Lib.hid hmX
  have HM1 := Go.Lib.hid hm1
  have HXH := Go.Lib.hid hXh
  clear hT2 hbX hTX hmX hm1 hXh
  clear hx HT3 HB3 HREP htm hml hwX hb2 HMAT
  go_wp2_with fail
  refine HM1.out.mono ?_; rintro e w11 ⟨rfl, hx⟩
  obtain ⟨Y, hY⟩ : ∃ Y, w11.alloc (.cells #[.int .i64 s0.job, .int .i64 s0.id, .int .i64 s0.port, .string (mk s0.sn), .int .i64 s0.sa, .string (mk s0.qn), .int .i64 s0.qt, .int .i64 s0.qc, .string (mk s0.zone)] 36) = Y := ⟨_, rfl⟩
  have hwY : Below w11.heap.size w11 Y := by rw [← hY]; exact (Below.refl _ _).alloc (Nat.le_refl _) _
  have y6 : Y.heap[w11.heap.size]? = some (.cells (snA s0) 36 (0, 0)) := by rw [← hY]; exact heap_alloc_new _ _
  have hXY : Below X.heap.size X Y := hx.trans (hwY.mono hx.size)
  have hlen := Len_any w.heap.size w.heap.size (max 3 0) [sentN 3 id port addr, sentN 5 id port addr] Y (HTX.out.below hXY)
  have hbY := HBX.out.trans (hXY.mono HBX.out.size)
  have e0 := (SnBlk.of_heap y6).e0
  have hj3 : ((sentN 3 id port addr).job == 3) = true := rfl
  have HLEN := Go.Lib.hid hlen
  have HBY := Go.Lib.hid hbY
  clear hlen hbY
  clear hx HM1 hXY hwY y6 hX hXX m0 m1 m2 m3 m4 m5 m6 m7 m8 m9 m10 m11 m12 m13
  go_wp2_with fail
  refine HLEN.out.mono ?_; rintro e _ ⟨rfl, rfl⟩
  clear HLEN e0
  go_wp2_with fail
  refine (haw.out _).mono ?_; rintro e wz ⟨rfl, hx⟩
  have hbz := HBY.out.trans (hx.mono HBY.out.size)
  have HBZ := Go.Lib.hid hbz
  clear hbz
  clear hx
  go_wp2_with fail
  go_ret
  exact ⟨rfl, HBZ.out⟩

set_option maxRecDepth 100000 in
set_option maxHeartbeats 8000000 in
theorem v4 (id port addr k b : Int) (w : World) (hk : k % 6 = 4) (h1 : ¬ id < 0) (h2 : ¬ 65535 < id) (h3 : ¬ port < 0) (h4 : ¬ 65535 < port) (h5 : ¬ addr < 0) (h6 : ¬ 2147483648 < addr) (h7 : ¬ b < 1) (h8 : ¬ 1000 < b) :
    Calls Try.prog 4 #[.int .i64 id, .int .i64 port, .int .i64 addr, .int .i64 k, .int .i64 b] w fun e w' => e = .returned (.bool true) ∧ Below w.heap.size w w' := by
  have haw := Go.Lib.hid awake_any
  have hnew := New_any w.heap.size 3 w (Nat.le_refl _)
  have hround := fun W => Round_any k 6 W (by decide) (by decide)
  rw [hk] at hround
  have hw1 : IntKind.i64.wrap (id + b) = id + b := wrapi (by omega) (by omega)
  have hw2 : IntKind.i64.wrap (port + b) = port + b := wrapi (by omega) (by omega)
  have hw3 : IntKind.i64.wrap (addr + b) = addr + b := wrapi (by omega) (by omega)
  have hw4 : IntKind.i64.wrap (1 + b) = 1 + b := wrapi (by omega) (by omega)
  have hb0 : bits .and .i64 id 65535 = id := by rw [and16]; omega
  have hbb : bits .and .i64 (bits .and .i64 (id + b) 65535) 65535 = bits .and .i64 (id + b) 65535 := by rw [and16, and16]; omega
  have hb1 : ¬ bits .and .i64 (id + b) 65535 = id := by rw [and16]; omega
  have hit : ∀ j, hitN addr port (mK id [1, 97, 0] (1 + b)) (sentN j id port addr) = false := fun j => by
    rw [hit_eq, hb0]
    simp [same_a] <;> omega
  have hmat : matchN addr port (mK id [1, 97, 0] (1 + b)) [sentN 3 id port addr, sentN 5 id port addr] = (s0, false) := mat_no hit
  have hak : bits .and .i64 id 65535 = id := hb0
  have hask := fun W => refAsk_any id ⟨[1, 97, 0], (1 + b), 1⟩ W
  rw [hak] at hask
  have HNEW := Go.Lib.hid hnew
  have HROUND := Go.Lib.hid hround
  have HMAT := Go.Lib.hid hmat
  have HASK := Go.Lib.hid hask
  clear hnew hround hmat hask
  clear hit hk hb0 hbb hb1 hak
  go_enter Try.func4, Try.ntmps4
  go_wp2_with fail
  refine HNEW.out.mono ?_; rintro e w1 ⟨rfl, hT, hb, hlt⟩
  have HT1 := Go.Lib.hid hT
  have HB1 := Go.Lib.hid hb
  clear hT hb
  clear HNEW h1 h2 h3 h4 h5 h6 h7 h8
  go_wp2_with fail
  refine (sent_any 5 id port addr w1).mono ?_; rintro e w2 ⟨rfl, hx⟩
  have hT2 := HT1.out.below hx
  have hb2 := HB1.out.trans (hx.mono HB1.out.size)
  have hadd := Add_any w.heap.size w.heap.size (max 3 0) [] (sentN 5 id port addr) w2 hT2 jobsUp_nil (by simp) hb2.size
  rw [add5] at hadd
  have HB2 := Go.Lib.hid hb2
  have HADD := Go.Lib.hid hadd
  clear hb2 hadd
  clear hx hT2 HT1 HB1
  go_wp2_with fail
  refine HADD.out.mono ?_; rintro e w3 ⟨rfl, hT3, hx, _⟩
  have hb3 := HB2.out.trans hx
  have HT3 := Go.Lib.hid hT3
  have HB3 := Go.Lib.hid hb3
  clear hT3 hb3
  clear hx HADD HB2
  go_wp2_with fail
  refine (sent_any 3 id port addr w3).mono ?_; rintro e w4 ⟨rfl, hx⟩
  have hT2 := HT3.out.below hx
  have hb2 := HB3.out.trans (hx.mono HB3.out.size)
  have hadd := Add_any w.heap.size w.heap.size (max 3 0) [sentN 5 id port addr] (sentN 3 id port addr) w4 hT2 (jobsUp_one _) (by simp) hb2.size
  rw [add3] at hadd
  have HB2 := Go.Lib.hid hb2
  have HADD := Go.Lib.hid hadd
  clear hb2 hadd
  clear hx hT2 HT3 HB3
  go_wp2_with fail
  refine HADD.out.mono ?_; rintro e w5 ⟨rfl, hT3, hx, _⟩
  have hb3 := HB2.out.trans hx
  have HT3 := Go.Lib.hid hT3
  have HB3 := Go.Lib.hid hb3
  clear hT3 hb3
  clear hx HADD HB2
  go_wp2_with fail
  refine (sent_any 1 1 1 1 w5).mono ?_; rintro e w8 ⟨rfl, hx⟩
  have hT2 := HT3.out.below hx
  have hb2 := HB3.out.trans (hx.mono HB3.out.size)
  have hfld := fld_sent w8
  have HB2 := Go.Lib.hid hb2
  have HT2 := Go.Lib.hid hT2
  clear hb2 hT2
  clear hx HT3 HB3
  go_wp2_with fail
  refine (HROUND.out _).mono ?_; rintro e _ ⟨rfl, rfl⟩
  go_wp2_with fail
  refine (HASK.out _).mono ?_; rintro e w9 ⟨f1, f2, f3, f4, rfl, htm, hx⟩
  have hx := ((Below.refl _ w8).alloc (Nat.le_refl _) _).trans (hx.mono (by simp))
  have hT2 := HT2.out.below hx
  have hb2 := HB2.out.trans (hx.mono HB2.out.size)
  have hrep : Calls Try.prog 22 #[MV (askN id ⟨[1, 97, 0], (1 + b), 1⟩) f1 f2 f3 f4, .int .i64 0, .slice none 0 0, .slice none 0 0] w9 (RetM w9 (mK id [1, 97, 0] (1 + b))) := refReply_any (askN id ⟨[1, 97, 0], (1 + b), 1⟩) f1 f2 f3 f4 0 (.slice none 0 0) (.slice none 0 0) [] [] w9 htm.lies (SlC.nil _ _) (SlC.nil _ _) (by simp [askN]) (by simp) (by simp)
  have HB3 := Go.Lib.hid hb2
  have HT3 := Go.Lib.hid hT2
  have HREP := Go.Lib.hid hrep
  clear hb2 hT2 hrep
  clear hx HT2 HB2 HASK htm hfld
  go_wp2_with fail
  refine HREP.out.mono ?_; rintro e w10 ⟨f5, f6, f7, f8, rfl, htm, hx⟩
  have hqn : ∀ x ∈ (mK id [1, 97, 0] (1 + b)).qs, x.name.length ≤ maxLen := fun x hx => by
    obtain rfl : x = ⟨[1, 97, 0], (1 + b), 1⟩ := by simpa [mK, replyN, askN] using hx
    exact (by decide : (3 : Nat) ≤ maxLen)
  have HQN := Go.Lib.hid hqn
  clear hqn
  generalize mK id [1, 97, 0] (1 + b) = mR at *
  have hT2 := HT3.out.below hx
  have hb2 := HB3.out.trans (hx.mono HB3.out.size)
  have hml := htm.lies
  obtain ⟨aq, cq, rfl, _, _⟩ := hml.qs.slice
  obtain ⟨aa, ca, rfl, _, _⟩ := hml.an.slice
  obtain ⟨asv, cs, rfl, _, _⟩ := hml.sv.slice
  obtain ⟨ad, cd, rfl, _, _⟩ := hml.ad.slice
  obtain ⟨X, hX⟩ : ∃ X, w10.alloc (.cells #[.int .i64 mR.id, .bool mR.resp, .int .i64 mR.op, .bool mR.auth, .bool mR.cut, .bool mR.des, .bool mR.avail, .int .i64 mR.code, .slice aq mR.qs.length cq, .slice aa mR.an.length ca, .slice asv mR.sv.length cs, .slice ad mR.ad.length cd, .bool mR.edns, .int .i64 mR.size] 40) = X := ⟨_, rfl⟩
  have hwX : Below w10.heap.size w10 X := by rw [← hX]; exact (Below.refl _ _).alloc (Nat.le_refl _) _
  have hXh : X.heap[w10.heap.size]? = some (.cells (MC mR (.slice aq mR.qs.length cq) (.slice aa mR.an.length ca) (.slice asv mR.sv.length cs) (.slice ad mR.ad.length cd)) 40 (0, 0)) := by rw [← hX]; exact heap_alloc_new _ _
  have m0 := cells_later hXh 0 _ rfl
  have m1 := cells_later hXh 1 _ rfl
  have m2 := cells_later hXh 2 _ rfl
  have m3 := cells_later hXh 3 _ rfl
  have m4 := cells_later hXh 4 _ rfl
  have m5 := cells_later hXh 5 _ rfl
  have m6 := cells_later hXh 6 _ rfl
  have m7 := cells_later hXh 7 _ rfl
  have m8 := cells_later hXh 8 _ rfl
  have m9 := cells_later hXh 9 _ rfl
  have m10 := cells_later hXh 10 _ rfl
  have m11 := cells_later hXh 11 _ rfl
  have m12 := cells_later hXh 12 _ rfl
  have m13 := cells_later hXh 13 _ rfl
  have hTX := hT2.below hwX
  have hbX := hb2.trans (hwX.mono hb2.size)
  have hmX := hml.below hwX (Nat.le_refl _)
  have hXX : Below X.heap.size X X := Below.refl _ _
  have hm1 := Match_any w.heap.size w.heap.size (max 3 0) [sentN 3 id port addr, sentN 5 id port addr] addr port mR _ _ _ _ X hTX (by simp) hmX HQN.out (ok2 id port addr)
  rw [HMAT.out] at hm1
  have HT4 := Go.Lib.hid hT2
  have HBX := Go.Lib.hid hbX
  have HTX := Go.Lib.hid hTX
  have HMX := Go.Lib.hid hmX
  have HM1 := Go.Lib.hid hm1
  have HXH := Go.Lib.hid hXh
  clear hT2 hbX hTX hmX hm1 hXh
  clear hx HT3 HB3 HREP htm hml hwX hb2 HMAT
  go_wp2_with fail
  refine HM1.out.mono ?_; rintro e w11 ⟨rfl, hx⟩
  obtain ⟨Y, hY⟩ : ∃ Y, w11.alloc (.cells #[.int .i64 s0.job, .int .i64 s0.id, .int .i64 s0.port, .string (mk s0.sn), .int .i64 s0.sa, .string (mk s0.qn), .int .i64 s0.qt, .int .i64 s0.qc, .string (mk s0.zone)] 36) = Y := ⟨_, rfl⟩
  have hwY : Below w11.heap.size w11 Y := by rw [← hY]; exact (Below.refl _ _).alloc (Nat.le_refl _) _
  have y6 : Y.heap[w11.heap.size]? = some (.cells (snA s0) 36 (0, 0)) := by rw [← hY]; exact heap_alloc_new _ _
  have hXY : Below X.heap.size X Y := hx.trans (hwY.mono hx.size)
  have hlen := Len_any w.heap.size w.heap.size (max 3 0) [sentN 3 id port addr, sentN 5 id port addr] Y (HTX.out.below hXY)
  have hbY := HBX.out.trans (hXY.mono HBX.out.size)
  have e0 := (SnBlk.of_heap y6).e0
  have hj3 : ((sentN 3 id port addr).job == 3) = true := rfl
  have HLEN := Go.Lib.hid hlen
  have HBY := Go.Lib.hid hbY
  clear hlen hbY
  clear hx HM1 hXY hwY y6 hX hXX m0 m1 m2 m3 m4 m5 m6 m7 m8 m9 m10 m11 m12 m13
  go_wp2_with fail
  refine HLEN.out.mono ?_; rintro e _ ⟨rfl, rfl⟩
  clear HLEN e0
  go_wp2_with fail
  refine (haw.out _).mono ?_; rintro e wz ⟨rfl, hx⟩
  have hbz := HBY.out.trans (hx.mono HBY.out.size)
  have HBZ := Go.Lib.hid hbz
  clear hbz
  clear hx
  go_wp2_with fail
  go_ret
  exact ⟨rfl, HBZ.out⟩

set_option maxRecDepth 100000 in
set_option maxHeartbeats 8000000 in
theorem v5 (id port addr k b : Int) (w : World) (hk : k % 6 = 5) (h1 : ¬ id < 0) (h2 : ¬ 65535 < id) (h3 : ¬ port < 0) (h4 : ¬ 65535 < port) (h5 : ¬ addr < 0) (h6 : ¬ 2147483648 < addr) (h7 : ¬ b < 1) (h8 : ¬ 1000 < b) :
    Calls Try.prog 4 #[.int .i64 id, .int .i64 port, .int .i64 addr, .int .i64 k, .int .i64 b] w fun e w' => e = .returned (.bool true) ∧ Below w.heap.size w w' := by
  have haw := Go.Lib.hid awake_any
  have hnew := New_any w.heap.size 3 w (Nat.le_refl _)
  have hround := fun W => Round_any k 6 W (by decide) (by decide)
  rw [hk] at hround
  have hw1 : IntKind.i64.wrap (id + b) = id + b := wrapi (by omega) (by omega)
  have hw2 : IntKind.i64.wrap (port + b) = port + b := wrapi (by omega) (by omega)
  have hw3 : IntKind.i64.wrap (addr + b) = addr + b := wrapi (by omega) (by omega)
  have hw4 : IntKind.i64.wrap (1 + b) = 1 + b := wrapi (by omega) (by omega)
  have hb0 : bits .and .i64 id 65535 = id := by rw [and16]; omega
  have hbb : bits .and .i64 (bits .and .i64 (id + b) 65535) 65535 = bits .and .i64 (id + b) 65535 := by rw [and16, and16]; omega
  have hb1 : ¬ bits .and .i64 (id + b) 65535 = id := by rw [and16]; omega
  have hit : ∀ j, hitN addr port (mK id [1, 98, 0] 1) (sentN j id port addr) = false := fun j => by
    rw [hit_eq, hb0]
    simp [same_b] <;> omega
  have hmat : matchN addr port (mK id [1, 98, 0] 1) [sentN 3 id port addr, sentN 5 id port addr] = (s0, false) := mat_no hit
  have hak : bits .and .i64 id 65535 = id := hb0
  have hask := fun W => refAsk_any id ⟨[1, 98, 0], 1, 1⟩ W
  rw [hak] at hask
  have HNEW := Go.Lib.hid hnew
  have HROUND := Go.Lib.hid hround
  have HMAT := Go.Lib.hid hmat
  have HASK := Go.Lib.hid hask
  clear hnew hround hmat hask
  clear hit hk hb0 hbb hb1 hak
  go_enter Try.func4, Try.ntmps4
  go_wp2_with fail
  refine HNEW.out.mono ?_; rintro e w1 ⟨rfl, hT, hb, hlt⟩
  have HT1 := Go.Lib.hid hT
  have HB1 := Go.Lib.hid hb
  clear hT hb
  clear HNEW h1 h2 h3 h4 h5 h6 h7 h8
  go_wp2_with fail
  refine (sent_any 5 id port addr w1).mono ?_; rintro e w2 ⟨rfl, hx⟩
  have hT2 := HT1.out.below hx
  have hb2 := HB1.out.trans (hx.mono HB1.out.size)
  have hadd := Add_any w.heap.size w.heap.size (max 3 0) [] (sentN 5 id port addr) w2 hT2 jobsUp_nil (by simp) hb2.size
  rw [add5] at hadd
  have HB2 := Go.Lib.hid hb2
  have HADD := Go.Lib.hid hadd
  clear hb2 hadd
  clear hx hT2 HT1 HB1
  go_wp2_with fail
  refine HADD.out.mono ?_; rintro e w3 ⟨rfl, hT3, hx, _⟩
  have hb3 := HB2.out.trans hx
  have HT3 := Go.Lib.hid hT3
  have HB3 := Go.Lib.hid hb3
  clear hT3 hb3
  clear hx HADD HB2
  go_wp2_with fail
  refine (sent_any 3 id port addr w3).mono ?_; rintro e w4 ⟨rfl, hx⟩
  have hT2 := HT3.out.below hx
  have hb2 := HB3.out.trans (hx.mono HB3.out.size)
  have hadd := Add_any w.heap.size w.heap.size (max 3 0) [sentN 5 id port addr] (sentN 3 id port addr) w4 hT2 (jobsUp_one _) (by simp) hb2.size
  rw [add3] at hadd
  have HB2 := Go.Lib.hid hb2
  have HADD := Go.Lib.hid hadd
  clear hb2 hadd
  clear hx hT2 HT3 HB3
  go_wp2_with fail
  refine HADD.out.mono ?_; rintro e w5 ⟨rfl, hT3, hx, _⟩
  have hb3 := HB2.out.trans hx
  have HT3 := Go.Lib.hid hT3
  have HB3 := Go.Lib.hid hb3
  clear hT3 hb3
  clear hx HADD HB2
  go_wp2_with fail
  refine (sent_any 1 1 1 1 w5).mono ?_; rintro e w8 ⟨rfl, hx⟩
  have hT2 := HT3.out.below hx
  have hb2 := HB3.out.trans (hx.mono HB3.out.size)
  have hfld := fld_sent w8
  have HB2 := Go.Lib.hid hb2
  have HT2 := Go.Lib.hid hT2
  clear hb2 hT2
  clear hx HT3 HB3
  go_wp2_with fail
  refine (HROUND.out _).mono ?_; rintro e _ ⟨rfl, rfl⟩
  go_wp2_with fail
  refine (HASK.out _).mono ?_; rintro e w9 ⟨f1, f2, f3, f4, rfl, htm, hx⟩
  have hx := ((Below.refl _ w8).alloc (Nat.le_refl _) _).trans (hx.mono (by simp))
  have hT2 := HT2.out.below hx
  have hb2 := HB2.out.trans (hx.mono HB2.out.size)
  have hrep : Calls Try.prog 22 #[MV (askN id ⟨[1, 98, 0], 1, 1⟩) f1 f2 f3 f4, .int .i64 0, .slice none 0 0, .slice none 0 0] w9 (RetM w9 (mK id [1, 98, 0] 1)) := refReply_any (askN id ⟨[1, 98, 0], 1, 1⟩) f1 f2 f3 f4 0 (.slice none 0 0) (.slice none 0 0) [] [] w9 htm.lies (SlC.nil _ _) (SlC.nil _ _) (by simp [askN]) (by simp) (by simp)
  have HB3 := Go.Lib.hid hb2
  have HT3 := Go.Lib.hid hT2
  have HREP := Go.Lib.hid hrep
  clear hb2 hT2 hrep
  clear hx HT2 HB2 HASK htm hfld
  go_wp2_with fail
  refine HREP.out.mono ?_; rintro e w10 ⟨f5, f6, f7, f8, rfl, htm, hx⟩
  have hqn : ∀ x ∈ (mK id [1, 98, 0] 1).qs, x.name.length ≤ maxLen := fun x hx => by
    obtain rfl : x = ⟨[1, 98, 0], 1, 1⟩ := by simpa [mK, replyN, askN] using hx
    exact (by decide : (3 : Nat) ≤ maxLen)
  have HQN := Go.Lib.hid hqn
  clear hqn
  generalize mK id [1, 98, 0] 1 = mR at *
  have hT2 := HT3.out.below hx
  have hb2 := HB3.out.trans (hx.mono HB3.out.size)
  have hml := htm.lies
  obtain ⟨aq, cq, rfl, _, _⟩ := hml.qs.slice
  obtain ⟨aa, ca, rfl, _, _⟩ := hml.an.slice
  obtain ⟨asv, cs, rfl, _, _⟩ := hml.sv.slice
  obtain ⟨ad, cd, rfl, _, _⟩ := hml.ad.slice
  obtain ⟨X, hX⟩ : ∃ X, w10.alloc (.cells #[.int .i64 mR.id, .bool mR.resp, .int .i64 mR.op, .bool mR.auth, .bool mR.cut, .bool mR.des, .bool mR.avail, .int .i64 mR.code, .slice aq mR.qs.length cq, .slice aa mR.an.length ca, .slice asv mR.sv.length cs, .slice ad mR.ad.length cd, .bool mR.edns, .int .i64 mR.size] 40) = X := ⟨_, rfl⟩
  have hwX : Below w10.heap.size w10 X := by rw [← hX]; exact (Below.refl _ _).alloc (Nat.le_refl _) _
  have hXh : X.heap[w10.heap.size]? = some (.cells (MC mR (.slice aq mR.qs.length cq) (.slice aa mR.an.length ca) (.slice asv mR.sv.length cs) (.slice ad mR.ad.length cd)) 40 (0, 0)) := by rw [← hX]; exact heap_alloc_new _ _
  have m0 := cells_later hXh 0 _ rfl
  have m1 := cells_later hXh 1 _ rfl
  have m2 := cells_later hXh 2 _ rfl
  have m3 := cells_later hXh 3 _ rfl
  have m4 := cells_later hXh 4 _ rfl
  have m5 := cells_later hXh 5 _ rfl
  have m6 := cells_later hXh 6 _ rfl
  have m7 := cells_later hXh 7 _ rfl
  have m8 := cells_later hXh 8 _ rfl
  have m9 := cells_later hXh 9 _ rfl
  have m10 := cells_later hXh 10 _ rfl
  have m11 := cells_later hXh 11 _ rfl
  have m12 := cells_later hXh 12 _ rfl
  have m13 := cells_later hXh 13 _ rfl
  have hTX := hT2.below hwX
  have hbX := hb2.trans (hwX.mono hb2.size)
  have hmX := hml.below hwX (Nat.le_refl _)
  have hXX : Below X.heap.size X X := Below.refl _ _
  have hm1 := Match_any w.heap.size w.heap.size (max 3 0) [sentN 3 id port addr, sentN 5 id port addr] addr port mR _ _ _ _ X hTX (by simp) hmX HQN.out (ok2 id port addr)
  rw [HMAT.out] at hm1
  have HT4 := Go.Lib.hid hT2
  have HBX := Go.Lib.hid hbX
  have HTX := Go.Lib.hid hTX
  have HMX := Go.Lib.hid hmX
  have HM1 := Go.Lib.hid hm1
  have HXH := Go.Lib.hid hXh
  clear hT2 hbX hTX hmX hm1 hXh
  clear hx HT3 HB3 HREP htm hml hwX hb2 HMAT
  go_wp2_with fail
  refine HM1.out.mono ?_; rintro e w11 ⟨rfl, hx⟩
  obtain ⟨Y, hY⟩ : ∃ Y, w11.alloc (.cells #[.int .i64 s0.job, .int .i64 s0.id, .int .i64 s0.port, .string (mk s0.sn), .int .i64 s0.sa, .string (mk s0.qn), .int .i64 s0.qt, .int .i64 s0.qc, .string (mk s0.zone)] 36) = Y := ⟨_, rfl⟩
  have hwY : Below w11.heap.size w11 Y := by rw [← hY]; exact (Below.refl _ _).alloc (Nat.le_refl _) _
  have y6 : Y.heap[w11.heap.size]? = some (.cells (snA s0) 36 (0, 0)) := by rw [← hY]; exact heap_alloc_new _ _
  have hXY : Below X.heap.size X Y := hx.trans (hwY.mono hx.size)
  have hlen := Len_any w.heap.size w.heap.size (max 3 0) [sentN 3 id port addr, sentN 5 id port addr] Y (HTX.out.below hXY)
  have hbY := HBX.out.trans (hXY.mono HBX.out.size)
  have e0 := (SnBlk.of_heap y6).e0
  have hj3 : ((sentN 3 id port addr).job == 3) = true := rfl
  have HLEN := Go.Lib.hid hlen
  have HBY := Go.Lib.hid hbY
  clear hlen hbY
  clear hx HM1 hXY hwY y6 hX hXX m0 m1 m2 m3 m4 m5 m6 m7 m8 m9 m10 m11 m12 m13
  go_wp2_with fail
  refine HLEN.out.mono ?_; rintro e _ ⟨rfl, rfl⟩
  clear HLEN e0
  go_wp2_with fail
  refine (haw.out _).mono ?_; rintro e wz ⟨rfl, hx⟩
  have hbz := HBY.out.trans (hx.mono HBY.out.size)
  have HBZ := Go.Lib.hid hbz
  clear hbz
  clear hx
  go_wp2_with fail
  go_ret
  exact ⟨rfl, HBZ.out⟩

theorem walk (id port addr k b : Int) (w : World) (_ : Fits id) (_ : Fits port) (_ : Fits addr) (_ : Fits k) (_ : Fits b) :
    Calls Try.prog 4 #[.int .i64 id, .int .i64 port, .int .i64 addr, .int .i64 k, .int .i64 b] w fun e w' => e = .returned (.bool true) ∧ Below w.heap.size w w' := by
  by_cases hg : ¬ id < 0 ∧ ¬ 65535 < id ∧ ¬ port < 0 ∧ ¬ 65535 < port ∧ ¬ addr < 0 ∧ ¬ 2147483648 < addr ∧ ¬ b < 1 ∧ ¬ 1000 < b
  · obtain ⟨h1, h2, h3, h4, h5, h6, h7, h8⟩ := hg
    have hc : k % 6 = 0 ∨ k % 6 = 1 ∨ k % 6 = 2 ∨ k % 6 = 3 ∨ k % 6 = 4 ∨ k % 6 = 5 := by omega
    rcases hc with hk | hk | hk | hk | hk | hk
    · exact v0 id port addr k b w hk h1 h2 h3 h4 h5 h6 h7 h8
    · exact v1 id port addr k b w hk h1 h2 h3 h4 h5 h6 h7 h8
    · exact v2 id port addr k b w hk h1 h2 h3 h4 h5 h6 h7 h8
    · exact v3 id port addr k b w hk h1 h2 h3 h4 h5 h6 h7 h8
    · exact v4 id port addr k b w hk h1 h2 h3 h4 h5 h6 h7 h8
    · exact v5 id port addr k b w hk h1 h2 h3 h4 h5 h6 h7 h8
  · exact t1 id port addr k b w (by omega)

set_option maxRecDepth 100000 in
theorem lifted (os : Os) (started : os.Started) (H : Type) (enc : TypeId × Value → H) :
    ReturnsInHanded {} Try.checked os 4 .any (Rows.flightMatchesSpec.pre6 enc Try.prog Try.f4 Rows.flightMatchesRow.domain false) (Rows.flightMatchesSpec.post enc Try.prog Try.f4 false true false false) := by
  refine returnsInHanded_of_change (C := Try.checked) own started (by kernel_rfl) Try.func4
    (ChangeSpec.witness6 (enc := enc) (C := Try.checked) false ⟨#[], #[.int .i64 0, .int .i64 0, .int .i64 0, .int .i64 0, .int .i64 0], []⟩ 8 (by kernel_rfl) (by kernel_rfl) (by kernel_rfl) (by kernel_rfl)) ?_
  intro W base args ds gs before hval0 hW hcnd _
  have hval : ∀ (j : Nat) t v, Try.f4.params[j]? = some t → args[j]? = some v → Value.okWide Try.prog W .any base t v := hval0
  refine law_post enc 5 (by kernel_rfl) rfl rfl (by kernel_rfl) (fun ds h => match ds, h with | [_, _, _, _, _], _ => rfl) hW ?_
  obtain ⟨p, q, hA0, hV, rfl, _, _⟩ := hW
  have hA : DataW.TrodAll enc Try.prog W 0 (fun _ => true) true Try.f4.params.toList args.toList ds p := hA0
  rw [Try.params4] at hA hval
  obtain ⟨v0, vs0, d0, ds0, p0, q0, hargs, rfl, rfl, h0, r0⟩ := trodAll_cons hA
  obtain ⟨v1, vs1, d1, ds1, p1, q1, rfl, rfl, rfl, h1, r1⟩ := trodAll_cons r0
  obtain ⟨v2, vs2, d2, ds2, p2, q2, rfl, rfl, rfl, h2, r2⟩ := trodAll_cons r1
  obtain ⟨v3, vs3, d3, ds3, p3, q3, rfl, rfl, rfl, h3, r3⟩ := trodAll_cons r2
  obtain ⟨v4, vs4, d4, ds4, p4, q4, rfl, rfl, rfl, h4, r4⟩ := trodAll_cons r3
  obtain ⟨rfl, rfl, rfl⟩ := trodAll_nil r4
  obtain rfl : args = #[v0, v1, v2, v3, v4] := by cases args; simp_all
  obtain ⟨a0, rfl, rfl, rfl, w0⟩ := open_int Try.underlying3 (hval 0 3 v0 rfl rfl) h0
  obtain ⟨a1, rfl, rfl, rfl, w1⟩ := open_int Try.underlying3 (hval 1 3 v1 rfl rfl) h1
  obtain ⟨a2, rfl, rfl, rfl, w2⟩ := open_int Try.underlying3 (hval 2 3 v2 rfl rfl) h2
  obtain ⟨a3, rfl, rfl, rfl, w3⟩ := open_int Try.underlying3 (hval 3 3 v3 rfl rfl) h3
  obtain ⟨a4, rfl, rfl, rfl, w4⟩ := open_int Try.underlying3 (hval 4 3 v4 rfl rfl) h4
  exact walk a0 a1 a2 a3 a4 W (fits_of_wf w0) (fits_of_wf w1) (fits_of_wf w2) (fits_of_wf w3) (fits_of_wf w4)

theorem over : Rows.flightMatchesRow.holds Try.pinned (OpenSpec.ofChange Rows.flightMatchesSpec) :=
  OpenClaim.holds_of_wide 4 Try.f4 rfl rfl rfl rfl rfl rfl rfl ⟨rfl, rfl, rfl, rfl, rfl⟩ rfl rfl rfl rfl rfl (by kernel_rfl) Try.func4 (by kernel_rfl)
    (of_decide_eq_true (by kernel_rfl)) (by unfold Func.isWrapper; first | (rw [if_pos (by decide +kernel)]; kernel_rfl) | (rw [if_neg (by decide +kernel)]; exact ⟨rfl, rfl⟩))
    (fun os started H enc _ => lifted os started H enc)

/-- the statement -/
theorem proved : Rows.FlightMatchesSaid := over
#print axioms proved
end Go.Proofs.Ytblbphnmflbepaa.flightMatches

