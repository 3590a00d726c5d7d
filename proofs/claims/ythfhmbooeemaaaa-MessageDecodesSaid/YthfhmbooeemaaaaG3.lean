/- Merged texts of the seat, in their order: RecB, RecC, RecD, RR, App2, Opn, MgB, Msg, MsgB, OrdC, Alk, AlkB, OpnM, BitsF. -/
import Derived.Test.YthfhmbooeemaaaaG1
import Derived.Test.YthfhmbooeemaaaaG2
import Derived.ArgAppend
import Derived.Deep.Slices
import Derived.Deep.Fields
import Derived.Laws.Rows
import Derived.Laws.Tables
import Derived.Laws.CopyOwn
import Derived.Deep.WholeRow
import Derived.BigQuiet
import Derived.Laws.BitsLemmas
/- The contracts of record.Data, and of the iterator that record.Names hands out. -/
namespace Go.Proofs.Ythfhmbooeemaaaa
open Go.RowKit Go.Shelf Go.Sq

attribute [local go_sem] Oper.semAt_some
set_option linter.unusedVariables false

set_option maxRecDepth 100000 in
set_option maxHeartbeats 2000000 in
theorem Data_any (t : Int) (s : ByteArray) (w : World) (hs : s.size ≤ maxLen) :
    Calls Try.prog 72 #[.int .i64 t, .string s] w fun e w' => e = .returned (.bool (Rc.dataB t (bl s))) ∧ Below w.heap.size w w' := by
  have hp := places_any t s w hs
  have htx := fun w => texts_any s w hs
  have hl := size_bl s
  have hd : Rc.dataB t (bl s) = if 1000 < (bl s).length then false else if t = 1 then decide ((bl s).length = 4) else if t = 28 then decide ((bl s).length = 16) else if t = 16 then Rc.textsB (bl s) else (Rc.placesP t (bl s)).2 := rfl
  rw [← hl] at hd
  generalize Rc.dataB t (bl s) = res at *
  generalize Rc.textsB (bl s) = tx at *
  generalize Rc.placesP t (bl s) = p at *
  obtain ⟨pl, pb⟩ := p
  simp only at hd
  have HP := Go.Lib.hid hp
  have HTX := Go.Lib.hid htx
  clear hp htx
  by_cases hbig : 1000 < s.size
  · rw [if_pos hbig] at hd
    have e1 : 1000 < (s.size : Int) := by omega
    have HD := Go.Lib.hid hd
    clear hd
    clear hs hl hbig
    go_enter Try.func72, Try.ntmps72
    go_wp2_with fail
    refine HP.out.mono ?_; rintro e w1 ⟨v, rfl, hst, hb⟩
    have HB := Go.Lib.hid hb
    clear hb
    clear hst
    go_wp2_with fail
    go_ret
    exact ⟨ret_bool HD.out.symm, HB.out⟩
  · rw [if_neg hbig] at hd
    have e1 : ¬ 1000 < (s.size : Int) := by omega
    by_cases h1 : t = 1
    · rw [if_pos h1] at hd
      subst h1
      by_cases h4 : s.size = 4
      · rw [decide_eq_true h4] at hd
        have e2 : ((s.size : Int) == 4) = true := by rw [beq_iff_eq]; omega
        have HD := Go.Lib.hid hd
        clear hd
        clear hs hl hbig h4
        go_enter Try.func72, Try.ntmps72
        go_wp2_with fail
        refine HP.out.mono ?_; rintro e w1 ⟨v, rfl, hst, hb⟩
        have HB := Go.Lib.hid hb
        clear hb
        clear hst
        go_wp2_with fail
        go_ret
        exact ⟨ret_bool HD.out.symm, HB.out⟩
      · rw [decide_eq_false h4] at hd
        have e2 : ((s.size : Int) == 4) = false := by rw [beq_eq_false_iff_ne]; omega
        have HD := Go.Lib.hid hd
        clear hd
        clear hs hl hbig h4
        go_enter Try.func72, Try.ntmps72
        go_wp2_with fail
        refine HP.out.mono ?_; rintro e w1 ⟨v, rfl, hst, hb⟩
        have HB := Go.Lib.hid hb
        clear hb
        clear hst
        go_wp2_with fail
        go_ret
        exact ⟨ret_bool HD.out.symm, HB.out⟩
    · rw [if_neg h1] at hd
      have e3 : (t == 1) = false := by rw [beq_eq_false_iff_ne]; exact h1
      by_cases h28 : t = 28
      · rw [if_pos h28] at hd
        subst h28
        clear h1 e3
        by_cases h4 : s.size = 16
        · rw [decide_eq_true h4] at hd
          have e2 : ((s.size : Int) == 16) = true := by rw [beq_iff_eq]; omega
          have HD := Go.Lib.hid hd
          clear hd
          clear hs hl hbig h4
          go_enter Try.func72, Try.ntmps72
          go_wp2_with fail
          refine HP.out.mono ?_; rintro e w1 ⟨v, rfl, hst, hb⟩
          have HB := Go.Lib.hid hb
          clear hb
          clear hst
          go_wp2_with fail
          go_ret
          exact ⟨ret_bool HD.out.symm, HB.out⟩
        · rw [decide_eq_false h4] at hd
          have e2 : ((s.size : Int) == 16) = false := by rw [beq_eq_false_iff_ne]; omega
          have HD := Go.Lib.hid hd
          clear hd
          clear hs hl hbig h4
          go_enter Try.func72, Try.ntmps72
          go_wp2_with fail
          refine HP.out.mono ?_; rintro e w1 ⟨v, rfl, hst, hb⟩
          have HB := Go.Lib.hid hb
          clear hb
          clear hst
          go_wp2_with fail
          go_ret
          exact ⟨ret_bool HD.out.symm, HB.out⟩
      · rw [if_neg h28] at hd
        have e4 : (t == 28) = false := by rw [beq_eq_false_iff_ne]; exact h28
        by_cases h16 : t = 16
        · rw [if_pos h16] at hd
          subst h16
          have HD := Go.Lib.hid hd
          clear hd
          clear hs hl hbig e3 e4 h1 h28
          go_enter Try.func72, Try.ntmps72
          go_wp2_with fail
          refine HP.out.mono ?_; rintro e w1 ⟨v, rfl, hst, hb⟩
          have HB := Go.Lib.hid hb
          clear hb
          clear hst
          go_wp2_with fail
          refine (HTX.out _).mono ?_; rintro e _ ⟨rfl, rfl⟩
          go_wp2_with fail
          go_ret
          exact ⟨ret_bool HD.out.symm, HB.out⟩
        · rw [if_neg h16] at hd
          have e5 : (t == 16) = false := by rw [beq_eq_false_iff_ne]; exact h16
          have HD := Go.Lib.hid hd
          clear hd
          clear hs hl hbig h1 h28 h16
          go_enter Try.func72, Try.ntmps72
          go_wp2_with fail
          refine HP.out.mono ?_; rintro e w1 ⟨v, rfl, hst, hb⟩
          have HB := Go.Lib.hid hb
          clear hb
          clear hst
          go_wp2_with fail
          go_ret
          exact ⟨ret_bool HD.out.symm, HB.out⟩

/-! ### Names -/
/-- record.Names(t, d): both are boxed; the function value captures the boxes -/
theorem Names_any (t : Int) (s : ByteArray) (w : World) :
    Calls Try.prog 67 #[.int .i64 t, .string s] w fun e w' => e = .returned (.func (.func 79) #[] #[.pointer (some ⟨w.heap.size, 0, none⟩), .pointer (some ⟨w.heap.size + 1, 0, none⟩)]) ∧
      w' = (w.alloc (.cells #[.int .i64 t] 3)).alloc (.cells #[.string s] 9) := by
  go_enter Try.func67, Try.ntmps67
  go_wp2
  go_ret
  exact ⟨rfl, rfl⟩

theorem abides_below {β : Type} {B : Nat} {J : β → World → Prop} (hJ : AbidesFrom B J) {s : β} {W W' : World} (h : J s W) (hb : Below W.heap.size W W') : J s W' :=
  hJ s W W' none h ⟨hb.os, hb.tape, hb.output, hb.size, fun k hk _ => hb.block k hk⟩ (fun r e => by cases e)

abbrev IsPlace (T : Nat) : Prop := T = 124
/-- the pairs as the iterator hands them out -/
def encPair (p : Nat × Nat) : Array Value := #[.int .i64 p.1, .int .i64 p.2]

theorem pair_cells {w : World} {B e k cap : Nat} {a : Option Addr} {L : List (Nat × Nat)} (h : w.ownsRow B e 2 (.slice a L.length cap) L.length (encP L)) (hk : k < L.length) :
    ∃ g cur, a = some ⟨g, 0, none⟩ ∧ w.heap[g]? = some (.cells cur e (0, 0)) ∧ w.cell? ⟨g, k * 2, none⟩ = some (.int .i64 (L.getD k (0, 0)).1) ∧ w.cell? ⟨g, k * 2 + 1, none⟩ = some (.int .i64 (L.getD k (0, 0)).2) := by
  have hP : Pairs w (.slice a L.length cap) L := SlC.of_owns h
  obtain ⟨b, off, ha, _, hc⟩ := Pairs.at hP (by omega)
  obtain ⟨h1, h2⟩ := h
  rcases h2 with ⟨hv, h0⟩ | ⟨g, cap', cur, hv, _, hg, _⟩
  · simp only [Value.slice.injEq] at hv
    omega
  · simp only [Value.slice.injEq] at hv
    obtain ⟨hv1, _, _⟩ := hv
    rw [hv1] at ha
    simp only [Option.some.injEq, Addr.mk.injEq] at ha
    obtain ⟨rfl, rfl, _⟩ := ha
    obtain ⟨c1, c2⟩ := hc k hk
    rw [Nat.zero_add, Nat.mul_comm] at c1 c2
    exact ⟨g, cur, hv1, hg, c1, c2⟩

set_option maxRecDepth 100000 in
set_option maxHeartbeats 2000000 in
theorem names_seq (n : Nat) (hn : 3 ≤ n) (Bt Bd : Nat) (t : Int) (s : ByteArray) (hs : s.size ≤ maxLen) (w : World) (hBt : Bt < w.heap.size) (hBd : Bd < w.heap.size)
    (hct : w.cell? ⟨Bt, 0, none⟩ = some (.int .i64 t)) (hcd : w.cell? ⟨Bd, 0, none⟩ = some (.string s)) :
    SeqOk Fence.wide n Try.prog 79 #[.pointer (some ⟨Bt, 0, none⟩), .pointer (some ⟨Bd, 0, none⟩)] encPair (KpT IsPlace)
      (fun xs => xs <+: (Rc.partsN t (bl s)).getD []) (fun xs => xs = (Rc.partsN t (bl s)).getD []) (fun xs => xs <+: (Rc.partsN t (bl s)).getD []) w := fun l J Jx W hW hJ hJx hY h0 => by
  have hct' := (hW.cell (p := ⟨Bt, 0, none⟩) hBt).trans hct
  have hcd' := (hW.cell (p := ⟨Bd, 0, none⟩) hBd).trans hcd
  have hd := fun w => Data_any t s w hs
  have hp := fun w => places_any t s w hs
  have hsz := hW.size
  clear hct hcd hs
  cases hdt : Rc.dataB t (bl s) with
  | false =>
    rw [hdt] at hd
    rw [Rc.partsN_none hdt] at hY ⊢
    have HD := Go.Lib.hid hd
    have HY := Go.Lib.hid hY
    have HJ := Go.Lib.hid hJ
    have HJX := Go.Lib.hid hJx
    have H0 := Go.Lib.hid h0
    have HW := Go.Lib.hid hW
    clear hd hY hJ hJx h0 hW
    clear hp hdt
    refine callsIn_of_wp Try.func79 rfl trivial ?_ rfl
    simp only [Try.ntmps79, List.size_toArray, List.length_cons, List.length_nil, Nat.reduceAdd, Nat.reduceSub, Array.replicate_succ, Array.replicate_zero, List.push_toArray, List.append_toArray, List.nil_append, List.cons_append]
    gi_wp2_with fail
    refine ⟨trivial, fun _ => by omega, (callsIn_wide.2 (HD.out _)).mono ?_⟩
    rintro e W1 ⟨rfl, hb⟩
    have hj := abides_below HJ.out H0.out hb
    have HJ1 := Go.Lib.hid hj
    have HB := Go.Lib.hid hb
    clear hj hb
    gi_wp2_with fail
    refine bodyPost_ret (results_none rfl _ _ _) rfl ?_
    exact ⟨⟨_, rfl⟩, .inl ⟨[], rfl, HJ1.out⟩⟩
  | true =>
    rw [hdt] at hd
    rw [Rc.partsN_some hdt] at hY ⊢
    simp only [Option.getD_some] at hY ⊢
    have HD := Go.Lib.hid hd
    have HY := Go.Lib.hid hY
    have HJ := Go.Lib.hid hJ
    have HJX := Go.Lib.hid hJx
    have H0 := Go.Lib.hid h0
    have HW := Go.Lib.hid hW
    have HP := Go.Lib.hid hp
    clear hd hY hJ hJx h0 hW hp
    have hL2 := (Rc.placesP_chain t (bl s)).2
    clear hdt
    generalize Rc.placesP t (bl s) = p at *
    obtain ⟨L, pb⟩ := p
    simp only at HY hL2
    refine callsIn_of_wp Try.func79 rfl trivial ?_ rfl
    simp only [Try.ntmps79, List.size_toArray, List.length_cons, List.length_nil, Nat.reduceAdd, Nat.reduceSub, Array.replicate_succ, Array.replicate_zero, List.push_toArray, List.append_toArray, List.nil_append, List.cons_append]
    gi_wp2_with fail
    refine ⟨trivial, fun _ => by omega, (callsIn_wide.2 (HD.out _)).mono ?_⟩
    rintro e W1 ⟨rfl, hb⟩
    have hj := abides_below HJ.out H0.out hb
    have hct2 := (hb.cell (p := ⟨Bt, 0, none⟩) (by show Bt < _; omega)).trans hct'
    have hcd2 := (hb.cell (p := ⟨Bd, 0, none⟩) (by show Bd < _; omega)).trans hcd'
    have hsz1 := hb.size
    have HJ1 := Go.Lib.hid hj
    have HB := Go.Lib.hid hb
    clear hj hb
    clear hct' hcd'
    gi_wp2_with fail
    refine ⟨trivial, fun _ => by omega, (callsIn_wide.2 (HP.out _)).mono ?_⟩
    rintro e W2 ⟨v, rfl, hown, hb2⟩
    have hj := abides_below HJ.out HJ1.out hb2
    have hsz2 := hb2.size
    obtain ⟨a, cap, rfl, hcap, hcm⟩ := (SlC.of_owns hown).slice
    have HJ2 := Go.Lib.hid hj
    have HB2 := Go.Lib.hid hb2
    have HO := Go.Lib.hid hown
    clear hj hb2 hown
    clear hct2 hcd2
    gi_wp2_with fail
    gi_loopw [20] (fun i wr => ∃ k : Nat, k ≤ L.length ∧ i = .int .i64 k ∧ J (L.take k) wr ∧ KpT IsPlace W2 wr)
      (fun i _ => L.length - (intOf i).toNat)
    case atStart => exact ⟨0, Nat.zero_le _, rfl, by simpa using HJ2.out, KpT.refl _⟩
    case round =>
      obtain ⟨k, hk, rfl, hj, hkp⟩ := hrel
      have HJS := Go.Lib.hid hj
      have HKP := Go.Lib.hid hkp
      clear hj hkp
      by_cases hlt : k < L.length
      · obtain ⟨g, cur, hga, hrow, hc1, hc2⟩ := pair_cells HO.out hlt
        cases hga
        have hr1 := (HKP.out.cell (o := k * 2) rfl hrow).trans hc1
        have hr2 := (HKP.out.cell (o := k * 2 + 1) rfl hrow).trans hc2
        have hsn : L.take (k + 1) = L.take k ++ [L.getD k (0, 0)] := by
          rw [List.take_succ_eq_append_getElem hlt]
          simp [hlt]
        have HSN := Go.Lib.hid hsn
        have HROW := Go.Lib.hid hrow
        clear hsn hrow
        clear hc1 hc2
        generalize L.getD k (0, 0) = q at *
        obtain ⟨qa, qn⟩ := q
        have hj3 := abides_below HJ.out HJS.out ((Below.refl _ wr).alloc (Nat.le_refl _) (.cells #[.int .i64 qa, .int .i64 qn] 124))
        have hpre : L.take k ++ [(qa, qn)] <+: L := by rw [← HSN.out]; exact List.take_prefix _ _
        obtain ⟨fn, tmps, assign, body, hy, hR⟩ := HY.out _ (qa, qn) _ hj3 hpre
        unfold encPair at hy
        have hkp3 := HKP.out.alloc (.cells #[.int .i64 qa, .int .i64 qn] 124)
        have HR := Go.Lib.hid hR
        have HJ3 := Go.Lib.hid hj3
        have HKP3 := Go.Lib.hid hkp3
        have HPRE := Go.Lib.hid hpre
        clear hR hj3 hkp3 hpre
        gi_wp2_with fail
        refine ⟨fun _ => by omega, HR.out.mono ?_⟩
        rintro e W3 (⟨rfl, hJ3, hk3⟩ | ⟨rfl, hJx3⟩)
        · have HJ4 := Go.Lib.hid hJ3
          have HK4 := Go.Lib.hid hk3
          clear hJ3 hk3
          clear hy
          gi_wp2_with fail
          go_roundw
          case rel => exact ⟨k + 1, by omega, by simp, by rw [HSN.out]; exact HJ4.out, HKP3.out.trans HK4.out⟩
          case measure => simp [intOf]; omega
        · have HJX4 := Go.Lib.hid hJx3
          clear hJx3
          clear hy
          gi_wp2_with fail
          refine bodyPost_ret (results_none rfl _ _ _) rfl ?_
          exact ⟨⟨_, rfl⟩, .inr ⟨_, HPRE.out, HJX4.out⟩⟩
      · obtain rfl : k = L.length := by omega
        gi_wp2_with fail
        go_end0
        exact ⟨⟨_, rfl⟩, .inl ⟨_, rfl, by have := HJS.out; rwa [List.take_length] at this⟩⟩
end Go.Proofs.Ythfhmbooeemaaaa

/- The contracts of record.Fold and record.Same: data with its names folded, and whether two records are alike. -/
namespace Go.Proofs.Ythfhmbooeemaaaa
open Go.RowKit Go.Shelf Go.Sq
set_option linter.unusedVariables false

attribute [local go_sem] Oper.semAt_some

theorem BelowC.cell {W : World} {p : Addr} {v : Value} (h : W.cell? p = some v) (hp : p.block < W.heap.size) (w3 : Subtype (Below W.heap.size W)) : w3.1.cell? p = some v := (w3.2.cell hp).trans h
theorem foldD_run (t : Int) (d : List UInt8) : Rc.foldD t d = (Rc.runF d ((Rc.partsN t d).getD [])).1 ++ d.drop (Rc.runF d ((Rc.partsN t d).getD [])).2 := by
  unfold Rc.foldD
  cases h : Rc.partsN t d with
  | none => rfl
  | some l => exact (Rc.runF_fold (Rc.partsN_chain h).1).1
theorem parts_chain (t : Int) (d : List UInt8) : Rc.Chain d 0 ((Rc.partsN t d).getD []) := by
  cases h : Rc.partsN t d with
  | none => exact Nat.zero_le _
  | some l => exact (Rc.partsN_chain h).1

theorem keepsFrom_below {B : Nat} {W W' : World} (h : Below W.heap.size W W') : KeepsFrom B W W' := KeepsFrom.of_grownBy (row := none) ⟨h.os, h.tape, h.output, h.size, fun k hk _ => h.block k hk⟩ (fun j e => by cases e)

abbrev fr50 (t : Int) (s : ByteArray) (N : Nat) (x : Nat × Nat) : Act := { tmps := #[.int .i64 t, .string s, undef, .pointer (some ⟨N, 0, none⟩), .string ⟨#[]⟩, .pointer (some ⟨N + 1, 0, none⟩), .pointer (some ⟨N + 1 + 1, 0, none⟩), .int .i64 (x.1 : Int), .int .i64 (x.2 : Int), .int .i64 t, .string s,
  .func (.func 79) #[] #[.pointer (some ⟨N + 1 + 1 + 1, 0, none⟩), .pointer (some ⟨N + 1 + 1 + 1 + 1, 0, none⟩)], .int .i64 (x.1 : Int), .int .i64 (x.2 : Int), undef, undef, undef, undef, undef, undef, undef, undef, undef, undef, undef, undef, undef, undef, undef, undef, undef, undef, undef, undef, undef, undef], defers := [] }

/-- what the loop has laid by -/
def FoldI (w : World) (s : ByteArray) (t : Int) (pre : List (Nat × Nat)) (W : World) : Prop :=
  ((Boxed W w.heap.size 9 (.string s) ∧ Boxed W (w.heap.size + 1) 9 (.string (mk (Rc.runF (bl s) pre).1)) ∧ Boxed W (w.heap.size + 1 + 1) 3 (.int .i64 ((Rc.runF (bl s) pre).2 : Int))) ∧ Below w.heap.size w W) ∧ w.heap.size + 5 ≤ W.heap.size

set_option maxRecDepth 100000 in
set_option maxHeartbeats 4000000 in
theorem recFold_any (t : Int) (s : ByteArray) (w : World) (hs : s.size ≤ maxLen) :
    Calls Try.prog 83 #[.int .i64 t, .string s] w fun e w' => e = .returned (.string (mk (Rc.foldD t (bl s)))) ∧ Below w.heap.size w w' := by
  have hfin := Go.Lib.hid (foldD_run t (bl s))
  have hch := Go.Lib.hid (parts_chain t (bl s))
  have hnm := fun w => Names_any t s w
  have HNM := Go.Lib.hid hnm
  clear hnm
  refine (callsIn_wide (n := 6)).1 ?_
  refine callsIn_of_wp_marks Try.func83 rfl trivial ?_ rfl
  simp only [Try.ntmps83, List.size_toArray, List.length_cons, List.length_nil, Nat.reduceAdd, Nat.reduceSub, Array.replicate_succ, Array.replicate_zero, List.push_toArray, List.append_toArray, List.nil_append, List.cons_append]
  gi_wp2_with fail
  refine ⟨trivial, (callsIn_wide.2 (HNM.out _)).mono ?_⟩
  rintro e w2 ⟨rfl, hw2⟩
  have hsz2 : w2.heap.size = w.heap.size + 5 := by rw [hw2]; simp
  have hb2 : Below w.heap.size w w2 := by
    rw [hw2]
    exact ((((((Below.refl _ w).alloc (Nat.le_refl _) _).alloc (by simp) _).alloc (by simp; omega) _).alloc (by simp; omega) _).alloc (by simp; omega) _)
  have x1 : Boxed w2 w.heap.size 9 (.string s) := by
    rw [hw2]; exact ((((Boxed.new w _ _).alloc _).alloc _).alloc _).alloc _
  have x2 : Boxed w2 (w.heap.size + 1) 9 (.string ⟨#[]⟩) := by
    rw [hw2]
    have := Boxed.new (w.alloc (.cells #[.string s] 9)) 9 (.string ⟨#[]⟩)
    rw [World.size_alloc] at this
    exact ((this.alloc _).alloc _).alloc _
  have x3 : Boxed w2 (w.heap.size + 1 + 1) 3 (.int .i64 0) := by
    rw [hw2]
    have := Boxed.new ((w.alloc (.cells #[.string s] 9)).alloc (.cells #[.string ⟨#[]⟩] 9)) 3 (.int .i64 0)
    rw [World.size_alloc, World.size_alloc] at this
    exact (this.alloc _).alloc _
  have x4 : Boxed w2 (w.heap.size + 1 + 1 + 1) 3 (.int .i64 t) := by
    rw [hw2]
    have := Boxed.new (((w.alloc (.cells #[.string s] 9)).alloc (.cells #[.string ⟨#[]⟩] 9)).alloc (.cells #[.int .i64 0] 3)) 3 (.int .i64 t)
    rw [World.size_alloc, World.size_alloc, World.size_alloc] at this
    exact this.alloc _
  have x5 : Boxed w2 (w.heap.size + 1 + 1 + 1 + 1) 9 (.string s) := by
    rw [hw2]
    have := Boxed.new ((((w.alloc (.cells #[.string s] 9)).alloc (.cells #[.string ⟨#[]⟩] 9)).alloc (.cells #[.int .i64 0] 3)).alloc (.cells #[.int .i64 t] 3)) 9 (.string s)
    rw [World.size_alloc, World.size_alloc, World.size_alloc, World.size_alloc] at this
    exact this
  have hseq := names_seq 5 (by omega) _ _ t s hs w2 (by rw [hsz2]; omega) (by rw [hsz2]; omega) x4.cell x5.cell
  have h0 : FoldI w s t [] w2 := ⟨⟨⟨x1, x2, x3⟩, hb2⟩, by omega⟩
  have HSEQ := Go.Lib.hid hseq
  have H0 := Go.Lib.hid h0
  clear hseq h0
  clear x1 x2 x3 x4 x5 hw2
  have HSZ2 := Go.Lib.hid hsz2
  have HB2 := Go.Lib.hid hb2
  clear hsz2 hb2
  have HSM := Go.Lib.hid hs
  clear hs
  gi_wp2_with fail
  refine wpIn_rangeFunc_ok rfl (by omega) (gf := 79) (lb := #[.pointer (some ⟨w.heap.size + 1 + 1 + 1, 0, none⟩), .pointer (some ⟨w.heap.size + 1 + 1 + 1 + 1, 0, none⟩)]) rfl trivial (enters_of Try.func79 (by kernel_rfl) rfl)
    HSEQ.out KpT.trans (fun W l o o' _ h1 h2 _ => KpT.put W l o o' h1 h2) (Below.refl _ _) (fun _ => rfl)
    (FoldI w s t) (fun _ _ _ => False)
    (OwnFrom.and (OwnFrom.and (OwnFrom.and (Own.from (boxed_own _ _ (fun _ => _)) _) (OwnFrom.and (Own.from (boxed_own _ _ (fun pre => .string (mk (Rc.runF (bl s) pre).1))) _) (Own.from (boxed_own _ _ (fun pre => .int .i64 ((Rc.runF (bl s) pre).2 : Int))) _))) (ownFrom_below (Nat.le_refl _) (by rw [HSZ2.out]; omega))) (fun _ _ _ _ hs hg _ => Nat.le_trans hs hg.size))
    (fun _ _ _ _ _ h _ _ => h) H0.out (fun x a' _ => a' = fr50 t s w.heap.size x) (fun _ _ _ _ _ _ hs _ _ => hs) ?assign ?body ?done ?stop
  case assign =>
    intro l pre x W K hi hok hK
    have HK := Go.Lib.hid hK
    have HI := Go.Lib.hid hi
    clear hK hi
    unfold encPair
    gi_wp2
    exact HK.out _ _ (KeepsFrom.refl _ _) (KpT.refl _) HI.out rfl
  case body =>
    rintro l pre x a' W ⟨⟨⟨b1, b2, b3⟩, hb⟩, hz⟩ hok rfl
    have hnx := Rc.runF_next (d := bl s) (l := pre) (p := x) (by
      obtain ⟨m, hm⟩ := hok
      have := hch.out
      rw [← hm] at this
      exact Rc.chain_prefix _ _ _ this)
    obtain ⟨xa, xn⟩ := x
    simp only at hnx
    obtain ⟨n1, n2, n3⟩ := hnx
    have hrl := Rc.runF_fold (d := bl s) (l := pre) (by
      obtain ⟨m, hm⟩ := hok
      have := hch.out
      rw [← hm] at this
      exact Rc.chain_prefix _ _ _ (Rc.chain_prefix _ _ _ this))
    obtain ⟨_, r2, r3⟩ := hrl
    have hrun := Rc.runF_snoc (bl s) pre (xa, xn)
    generalize Rc.runF (bl s) pre = st at *
    obtain ⟨out, fr⟩ := st
    simp only at n1 r2 r3 b2 b3
    unfold Rc.runStep at hrun
    simp only at hrun
    have HB := Go.Lib.hid hb
    have HRUN := Go.Lib.hid hrun
    clear hb hrun
    clear hok
    have c1 := BelowC.cell (W := W) b1.cell b1.lt
    have c2 := BelowC.cell (W := W) b2.cell b2.lt
    have c3 := BelowC.cell (W := W) b3.cell b3.lt
    have k1 := b1.lt
    have k2 := b2.lt
    have hsz := size_bl s
    have hsm := HSM.out
    unfold maxLen at hsm
    have hx1 : s.extract fr xa = mk (((bl s).drop fr).take (xa - fr)) := by rw [← bl_extract, mk_bl]
    have hx2 : s.extract xa (xa + xn) = mk (((bl s).drop xa).take xn) := by
      have := bl_extract s xa (xa + xn)
      rw [show xa + xn - xa = xn by omega] at this
      rw [← this, mk_bl]
    have l1 : (((bl s).drop fr).take (xa - fr)).length = xa - fr := by rw [List.length_take, List.length_drop]; omega
    have l2 : (((bl s).drop xa).take xn).length = xn := by rw [List.length_take, List.length_drop]; omega
    have hfo := fun w => Fold_any (mk (((bl s).drop xa).take xn)) w (by rw [size_mk, l2]; unfold maxLen; omega)
    rw [bl_mk] at hfo
    have l3 : (Nm.foldN (((bl s).drop xa).take xn)).length = xn := by rw [Nm.foldN_length, l2]
    generalize ((bl s).drop fr).take (xa - fr) = p1 at *
    generalize ((bl s).drop xa).take xn = p2 at *
    generalize Nm.foldN p2 = p3 at *
    have s1 : (mk p1).size = xa - fr := by rw [size_mk, l1]
    have s3 : (mk p3).size = xn := by rw [size_mk, l3]
    have s4 : (mk (p1 ++ p3)).size = xa - fr + xn := by rw [size_mk, List.length_append, l1, l3]
    have s5 : (mk out).size = fr := by rw [size_mk, r2]
    have e1 : mk p1 ++ mk p3 = mk (p1 ++ p3) := by apply bl_inj; rw [bl_append, bl_mk, bl_mk, bl_mk]
    have e2 : mk out ++ mk (p1 ++ p3) = mk (out ++ (p1 ++ p3)) := by apply bl_inj; rw [bl_append, bl_mk, bl_mk, bl_mk]
    have q1 : ¬ 9223372036854775807 < xa - fr + xn := by omega
    have q2 : ¬ 9223372036854775807 < fr + (xa - fr + xn) := by omega
    have w1 : IntKind.i64.wrap ((xa : Int) + (xn : Int)) = (xa : Int) + (xn : Int) := by rw [IntKind.wrap_i64]; omega
    have w2' : ((xa : Int) + (xn : Int)).toNat = xa + xn := by omega
    have i1 : (fr : Int) ≤ (xa : Int) := by omega
    have i2 : (xa : Int) ≤ (s.size : Int) := by omega
    have i3 : (xa : Int) + (xn : Int) ≤ (s.size : Int) := by omega
    have i4 : (xa : Int) ≤ (xa : Int) + (xn : Int) := by omega
    have i5 : (0 : Int) ≤ (xa : Int) + (xn : Int) := by omega
    have i6 : xa + xn ≤ s.size := by omega
    have i7 : xa ≤ s.size := by omega
    have HFO := Go.Lib.hid hfo
    have HSZ := Go.Lib.hid hsz
    have HSM2 := Go.Lib.hid hsm
    have HR3 := Go.Lib.hid r3
    have HL1 := Go.Lib.hid l1
    have HL2 := Go.Lib.hid l2
    have HL3 := Go.Lib.hid l3
    have HN2 := Go.Lib.hid n2
    clear hfo hsz hsm r3 l1 l2 l3 n2
    have hne : Nonempty (Subtype (Below W.heap.size W)) := ⟨⟨W, Below.refl _ _⟩⟩
    gi_wp2_with fail
    refine Go.Mix.wpIn_region_mixT (Es := [11]) 14 (Below W.heap.size W) mixed (by kernel_rfl) (Below.refl _ _).drew ?_
    iterate 11 (refine Go.Mix.mixT_step rfl (fun K hK => ?_); have HKK := Go.Lib.hid hK; clear hK; go_simp; refine HKK.out _ _ ?_; clear HKK K)
    refine Go.Mix.mixT_eff rfl (fun K hK => ?_)
    have HKK := Go.Lib.hid hK
    clear hK
    go_simp
    refine (HFO.out _).mono ?_; rintro e W7 ⟨rfl, hx⟩
    have hb7 : Below W.heap.size W W7 := ((Below.refl W.heap.size W).drew).trans hx
    have y2 : Boxed W7 (w.heap.size + 1) 9 (.string (mk out)) := (hb7.block _ b2.lt).trans b2
    have y1 : Boxed W7 w.heap.size 9 (.string s) := (hb7.block _ b1.lt).trans b1
    have y3 : Boxed W7 (w.heap.size + 1 + 1) 3 (.int .i64 fr) := (hb7.block _ b3.lt).trans b3
    have hz7 := hb7.size
    have HX := Go.Lib.hid hx
    have HB7 := Go.Lib.hid hb7
    clear hx hb7
    go_simp
    refine HKK.out _ _ HB7.out ?_
    clear HKK K c1 c2 c3
    iterate 2 (refine Go.Mix.mixT_step rfl (fun K hK => ?_); have HKK := Go.Lib.hid hK; clear hK; go_simp; refine HKK.out _ _ ?_; clear HKK K)
    have z2 := y2.cell
    have z3 := y2.frozen
    refine Go.Mix.mixT_last rfl (fun K hK => ?_)
    have HKK := Go.Lib.hid hK
    clear hK
    go_simp
    refine HKK.out _ _ ?_
    clear HKK K z2 z3
    have u2 := y2.set (.string (mk (out ++ (p1 ++ p3))))
    have u1 := y1.other (B' := w.heap.size + 1) (by omega) (.string (mk (out ++ (p1 ++ p3))))
    have u3 := y3.other (B' := w.heap.size + 1) (by omega) (.string (mk (out ++ (p1 ++ p3))))
    have hk8 : KeepsFrom w2.heap.size W (W7.setCell ⟨w.heap.size + 1, 0, none⟩ (.string (mk (out ++ (p1 ++ p3))))) := (keepsFrom_below HB7.out).trans ((KeepsOthers.setCell _ _ _).from _)
    have hp8 : KpT IsPlace W (W7.setCell ⟨w.heap.size + 1, 0, none⟩ (.string (mk (out ++ (p1 ++ p3))))) := (KpT.of_below HB7.out).set (a := ⟨w.heap.size + 1, 0, none⟩) y2 (by decide) _
    have hb8 : Below w.heap.size w (W7.setCell ⟨w.heap.size + 1, 0, none⟩ (.string (mk (out ++ (p1 ++ p3))))) := (HB.out.trans (HB7.out.mono HB.out.size)).setCell (p := ⟨w.heap.size + 1, 0, none⟩) (by simp) _
    have hz8 : w.heap.size + 5 ≤ (W7.setCell ⟨w.heap.size + 1, 0, none⟩ (.string (mk (out ++ (p1 ++ p3))))).heap.size := by simp; omega
    clear y1 y2 y3
    generalize W7.setCell ⟨w.heap.size + 1, 0, none⟩ (.string (mk (out ++ (p1 ++ p3)))) = W8 at *
    have z4 := u3.cell
    have z5 := u3.frozen
    have z6 := u3.lt
    have HK8 := Go.Lib.hid hk8
    have HP8 := Go.Lib.hid hp8
    have HB8 := Go.Lib.hid hb8
    clear hk8 hp8 hb8
    gi_wp2_with fail
    refine ⟨HK8.out.trans ((KeepsOthers.setCell _ _ _).from _), HP8.out.set (a := ⟨w.heap.size + 1 + 1, 0, none⟩) u3 (by decide) _, ⟨⟨?_, ?_, ?_⟩, HB8.out.setCell (p := ⟨w.heap.size + 1 + 1, 0, none⟩) (by simp; omega) _⟩, ?_⟩
    · exact u1.other (by omega) _
    · rw [HRUN.out]; exact u2.other (by omega) _
    · rw [HRUN.out]
      have := u3.set (.int .i64 ((xa + xn : Nat) : Int))
      exact this
    · simp; omega
  case done =>
    rintro D ys W hD hys ⟨⟨⟨b1, b2, b3⟩, hb⟩, hz⟩ hK
    have hrl := Rc.runF_fold (d := bl s) (l := ys) (by rw [hys]; exact hch.out)
    have hres : Hid (Rc.foldD t (bl s) = (Rc.runF (bl s) ys).1 ++ (bl s).drop (Rc.runF (bl s) ys).2) := Go.Lib.hid (by rw [hys]; exact hfin.out)
    obtain ⟨_, r2, r3⟩ := hrl
    generalize Rc.runF (bl s) ys = st at *
    obtain ⟨out, fr⟩ := st
    simp only at r2 r3 b2 b3 hres
    have c1 := BelowC.cell (W := W) b1.cell b1.lt
    have c2 := BelowC.cell (W := W) b2.cell b2.lt
    have c3 := BelowC.cell (W := W) b3.cell b3.lt
    have hsz := size_bl s
    have hsm := HSM.out
    unfold maxLen at hsm
    have hx1 : s.extract fr s.size = mk ((bl s).drop fr) := by
      apply bl_inj
      rw [bl_extract, bl_mk]
      exact List.take_of_length_le (by rw [List.length_drop, hsz]; exact Nat.le_refl _)
    have l1 : ((bl s).drop fr).length = s.size - fr := by rw [List.length_drop, hsz]
    generalize (bl s).drop fr = p1 at *
    have s1 : (mk p1).size = s.size - fr := by rw [size_mk, l1]
    have s5 : (mk out).size = fr := by rw [size_mk, r2]
    have e2 : mk out ++ mk p1 = mk (out ++ p1) := by apply bl_inj; rw [bl_append, bl_mk, bl_mk, bl_mk]
    have q2 : ¬ 9223372036854775807 < fr + (s.size - fr) := by omega
    have q3 : ¬ 9223372036854775807 < s.size := by omega
    have i1 : (fr : Int) ≤ (s.size : Int) := by omega
    have i7 : fr ≤ s.size := by omega
    have HB := Go.Lib.hid hb
    have HK := Go.Lib.hid hK
    have HSZ := Go.Lib.hid hsz
    have HSM2 := Go.Lib.hid hsm
    have HR3 := Go.Lib.hid r3
    have HL1 := Go.Lib.hid l1
    have HYS := Go.Lib.hid hys
    have HDD := Go.Lib.hid hD
    clear hb hK hsz hsm r3 l1 hys hD
    clear b1 b2 b3
    gi_wp2_with fail
    refine wpIn_wide.2 (Go.Mix.wp_region_mix (Es := []) (Below W.heap.size W) mixed (by kernel_rfl) (Below.refl _ _).drew (fun _ => ?_))
    iterate 6 (refine Go.Mix.mix_step rfl (fun K hK => ?_); have HKK := Go.Lib.hid hK; clear hK; go_simp; refine HKK.out _ _ ?_; clear HKK K)
    refine Go.Mix.mix_nil ?_
    gi_wp2_with fail
    refine ⟨by simp, .inl ⟨_, _, rfl, run_takeDeferred HK.out, ?_⟩⟩
    refine ⟨_, results_tmp rfl _ _ _, ?_⟩
    refine ⟨by rw [hres.out]; rfl, HB.out.trans ((Below.refl _ W).drew.trans (belowK_b (w := w) (Nat.le_refl _) W.drew D _ _ (by have := HDD.out; rw [HSZ2.out] at this; omega) HK.out rfl rfl))⟩
  case stop => exact fun _ _ _ _ _ _ h _ => h.elim
end Go.Proofs.Ythfhmbooeemaaaa

/- The contract of record.Same: whether two records are alike. -/
namespace Go.Proofs.Ythfhmbooeemaaaa
open Go.RowKit Go.Shelf Go.Sq
set_option linter.unusedVariables false

/-- a record as a value, and as cells -/
def rrC (r : Rc.RR) : Array Value := #[.string (mk r.name), .int .i64 r.ty, .int .i64 r.cl, .int .i64 r.ttl, .string (mk r.data)]
abbrev rrV (r : Rc.RR) : Value := .agg #[.string (mk r.name), .int .i64 r.ty, .int .i64 r.cl, .int .i64 r.ttl, .string (mk r.data)]
/-- its texts are texts of a machine -/
def RROk (r : Rc.RR) : Prop := r.name.length ≤ maxLen ∧ r.data.length ≤ maxLen

theorem two_boxes (w : World) (x y : Array Value) (T : TypeId) :
    ((w.alloc (.cells x T)).alloc (.cells y T)).heap[w.heap.size]? = some (.cells x T (0, 0)) ∧ ((w.alloc (.cells x T)).alloc (.cells y T)).heap[w.heap.size + 1]? = some (.cells y T (0, 0)) := by
  constructor
  · exact (Below.heap_alloc _ _ _ (by simp)).trans (World.alloc_heap_new w _)
  · have := World.alloc_heap_new (w.alloc (.cells x T)) (.cells y T)
    rwa [World.size_alloc] at this
theorem cell_of_heap {W : World} {B : Nat} {cs : Array Value} {T : TypeId} (h : W.heap[B]? = some (.cells cs T (0, 0))) (j : Nat) : W.cell? ⟨B, j, none⟩ = cs[j]? := by
  simp [World.cell?, h]

set_option maxRecDepth 100000 in
set_option maxHeartbeats 4000000 in
theorem recSame_any (a b : Rc.RR) (w : World) (ha : RROk a) (hb : RROk b) :
    Calls Try.prog 74 #[rrV a, rrV b] w fun e w' => e = .returned (.bool (Rc.sameRR a b)) ∧ Below w.heap.size w w' := by
  obtain ⟨ha1, ha2⟩ := ha
  obtain ⟨hb1, hb2⟩ := hb
  have hn1 := fun w => Fold_any (mk a.name) w (by rw [size_mk]; exact ha1)
  have hn2 := fun w => Fold_any (mk b.name) w (by rw [size_mk]; exact hb1)
  have hd1 := fun w => recFold_any a.ty (mk a.data) w (by rw [size_mk]; exact ha2)
  have hd2 := fun w => recFold_any b.ty (mk b.data) w (by rw [size_mk]; exact hb2)
  rw [bl_mk] at hn1 hn2 hd1 hd2
  have hres : Rc.sameRR a b = ((Nm.foldN a.name == Nm.foldN b.name) && (a.ty == b.ty) && (a.cl == b.cl) && (Rc.foldD a.ty a.data == Rc.foldD b.ty b.data)) := rfl
  obtain ⟨h1, h2⟩ := two_boxes w (rrC a) (rrC b) 45
  have h0 : Below w.heap.size w ((w.alloc (.cells (rrC a) 45)).alloc (.cells (rrC b) 45)) := ((Below.refl _ w).alloc (Nat.le_refl _) _).alloc (by simp) _
  unfold rrC at h1 h2 h0
  obtain ⟨an, aty, acl, attl, ad⟩ := a
  obtain ⟨bn, bty, bcl, bttl, bd⟩ := b
  simp only at *
  generalize Rc.sameRR _ _ = res at *
  have hnn : ((mk (Nm.foldN an)).toList == (mk (Nm.foldN bn)).toList) = (Nm.foldN an == Nm.foldN bn) := eqs _ _
  have hdd : ((mk (Rc.foldD aty ad)).toList == (mk (Rc.foldD bty bd)).toList) = (Rc.foldD aty ad == Rc.foldD bty bd) := eqs _ _
  generalize mk (Nm.foldN an) = fan at *
  generalize mk (Nm.foldN bn) = fbn at *
  generalize mk (Rc.foldD aty ad) = fad at *
  generalize mk (Rc.foldD bty bd) = fbd at *
  generalize (Nm.foldN an == Nm.foldN bn) = q1 at *
  generalize (Rc.foldD aty ad == Rc.foldD bty bd) = q4 at *
  have HRES := Go.Lib.hid hres
  have HN1 := Go.Lib.hid hn1
  have HN2 := Go.Lib.hid hn2
  have HD1 := Go.Lib.hid hd1
  have HD2 := Go.Lib.hid hd2
  have H0 := Go.Lib.hid h0
  clear hres hn1 hn2 hd1 hd2 h0
  clear ha1 ha2 hb1 hb2
  have hg1 := cell_of_heap h1
  have hg2 := cell_of_heap h2
  have hlt1 := (Array.getElem?_eq_some_iff.1 h1).1
  have hlt2 := (Array.getElem?_eq_some_iff.1 h2).1
  have HX1 := Go.Lib.hid h1
  have HX2 := Go.Lib.hid h2
  clear h1 h2
  go_enter Try.func74, Try.ntmps74
  go_wp2_with fail
  generalize (w.alloc (.cells #[.string (mk an), .int .i64 aty, .int .i64 acl, .int .i64 attl, .string (mk ad)] 45)).alloc (.cells #[.string (mk bn), .int .i64 bty, .int .i64 bcl, .int .i64 bttl, .string (mk bd)] 45) = W at *
  have a0 : ∀ w3 : Subtype (Below W.heap.size W), w3.1.cell? ⟨w.heap.size, 0, none⟩ = some (.string (mk an)) := BelowC.cell (hg1 0) hlt1
  have a1 : ∀ w3 : Subtype (Below W.heap.size W), w3.1.cell? ⟨w.heap.size, 1, none⟩ = some (.int .i64 aty) := BelowC.cell (hg1 1) hlt1
  have a2 : ∀ w3 : Subtype (Below W.heap.size W), w3.1.cell? ⟨w.heap.size, 2, none⟩ = some (.int .i64 acl) := BelowC.cell (hg1 2) hlt1
  have a4 : ∀ w3 : Subtype (Below W.heap.size W), w3.1.cell? ⟨w.heap.size, 4, none⟩ = some (.string (mk ad)) := BelowC.cell (hg1 4) hlt1
  have b0 : ∀ w3 : Subtype (Below W.heap.size W), w3.1.cell? ⟨w.heap.size + 1, 0, none⟩ = some (.string (mk bn)) := BelowC.cell (hg2 0) hlt2
  have b1 : ∀ w3 : Subtype (Below W.heap.size W), w3.1.cell? ⟨w.heap.size + 1, 1, none⟩ = some (.int .i64 bty) := BelowC.cell (hg2 1) hlt2
  have b2 : ∀ w3 : Subtype (Below W.heap.size W), w3.1.cell? ⟨w.heap.size + 1, 2, none⟩ = some (.int .i64 bcl) := BelowC.cell (hg2 2) hlt2
  have b4 : ∀ w3 : Subtype (Below W.heap.size W), w3.1.cell? ⟨w.heap.size + 1, 4, none⟩ = some (.string (mk bd)) := BelowC.cell (hg2 4) hlt2
  have HBC := Go.Lib.hid (show Below W.heap.size W W.drew from (Below.refl W.heap.size W).drew)
  clear hg1 hg2
  cases q1 with
  | false =>
    have hr : res = false := by rw [HRES.out]; rfl
    have HR := Go.Lib.hid hr
    clear hr
    refine Go.Mix.wp_region_mix (Es := [2, 5, 26, 31]) (Below W.heap.size W) mixed (by kernel_rfl) (Below.refl _ _).drew (fun _ => ?_)
    iterate 2 (refine Go.Mix.mix_step rfl (fun K hK => ?_); have HKK := Go.Lib.hid hK; clear hK; go_simp; refine HKK.out _ _ ?_; clear HKK K)
    refine Go.Mix.mix_eff rfl (fun K hK => ?_)
    have HKK := Go.Lib.hid hK
    clear hK
    go_simp
    refine (HN1.out _).mono ?_; rintro e wb1 ⟨rfl, hx⟩
    have hb := HBC.out.trans (hx.mono HBC.out.size)
    clear HBC
    have HBC := Go.Lib.hid hb
    clear hx hb
    go_simp
    refine HKK.out _ _ HBC.out ?_
    clear HKK K
    iterate 2 (refine Go.Mix.mix_step rfl (fun K hK => ?_); have HKK := Go.Lib.hid hK; clear hK; go_simp; refine HKK.out _ _ ?_; clear HKK K)
    refine Go.Mix.mix_eff rfl (fun K hK => ?_)
    have HKK := Go.Lib.hid hK
    clear hK
    go_simp
    refine (HN2.out _).mono ?_; rintro e wb2 ⟨rfl, hx⟩
    have hb := HBC.out.trans (hx.mono HBC.out.size)
    clear HBC
    have HBC := Go.Lib.hid hb
    clear hx hb
    go_simp
    refine HKK.out _ _ HBC.out ?_
    clear HKK K
    iterate 20 (refine Go.Mix.mix_step rfl (fun K hK => ?_); have HKK := Go.Lib.hid hK; clear hK; go_simp; refine HKK.out _ _ ?_; clear HKK K)
    refine Go.Mix.mix_eff rfl (fun K hK => ?_)
    have HKK := Go.Lib.hid hK
    clear hK
    go_simp
    refine HKK.out _ _ HBC.out ?_
    clear HKK K
    iterate 4 (refine Go.Mix.mix_step rfl (fun K hK => ?_); have HKK := Go.Lib.hid hK; clear hK; go_simp; refine HKK.out _ _ ?_; clear HKK K)
    refine Go.Mix.mix_eff rfl (fun K hK => ?_)
    have HKK := Go.Lib.hid hK
    clear hK
    go_simp
    refine HKK.out _ _ HBC.out ?_
    clear HKK K
    iterate 3 (refine Go.Mix.mix_step rfl (fun K hK => ?_); have HKK := Go.Lib.hid hK; clear hK; go_simp; refine HKK.out _ _ ?_; clear HKK K)
    refine Go.Mix.mix_nil ?_
    go_wp2_with fail
    go_ret
    exact ⟨ret_bool HR.out.symm, H0.out.trans (HBC.out.mono H0.out.size)⟩
  | true =>
    by_cases ht : aty = bty
    · subst ht
      have e1 : (aty == aty) = true := beq_self_eq_true _
      by_cases hc : acl = bcl
      · subst hc
        have e2 : (acl == acl) = true := beq_self_eq_true _
        have hr : res = q4 := by rw [HRES.out, e1, e2]; simp
        have HR := Go.Lib.hid hr
        clear hr
        refine Go.Mix.wp_region_mix (Es := [2, 5, 26, 31]) (Below W.heap.size W) mixed (by kernel_rfl) (Below.refl _ _).drew (fun _ => ?_)
        iterate 2 (refine Go.Mix.mix_step rfl (fun K hK => ?_); have HKK := Go.Lib.hid hK; clear hK; go_simp; refine HKK.out _ _ ?_; clear HKK K)
        refine Go.Mix.mix_eff rfl (fun K hK => ?_)
        have HKK := Go.Lib.hid hK
        clear hK
        go_simp
        refine (HN1.out _).mono ?_; rintro e wb3 ⟨rfl, hx⟩
        have hb := HBC.out.trans (hx.mono HBC.out.size)
        clear HBC
        have HBC := Go.Lib.hid hb
        clear hx hb
        go_simp
        refine HKK.out _ _ HBC.out ?_
        clear HKK K
        iterate 2 (refine Go.Mix.mix_step rfl (fun K hK => ?_); have HKK := Go.Lib.hid hK; clear hK; go_simp; refine HKK.out _ _ ?_; clear HKK K)
        refine Go.Mix.mix_eff rfl (fun K hK => ?_)
        have HKK := Go.Lib.hid hK
        clear hK
        go_simp
        refine (HN2.out _).mono ?_; rintro e wb4 ⟨rfl, hx⟩
        have hb := HBC.out.trans (hx.mono HBC.out.size)
        clear HBC
        have HBC := Go.Lib.hid hb
        clear hx hb
        go_simp
        refine HKK.out _ _ HBC.out ?_
        clear HKK K
        iterate 20 (refine Go.Mix.mix_step rfl (fun K hK => ?_); have HKK := Go.Lib.hid hK; clear hK; go_simp; refine HKK.out _ _ ?_; clear HKK K)
        refine Go.Mix.mix_eff rfl (fun K hK => ?_)
        have HKK := Go.Lib.hid hK
        clear hK
        go_simp
        refine (HD1.out _).mono ?_; rintro e wb5 ⟨rfl, hx⟩
        have hb := HBC.out.trans (hx.mono HBC.out.size)
        clear HBC
        have HBC := Go.Lib.hid hb
        clear hx hb
        go_simp
        refine HKK.out _ _ HBC.out ?_
        clear HKK K
        iterate 4 (refine Go.Mix.mix_step rfl (fun K hK => ?_); have HKK := Go.Lib.hid hK; clear hK; go_simp; refine HKK.out _ _ ?_; clear HKK K)
        refine Go.Mix.mix_eff rfl (fun K hK => ?_)
        have HKK := Go.Lib.hid hK
        clear hK
        go_simp
        refine (HD2.out _).mono ?_; rintro e wb6 ⟨rfl, hx⟩
        have hb := HBC.out.trans (hx.mono HBC.out.size)
        clear HBC
        have HBC := Go.Lib.hid hb
        clear hx hb
        go_simp
        refine HKK.out _ _ HBC.out ?_
        clear HKK K
        iterate 3 (refine Go.Mix.mix_step rfl (fun K hK => ?_); have HKK := Go.Lib.hid hK; clear hK; go_simp; refine HKK.out _ _ ?_; clear HKK K)
        refine Go.Mix.mix_nil ?_
        go_wp2_with fail
        go_ret
        exact ⟨ret_bool HR.out.symm, H0.out.trans (HBC.out.mono H0.out.size)⟩
      · have e2 : (acl == bcl) = false := beq_eq_false_iff_ne.2 hc
        have hr : res = false := by rw [HRES.out, e1, e2]; simp
        have HR := Go.Lib.hid hr
        clear hr
        refine Go.Mix.wp_region_mix (Es := [2, 5, 26, 31]) (Below W.heap.size W) mixed (by kernel_rfl) (Below.refl _ _).drew (fun _ => ?_)
        iterate 2 (refine Go.Mix.mix_step rfl (fun K hK => ?_); have HKK := Go.Lib.hid hK; clear hK; go_simp; refine HKK.out _ _ ?_; clear HKK K)
        refine Go.Mix.mix_eff rfl (fun K hK => ?_)
        have HKK := Go.Lib.hid hK
        clear hK
        go_simp
        refine (HN1.out _).mono ?_; rintro e wb7 ⟨rfl, hx⟩
        have hb := HBC.out.trans (hx.mono HBC.out.size)
        clear HBC
        have HBC := Go.Lib.hid hb
        clear hx hb
        go_simp
        refine HKK.out _ _ HBC.out ?_
        clear HKK K
        iterate 2 (refine Go.Mix.mix_step rfl (fun K hK => ?_); have HKK := Go.Lib.hid hK; clear hK; go_simp; refine HKK.out _ _ ?_; clear HKK K)
        refine Go.Mix.mix_eff rfl (fun K hK => ?_)
        have HKK := Go.Lib.hid hK
        clear hK
        go_simp
        refine (HN2.out _).mono ?_; rintro e wb8 ⟨rfl, hx⟩
        have hb := HBC.out.trans (hx.mono HBC.out.size)
        clear HBC
        have HBC := Go.Lib.hid hb
        clear hx hb
        go_simp
        refine HKK.out _ _ HBC.out ?_
        clear HKK K
        iterate 20 (refine Go.Mix.mix_step rfl (fun K hK => ?_); have HKK := Go.Lib.hid hK; clear hK; go_simp; refine HKK.out _ _ ?_; clear HKK K)
        refine Go.Mix.mix_eff rfl (fun K hK => ?_)
        have HKK := Go.Lib.hid hK
        clear hK
        go_simp
        refine HKK.out _ _ HBC.out ?_
        clear HKK K
        iterate 4 (refine Go.Mix.mix_step rfl (fun K hK => ?_); have HKK := Go.Lib.hid hK; clear hK; go_simp; refine HKK.out _ _ ?_; clear HKK K)
        refine Go.Mix.mix_eff rfl (fun K hK => ?_)
        have HKK := Go.Lib.hid hK
        clear hK
        go_simp
        refine HKK.out _ _ HBC.out ?_
        clear HKK K
        iterate 3 (refine Go.Mix.mix_step rfl (fun K hK => ?_); have HKK := Go.Lib.hid hK; clear hK; go_simp; refine HKK.out _ _ ?_; clear HKK K)
        refine Go.Mix.mix_nil ?_
        go_wp2_with fail
        go_ret
        exact ⟨ret_bool HR.out.symm, H0.out.trans (HBC.out.mono H0.out.size)⟩
    · have e1 : (aty == bty) = false := beq_eq_false_iff_ne.2 ht
      have hr : res = false := by rw [HRES.out, e1]; simp
      have HR := Go.Lib.hid hr
      clear hr
      refine Go.Mix.wp_region_mix (Es := [2, 5, 26, 31]) (Below W.heap.size W) mixed (by kernel_rfl) (Below.refl _ _).drew (fun _ => ?_)
      iterate 2 (refine Go.Mix.mix_step rfl (fun K hK => ?_); have HKK := Go.Lib.hid hK; clear hK; go_simp; refine HKK.out _ _ ?_; clear HKK K)
      refine Go.Mix.mix_eff rfl (fun K hK => ?_)
      have HKK := Go.Lib.hid hK
      clear hK
      go_simp
      refine (HN1.out _).mono ?_; rintro e wb9 ⟨rfl, hx⟩
      have hb := HBC.out.trans (hx.mono HBC.out.size)
      clear HBC
      have HBC := Go.Lib.hid hb
      clear hx hb
      go_simp
      refine HKK.out _ _ HBC.out ?_
      clear HKK K
      iterate 2 (refine Go.Mix.mix_step rfl (fun K hK => ?_); have HKK := Go.Lib.hid hK; clear hK; go_simp; refine HKK.out _ _ ?_; clear HKK K)
      refine Go.Mix.mix_eff rfl (fun K hK => ?_)
      have HKK := Go.Lib.hid hK
      clear hK
      go_simp
      refine (HN2.out _).mono ?_; rintro e wb10 ⟨rfl, hx⟩
      have hb := HBC.out.trans (hx.mono HBC.out.size)
      clear HBC
      have HBC := Go.Lib.hid hb
      clear hx hb
      go_simp
      refine HKK.out _ _ HBC.out ?_
      clear HKK K
      iterate 20 (refine Go.Mix.mix_step rfl (fun K hK => ?_); have HKK := Go.Lib.hid hK; clear hK; go_simp; refine HKK.out _ _ ?_; clear HKK K)
      refine Go.Mix.mix_eff rfl (fun K hK => ?_)
      have HKK := Go.Lib.hid hK
      clear hK
      go_simp
      refine HKK.out _ _ HBC.out ?_
      clear HKK K
      iterate 4 (refine Go.Mix.mix_step rfl (fun K hK => ?_); have HKK := Go.Lib.hid hK; clear hK; go_simp; refine HKK.out _ _ ?_; clear HKK K)
      refine Go.Mix.mix_eff rfl (fun K hK => ?_)
      have HKK := Go.Lib.hid hK
      clear hK
      go_simp
      refine HKK.out _ _ HBC.out ?_
      clear HKK K
      iterate 3 (refine Go.Mix.mix_step rfl (fun K hK => ?_); have HKK := Go.Lib.hid hK; clear hK; go_simp; refine HKK.out _ _ ?_; clear HKK K)
      refine Go.Mix.mix_nil ?_
      go_wp2_with fail
      go_ret
      exact ⟨ret_bool HR.out.symm, H0.out.trans (HBC.out.mono H0.out.size)⟩
end Go.Proofs.Ythfhmbooeemaaaa

/- Slices of records in memory; slices.IndexFunc, ContainsFunc at records, for whatever closure has a contract. -/
namespace Go.Proofs.Ythfhmbooeemaaaa
open Go.RowKit Go.Shelf Go.Sq
set_option linter.unusedVariables false

def encR (l : List Rc.RR) : List Value := l.flatMap fun r => [.string (mk r.name), .int .i64 r.ty, .int .i64 r.cl, .int .i64 r.ttl, .string (mk r.data)]
theorem encR_snoc (l : List Rc.RR) (r : Rc.RR) : encR (l ++ [r]) = encR l ++ [.string (mk r.name), .int .i64 r.ty, .int .i64 r.cl, .int .i64 r.ttl, .string (mk r.data)] := by simp [encR]
theorem encR_length (l : List Rc.RR) : (encR l).length = l.length * 5 := by
  induction l with
  | nil => rfl
  | cons r l ih =>
    have : encR (r :: l) = [.string (mk r.name), .int .i64 r.ty, .int .i64 r.cl, .int .i64 r.ttl, .string (mk r.data)] ++ encR l := rfl
    rw [this, List.length_append, ih]
    simp
    omega
theorem one_rr (r : Rc.RR) : ∀ u ∈ [Value.string (mk r.name), .int .i64 r.ty, .int .i64 r.cl, .int .i64 r.ttl, .string (mk r.data)], u.oneCell' = true := by
  intro u hu
  simp at hu
  rcases hu with rfl | rfl | rfl | rfl | rfl <;> rfl
theorem one_rrs (l : List Rc.RR) : ∀ u ∈ encR l, u.oneCell' = true := by
  intro u hu
  obtain ⟨r, _, h⟩ := List.mem_flatMap.1 hu
  exact one_rr r u h
def RRs (w : World) (v : Value) (l : List Rc.RR) : Prop := SlC w 5 v l.length (encR l)
theorem RRs.below {B : Nat} {w w' : World} {v : Value} {l : List Rc.RR} (h : RRs w v l) (hb : Below B w w') (hB : w.heap.size ≤ B) : RRs w' v l := SlC.below h hb hB
/-- nought -/
def r0 : Rc.RR := ⟨[], 0, 0, 0, []⟩
theorem encR_get : ∀ (l : List Rc.RR) (j : Nat), j < l.length → (encR l)[j * 5]? = some (.string (mk (l.getD j r0).name)) ∧ (encR l)[j * 5 + 1]? = some (.int .i64 (l.getD j r0).ty) ∧ (encR l)[j * 5 + 2]? = some (.int .i64 (l.getD j r0).cl) ∧
    (encR l)[j * 5 + 3]? = some (.int .i64 (l.getD j r0).ttl) ∧ (encR l)[j * 5 + 4]? = some (.string (mk (l.getD j r0).data))
  | [], j, h => by simp at h
  | p :: l, 0, _ => ⟨rfl, rfl, rfl, rfl, rfl⟩
  | p :: l, j + 1, h => by
    have := encR_get l j (by simpa using h)
    have e : encR (p :: l) = [.string (mk p.name), .int .i64 p.ty, .int .i64 p.cl, .int .i64 p.ttl, .string (mk p.data)] ++ encR l := rfl
    have key : ∀ i, (encR (p :: l))[(j + 1) * 5 + i]? = (encR l)[j * 5 + i]? := fun i => by
      rw [e, List.getElem?_append_right (by simp; omega)]
      congr 1
      simp
      omega
    have k0 := key 0
    simp only [Nat.add_zero] at k0
    rw [k0, key 1, key 2, key 3, key 4]
    simpa using this
/-- the five cells of an element -/
def RRAt (w : World) (b off : Nat) (r : Rc.RR) : Prop := w.cell? ⟨b, off, none⟩ = some (.string (mk r.name)) ∧ w.cell? ⟨b, off + 1, none⟩ = some (.int .i64 r.ty) ∧ w.cell? ⟨b, off + 2, none⟩ = some (.int .i64 r.cl) ∧
  w.cell? ⟨b, off + 3, none⟩ = some (.int .i64 r.ttl) ∧ w.cell? ⟨b, off + 4, none⟩ = some (.string (mk r.data))
theorem RRs.at {w : World} {a : Option Addr} {m cap : Nat} {l : List Rc.RR} (h : RRs w (.slice a m cap) l) (hn : 0 < l.length) :
    ∃ b off, a = some ⟨b, off, none⟩ ∧ b < w.heap.size ∧ ∀ j, j < l.length → RRAt w b (off + j * 5) (l.getD j r0) := by
  obtain ⟨_, b, off, ha, hlt, h4⟩ := SlC.at h hn
  refine ⟨b, off, ha, hlt, fun j hj => ?_⟩
  obtain ⟨e0, e1, e2, e3, e4⟩ := encR_get l j hj
  refine ⟨by rw [h4 (j * 5) (by omega), e0], ?_, ?_, ?_, ?_⟩
  · rw [Nat.add_assoc, h4 (j * 5 + 1) (by omega), e1]
  · rw [Nat.add_assoc, h4 (j * 5 + 2) (by omega), e2]
  · rw [Nat.add_assoc, h4 (j * 5 + 3) (by omega), e3]
  · rw [Nat.add_assoc, h4 (j * 5 + 4) (by omega), e4]
theorem RRAt.below {B : Nat} {w w' : World} {b off : Nat} {r : Rc.RR} (h : RRAt w b off r) (hb : Below B w w') (hB : b < B) : RRAt w' b off r := by
  obtain ⟨h0, h1, h2, h3, h4⟩ := h
  exact ⟨(hb.cell (p := ⟨b, off, none⟩) hB).trans h0, (hb.cell (p := ⟨b, off + 1, none⟩) hB).trans h1, (hb.cell (p := ⟨b, off + 2, none⟩) hB).trans h2, (hb.cell (p := ⟨b, off + 3, none⟩) hB).trans h3, (hb.cell (p := ⟨b, off + 4, none⟩) hB).trans h4⟩

/-- the first that is meant; below 0: none -/
def idx {α : Type} (p : α → Bool) : List α → Int
  | [] => -1
  | x :: l => if p x then 0 else if idx p l < 0 then -1 else idx p l + 1
theorem idx_lt {α : Type} (p : α → Bool) : ∀ l : List α, idx p l < l.length ∧ -1 ≤ idx p l
  | [] => by simp [idx]
  | x :: l => by
    have := idx_lt p l
    simp only [idx, List.length_cons]
    split
    · omega
    · split <;> omega
theorem idx_drop {α : Type} (p : α → Bool) : ∀ (l : List α) (k : Nat), (∀ x ∈ l.take k, p x = false) → idx p l = if idx p (l.drop k) < 0 then -1 else idx p (l.drop k) + k
  | l, 0, _ => by
    have := idx_lt p l
    rw [List.drop_zero]
    split <;> omega
  | [], k + 1, _ => by simp [idx]
  | x :: l, k + 1, h => by
    have hx : p x = false := h x (by simp)
    have := idx_drop p l k (fun y hy => h y (by simp [hy]))
    simp only [idx, hx, List.drop_succ_cons, Bool.false_eq_true, if_false]
    have h2 := idx_lt p (l.drop k)
    rw [this]
    by_cases hneg : idx p (l.drop k) < 0
    · rw [if_pos hneg, if_pos hneg, if_pos (by omega)]
    · rw [if_neg hneg, if_neg hneg, if_neg (by omega)]
      omega
theorem idx_any {α : Type} (p : α → Bool) : ∀ l : List α, (0 ≤ idx p l ↔ l.any p = true)
  | [] => by simp [idx]
  | x :: l => by
    have ih := idx_any p l
    simp only [idx, List.any_cons]
    cases hx : p x with
    | true => simp
    | false =>
      simp only [Bool.false_eq_true, if_false, Bool.false_or]
      rw [← ih]
      split <;> omega


end Go.Proofs.Ythfhmbooeemaaaa

/- 'append' of one row to a slice of the call's own: where the new slice lies (where the old one lay, or in new memory). Conditions: the lengths' sum is within what Go's growslice bears. -/
namespace Go.Proofs.Ythfhmbooeemaaaa
open Go.RowKit

/-- where it lay, or in new memory -/
def SameOrNew (N : Nat) (v v' : Value) : Prop := v'.ownBlock = v.ownBlock ∨ ∃ g, v'.ownBlock = some g ∧ N ≤ g
theorem new_block {w : World} {base e sz n : Nat} {v : Value} {xs : List Value} (h : w.ownsRow base e sz v n xs) (hn : 0 < n) : ∃ g, v.ownBlock = some g ∧ base ≤ g := by
  rcases h.2 with ⟨rfl, h0⟩ | ⟨g, cap, cur, rfl, hb, _⟩
  · omega
  · exact ⟨g, rfl, hb⟩

theorem run_app2 {P : Program} {t e sz bytes : Nat} (ei : EI P t e sz bytes) (w : World) (ty base : Nat) {v : Value} {n m c : Nat} {a : Addr} {xs news : List Value} (hown : w.ownsRow base e sz v n xs)
    (hl : news.length = m * sz) (hc : ∀ j u, news[j]? = some u → w.cell? (a.add j) = some u) (h1 : ∀ u ∈ news, u.oneCell' = true) (hm : 0 < m) (h63 : n + m ≤ maxLen) (hbytes : (n + m) * bytes ≤ 140737488355328) (hbase : base ≤ w.heap.size) :
    ∃ v' w', (Builtin.append_ #[t, t] ty #[v, .slice (some a) m c]).run P w = .ok v' w' ∧ w'.ownsRow base e sz v' (n + m) (xs ++ news) ∧ w.grownBy w' v.ownBlock ∧ SameOrNew w.heap.size v v' := by
  obtain ⟨i, z, ht, hi, hz, hsz, hby, hzs, hpos⟩ := ei
  obtain ⟨v', w', hrun, ho, hg, _⟩ := run_append_own (P := P) w base t ty e i z sz bytes ht hi hz hsz hby hzs hpos v n xs hown a m c news hl hc h1 h63 hbytes hbase
  refine ⟨v', w', hrun, ho, hg, ?_⟩
  rcases hown.2 with ⟨rfl, rfl⟩ | ⟨g, cap, cur, rfl, hbg, hgh, hnc, hcm, hcs, htake⟩
  · have hx : xs = [] := List.eq_nil_of_length_eq_zero (by simpa using hown.1)
    subst hx
    obtain ⟨v2, w2, hrun2, ho2, _⟩ := run_append_own (P := P) w w.heap.size t ty e i z sz bytes ht hi hz hsz hby hzs hpos _ 0 [] (World.ownsRow_nil _ _ _ _) a m c news hl hc h1 h63 hbytes (Nat.le_refl _)
    have he := hrun.symm.trans hrun2
    simp only [Result.ok.injEq] at he
    obtain ⟨rfl, rfl⟩ := he
    obtain ⟨g, hg1, hg2⟩ := new_block ho2 (by omega)
    exact .inr ⟨g, hg1, hg2⟩
  · by_cases hroom : n + m ≤ cap
    · have hfit : n * i.size + news.length ≤ cur.size := by rw [hsz, hl, hcs, ← Nat.add_mul]; exact Nat.mul_le_mul_right _ hroom
      have hr := run_append_room (P := P) w t ty e i ht hi g n cap cur hgh a m c news (by rw [hsz]; exact hl) hc h1 hroom hfit
      have he := hrun.symm.trans hr
      simp only [Result.ok.injEq] at he
      obtain ⟨rfl, _⟩ := he
      exact .inl rfl
    · have holds : ∀ j u, xs[j]? = some u → w.cell? ((⟨g, 0, none⟩ : Addr).add j) = some u := hown.cells (g := g) rfl
      obtain ⟨v2, w2, hrun2, ho2, _⟩ := run_append_arg_grows (P := P) (w := w) t ty e i z sz bytes ht hi hz hsz hby hzs hpos ⟨g, 0, none⟩ n cap xs hown.1 holds a m c news hl hc (by omega) h63 hbytes
      have he := hrun.symm.trans hrun2
      simp only [Result.ok.injEq] at he
      obtain ⟨rfl, rfl⟩ := he
      obtain ⟨g2, hg1, hg2⟩ := new_block ho2 (by omega)
      exact .inr ⟨g2, hg1, hg2⟩

/-- one element, of a slice that was built just now, appended in a region whose order is open -/
theorem mixT_app1 {P : Program} {t e sz bytes : Nat} (ei : EI P t e sz bytes) {w : World} {ops : Array Oper} {rest : List Oper} {o : Oper} {a : Act} {Es : List Nat} {C : World → Prop} {Q : Act → World → Prop} {k tl : Nat} (s x : Operand)
    (hk : (Es.contains k && !(k == tl)) = true) (hgd : Region.wanted o (yielded ops a.tmps) = true)
    (ho : o.op = .call { callee := .builtin .append, args := #[s, x], argTypes := #[t, t] }) (base : Nat) {v : Value} {n c : Nat} {ad : Addr} {xs news : List Value} (hs : a.eval s = v) (hx : a.eval x = .slice (some ad) 1 c)
    (hown : w.ownsRow base e sz v n xs) (hl : news.length = sz) (hc : ∀ j u, news[j]? = some u → w.cell? (ad.add j) = some u) (h1 : ∀ u ∈ news, u.oneCell' = true) (h63 : n + 1 ≤ maxLen) (hbytes : (n + 1) * bytes ≤ 140737488355328) (hbase : base ≤ w.heap.size)
    (h : ∀ v' w', w'.ownsRow base e sz v' (n + 1) (xs ++ news) → w.grownBy w' v.ownBlock → SameOrNew w.heap.size v v' → C w' ∧ Go.Mix.MixT P ops (fun k => Es.contains k) C Q tl (k + 1) rest (a.put o.dst v') w') :
    Go.Mix.MixT P ops (fun k => Es.contains k) C Q tl k (o :: rest) a w :=
  Go.Mix.mixT_eff hk fun K hK => by
    rw [if_pos hgd]
    obtain ⟨v', w', hrun, ho1, hg1, hn1⟩ := run_app2 (c := c) ei w o.type base hown (by rw [Nat.one_mul]; exact hl) hc h1 (by omega) h63 hbytes hbase
    unfold Oper.wp execOp
    simp only [ho, resolve, invoke, builtin, Sem.run_bind, Sem.run_pure, Result.andThen_ok, List.map_toArray, List.map_cons, List.map_nil, hs, hx, hrun]
    exact hK _ _ (h v' w' ho1 hg1 hn1).1 (h v' w' ho1 hg1 hn1).2
end Go.Proofs.Ythfhmbooeemaaaa

/- Arguments opened: records, questions, messages, and slices of structs of one-cell fields. No conditions. -/
namespace Go.Proofs.Ythfhmbooeemaaaa
set_option maxRecDepth 100000
open Go.RowKit Go.ChangeShapes Go.WideShapes Go.Deep
set_option linter.unusedVariables false

/-! ### structs of one-cell fields -/
theorem openS {H : Type} {enc : TypeId × Value → H} {P : Program} {w : World} {base b0 : Nat} {spare : Nat → Bool} {held : Bool} {r : Reach} {t : TypeId} {fs : Array Field} {v : Value} {d : DataW H} {p : List MemPlace}
    (hs : P.underlying t = some (.struct fs)) (hone : oneCellFields P fs = true) (hC : P.cellsOf t = fs.size) (hv : Value.okWide P w r b0 t v) (h : DataW.Trod enc P w base spare held t v d p) :
    ∃ cs : List Value, v = .agg cs.toArray ∧ cs.length = fs.size ∧ ∃ n, ∀ (j : Nat) (f : Field), fs[j]? = some f → ∃ u y, cs[j]? = some u ∧ DataW.trod enc P w base spare held n f.type [u] = some y := by
  obtain ⟨cs, rfl, hsz⟩ := okWide_struct hs hv
  obtain ⟨l⟩ := cs
  obtain ⟨fuel, hf⟩ := h
  obtain ⟨xs, n, _, _, hl, hlen, hg⟩ := DataW.trod_struct hs hf
  have hll : l.length = fs.size := by simpa [hC] using hsz
  refine ⟨l, rfl, hll, n, fun j f hj => ?_⟩
  obtain ⟨o, k⟩ := hone_of hone j f hj
  have hjl : j < fs.size := (Array.getElem?_eq_some_iff.1 hj).1
  have h1 := hg j f hj
  rw [o, k] at h1
  have hcells : (Value.agg (Array.mk l)).cells.toList = l := rfl
  rw [hcells] at h1
  have h2 : (l.drop j).take 1 = [l[j]'(by omega)] := by
    rw [List.drop_eq_getElem_cons (by omega)]
    rfl
  rw [h2, List.getElem?_eq_getElem (by omega)] at h1
  exact ⟨_, _, List.getElem?_eq_getElem (by omega), h1⟩

/-- an element's cells, field by field -/
theorem openE {H : Type} {enc : TypeId × Value → H} {P : Program} {w : World} {base : Nat} {spare : Nat → Bool} {held : Bool} {e : TypeId} {fs : Array Field} {fuel : Nat} {cs : List Value} {x : DataW H × List MemPlace}
    (hs : P.underlying e = some (.struct fs)) (hone : oneCellFields P fs = true) (hC : P.cellsOf e = fs.size) (h : DataW.trod enc P w base spare held fuel e cs = some x) :
    cs.length = fs.size ∧ ∃ n, ∀ (j : Nat) (f : Field), fs[j]? = some f → ∃ u y, cs[j]? = some u ∧ DataW.trod enc P w base spare held n f.type [u] = some y := by
  obtain ⟨xs, n, _, _, hl, hlen, hg⟩ := DataW.trod_struct hs h
  rw [hC] at hl
  refine ⟨hl, n, fun j f hj => ?_⟩
  obtain ⟨o, k⟩ := hone_of hone j f hj
  have hjl : j < fs.size := (Array.getElem?_eq_some_iff.1 hj).1
  have h1 := hg j f hj
  rw [o, k] at h1
  have h2 : (cs.drop j).take 1 = [cs[j]'(by omega)] := by
    rw [List.drop_eq_getElem_cons (by omega)]
    rfl
  rw [h2, List.getElem?_eq_getElem (by omega)] at h1
  exact ⟨_, _, List.getElem?_eq_getElem (by omega), h1⟩

theorem list_of_elems {α : Type} (sz : Nat) (enc : α → List Value) (hsz : ∀ a, (enc a).length = sz) (good : α → Prop) (w : World) (x : Addr) : ∀ m : Nat,
    (∀ i, i < m → ∃ a, good a ∧ ∀ j, j < sz → w.cell? (x.add (i * sz + j)) = (enc a)[j]?) →
    ∃ l : List α, l.length = m ∧ (∀ a ∈ l, good a) ∧ (l.flatMap enc).length = m * sz ∧ ∀ j, j < m * sz → w.cell? (x.add j) = (l.flatMap enc)[j]?
  | 0, _ => ⟨[], rfl, by simp, by simp, by intro j hj; omega⟩
  | m + 1, h => by
    obtain ⟨l, h1, h2, h3, h4⟩ := list_of_elems sz enc hsz good w x m (fun i hi => h i (by omega))
    obtain ⟨a, g, hc⟩ := h m (by omega)
    refine ⟨l ++ [a], by simp [h1], fun b hb => ?_, by simp [h3, hsz, Nat.succ_mul], fun j hj => ?_⟩
    · rcases List.mem_append.1 hb with hb | hb
      · exact h2 b hb
      · simp at hb; rw [hb]; exact g
    · rw [List.flatMap_append]
      by_cases hlt : j < m * sz
      · rw [h4 j hlt, List.getElem?_append_left (by omega)]
      · have h5 := hc (j - m * sz) (by rw [Nat.succ_mul] at hj; omega)
        rw [show m * sz + (j - m * sz) = j by omega] at h5
        rw [h5, List.getElem?_append_right (by omega), h3]
        simp

/-- a slice, opened -/
theorem open_slc {α : Type} {H : Type} {enc : TypeId × Value → H} {P : Program} {w : World} {base : Nat} {held : Bool} {t e : TypeId} {fuel : Nat} {v : Value} {y : DataW H × List MemPlace} (sz : Nat) (h0 : 0 < sz) (en : α → List Value) (hen : ∀ a, (en a).length = sz) (good : α → Prop)
    (ht : P.underlying t = some (.slice e)) (hC : P.cellsOf e = sz)
    (hel : ∀ n cs y, DataW.trod enc P w base (fun _ => true) held n e cs = some y → ∃ a, good a ∧ cs = en a)
    (hd : DataW.trod enc P w base (fun _ => true) held fuel t [v] = some y) :
    ∃ a l cap, v = .slice a (l : List α).length cap ∧ SlC w sz v l.length (l.flatMap en) ∧ ∀ x ∈ l, good x := by
  rcases open_slice ht hd with ⟨hcs, _⟩ | ⟨x, len, cap, m, n, D, Pl, hcs, _, hl, hm, hmm, _, hi⟩
  · simp only [List.cons.injEq, and_true] at hcs
    subst hcs
    exact ⟨none, [], 0, rfl, SlC.nil _ _, by simp⟩
  · simp only [List.cons.injEq, and_true] at hcs
    subst hcs
    simp only [if_true] at hmm
    subst hmm
    rw [hC] at hi
    obtain ⟨l, h1, h2, h3, h4⟩ := list_of_elems sz en hen good w x m (fun i him => by
      obtain ⟨cs', hc, hy⟩ := hi i him
      obtain ⟨a, g, rfl⟩ := hel _ _ _ hy
      obtain ⟨_, hcl, hat⟩ := World.cells?_some hc
      refine ⟨a, g, fun j hj => ?_⟩
      rw [← hat j hj, Go.Deep.add_add])
    have hlen : (l.take len).length = len := by rw [List.length_take]; omega
    have htk : ∀ (l : List α) k, (l.take k).flatMap en = (l.flatMap en).take (k * sz) := by
      intro l
      induction l with
      | nil => intro k; simp
      | cons b l ih =>
        intro k
        cases k with
        | zero => simp
        | succ k =>
          simp only [List.take_succ_cons, List.flatMap_cons, ih]
          rw [List.take_append, hen, Nat.succ_mul, List.take_of_length_le (l := en b) (by rw [hen]; omega)]
          congr 2
          omega
    have hle : len * sz ≤ m * sz := Nat.mul_le_mul_right _ hl
    refine ⟨some x, l.take len, m, by rw [hlen], ?_, fun a ha => h2 a (List.mem_of_mem_take ha)⟩
    rw [hlen]
    exact slc_of_cells h0 hl hm (by rw [htk]) (by omega) (fun i hi => h4 i (by omega))

/-! ### records -/
def RRFit (r : Rc.RR) : Prop := RROk r ∧ Fits r.ty ∧ Fits r.cl ∧ Fits r.ttl
def en5 (r : Rc.RR) : List Value := [.string (mk r.name), .int .i64 r.ty, .int .i64 r.cl, .int .i64 r.ttl, .string (mk r.data)]
theorem five {α : Type} {l : List α} (h : l.length = 5) : ∃ a b c d e, l = [a, b, c, d, e] := by
  match l, h with
  | [a, b, c, d, e], _ => exact ⟨a, b, c, d, e, rfl⟩
theorem three {α : Type} {l : List α} (h : l.length = 3) : ∃ a b c, l = [a, b, c] := by
  match l, h with
  | [a, b, c], _ => exact ⟨a, b, c, rfl⟩
theorem mk_of (s : ByteArray) : s = mk (bl s) := (mk_bl s).symm

section
variable {H : Type} {enc : TypeId × Value → H} {w : World} {base b0 : Nat} {spare : Nat → Bool} {held : Bool}
theorem tInt {n : Nat} {u : Value} {y : DataW H × List MemPlace} (h : DataW.trod enc Try.prog w base spare held n 3 [u] = some y) : ∃ a, u = .int .i64 a ∧ Fits a := by
  obtain ⟨a, h1, _, hw⟩ := DataW.trod_int Try.underlying3 h
  simp only [List.cons.injEq, and_true] at h1
  exact ⟨a, h1, fits_of_wf hw⟩
theorem tStr {n : Nat} {u : Value} {y : DataW H × List MemPlace} (h : DataW.trod enc Try.prog w base spare held n 9 [u] = some y) : ∃ s : List UInt8, u = .string (mk s) ∧ s.length ≤ maxLen := by
  obtain ⟨s, h1, _, hw⟩ := DataW.trod_string Try.underlying9 h
  simp only [List.cons.injEq, and_true] at h1
  exact ⟨bl s, by rw [h1, mk_bl], by rw [← size_bl]; exact hw⟩
theorem tBool {n : Nat} {u : Value} {y : DataW H × List MemPlace} (h : DataW.trod enc Try.prog w base spare held n 4 [u] = some y) : ∃ a, u = .bool a := by
  obtain ⟨a, h1, _⟩ := DataW.trod_bool underBool h
  simp only [List.cons.injEq, and_true] at h1
  exact ⟨a, h1⟩

theorem rr_elem {n : Nat} {cs : List Value} {y : DataW H × List MemPlace} (h : DataW.trod enc Try.prog w base spare held n 45 cs = some y) : ∃ r, RRFit r ∧ cs = en5 r := by
  obtain ⟨hl, n, hf⟩ := openE Try.underlying45 (by kernel_rfl) (by kernel_rfl) h
  obtain ⟨u0, y0, e0, h0⟩ := hf 0 _ rfl
  obtain ⟨u1, y1, e1, h1⟩ := hf 1 _ rfl
  obtain ⟨u2, y2, e2, h2⟩ := hf 2 _ rfl
  obtain ⟨u3, y3, e3, h3⟩ := hf 3 _ rfl
  obtain ⟨u4, y4, e4, h4⟩ := hf 4 _ rfl
  obtain ⟨a, b, c, d, e, rfl⟩ := five (show cs.length = 5 from hl)
  obtain rfl : a = u0 := Option.some.inj e0
  obtain rfl : b = u1 := Option.some.inj e1
  obtain rfl : c = u2 := Option.some.inj e2
  obtain rfl : d = u3 := Option.some.inj e3
  obtain rfl : e = u4 := Option.some.inj e4
  obtain ⟨s, rfl, hs⟩ := tStr h0
  obtain ⟨i, rfl, hi⟩ := tInt h1
  obtain ⟨j, rfl, hj⟩ := tInt h2
  obtain ⟨k, rfl, hk⟩ := tInt h3
  obtain ⟨q, rfl, hq⟩ := tStr h4
  exact ⟨⟨s, i, j, k, q⟩, ⟨⟨hs, hq⟩, hi, hj, hk⟩, rfl⟩

/-- a slice of records -/
theorem openRRs {fuel : Nat} {v : Value} {y : DataW H × List MemPlace} (hd : DataW.trod enc Try.prog w base (fun _ => true) held fuel 25 [v] = some y) :
    ∃ a l cap, v = .slice a (l : List Rc.RR).length cap ∧ RRs w v l ∧ ∀ r ∈ l, RRFit r :=
  open_slc 5 (by omega) en5 (fun _ => rfl) RRFit Try.underlying25 (by kernel_rfl) (fun _ _ _ h => rr_elem h) hd
theorem open_RRs {v : Value} {d : DataW H} {p : List MemPlace} (hv : Value.okWide Try.prog w .any b0 25 v) (h : DataW.Trod enc Try.prog w base (fun _ => true) held 25 v d p) :
    ∃ a l cap, v = .slice a (l : List Rc.RR).length cap ∧ RRs w v l ∧ ∀ r ∈ l, RRFit r := by
  obtain ⟨a, len, cap, rfl⟩ := okWide_slice Try.underlying25 hv
  obtain ⟨fuel, hf⟩ := h
  exact openRRs hf
end
theorem open_RR {H : Type} {enc : TypeId × Value → H} {w : World} {base b0 : Nat} {spare : Nat → Bool} {held : Bool} {v : Value} {d : DataW H} {p : List MemPlace} (hv : Value.okWide Try.prog w .any b0 45 v) (h : DataW.Trod enc Try.prog w base spare held 45 v d p) :
    ∃ r, v = rrV r ∧ RRFit r := by
  obtain ⟨cs, rfl, hl, n, hf⟩ := openS Try.underlying45 (by kernel_rfl) (by kernel_rfl) hv h
  obtain ⟨u0, y0, e0, h0⟩ := hf 0 _ rfl
  obtain ⟨u1, y1, e1, h1⟩ := hf 1 _ rfl
  obtain ⟨u2, y2, e2, h2⟩ := hf 2 _ rfl
  obtain ⟨u3, y3, e3, h3⟩ := hf 3 _ rfl
  obtain ⟨u4, y4, e4, h4⟩ := hf 4 _ rfl
  obtain ⟨a, b, c, d, e, rfl⟩ := five (show cs.length = 5 from hl)
  obtain rfl : a = u0 := Option.some.inj e0
  obtain rfl : b = u1 := Option.some.inj e1
  obtain rfl : c = u2 := Option.some.inj e2
  obtain rfl : d = u3 := Option.some.inj e3
  obtain rfl : e = u4 := Option.some.inj e4
  obtain ⟨s, rfl, hs⟩ := tStr h0
  obtain ⟨i, rfl, hi⟩ := tInt h1
  obtain ⟨j, rfl, hj⟩ := tInt h2
  obtain ⟨k, rfl, hk⟩ := tInt h3
  obtain ⟨q, rfl, hq⟩ := tStr h4
  exact ⟨⟨s, i, j, k, q⟩, rfl, ⟨hs, hq⟩, hi, hj, hk⟩
end Go.Proofs.Ythfhmbooeemaaaa

/- Small words of other texts (laid by slim.py). -/
namespace Go.Proofs.Ythfhmbooeemaaaa
open Go.RowKit Go.Shelf Go.Sq
set_option linter.unusedVariables false

theorem infoRR : (Try.prog.info? 45).map (fun i => (i.zero, i.size, i.bytes)) = some (some (.agg #[.string ⟨#[]⟩, .int .i64 0, .int .i64 0, .int .i64 0, .string ⟨#[]⟩]), 5, 56) := by kernel_rfl
theorem eiRR : EI Try.prog 25 45 5 56 := ei_of Try.underlying25 infoRR rfl (by decide)
/-- nothing that was there is changed -/
def GB (w w' : World) : Prop := Below w.heap.size w w'
theorem GB.trans {A B C : World} (h : GB A B) (k : GB B C) : GB A C := Below.trans h (Below.mono k (Below.size h))
theorem GB.refl (A : World) : GB A A := Below.refl _ _
theorem GB.size {A B : World} (h : GB A B) : A.heap.size ≤ B.heap.size := Below.size h
theorem GB.cell {W : World} {p : Addr} {v : Value} (h : W.cell? p = some v) (hp : p.block < W.heap.size) (w3 : Subtype (GB W.drew)) : w3.1.cell? p = some v := (Below.cell w3.2 (p := p) hp).trans h
theorem GB.heap {A B : World} (h : GB A B) {k : Nat} {o : Obj} (hk : A.heap[k]? = some o) : B.heap[k]? = some o := (Below.block h k (Array.getElem?_eq_some_iff.1 hk).1).trans hk
theorem rows_apart {w : World} {b1 b2 e1 e2 s1 s2 n1 n2 : Nat} {v1 v2 : Value} {x1 x2 : List Value} (h1 : w.ownsRow b1 e1 s1 v1 n1 x1) (h2 : w.ownsRow b2 e2 s2 v2 n2 x2) (he : e1 ≠ e2) : v1.ownBlock = none ∨ v1.ownBlock ≠ v2.ownBlock := by
  rcases h1.2 with ⟨rfl, _⟩ | ⟨g, cap, cur, rfl, _, hg, _⟩
  · exact .inl (by simp [Value.ownBlock])
  · right
    rcases h2.2 with ⟨rfl, _⟩ | ⟨g2, cap2, cur2, rfl, _, hg2, _⟩
    · simp [Value.ownBlock]
    · intro e
      simp only [Value.ownBlock, Option.some.injEq] at e
      subst e
      rw [hg] at hg2
      simp only [Option.some.injEq, Obj.cells.injEq] at hg2
      exact he hg2.2.1
theorem getD_snoc_lt {α : Type} (l : List α) (x d : α) {i : Nat} (h : i < l.length) : (l ++ [x]).getD i d = l.getD i d := by
  rw [List.getD_eq_getElem?_getD, List.getElem?_append_left h, ← List.getD_eq_getElem?_getD]
theorem getD_snoc_eq {α : Type} (l : List α) (x d : α) : (l ++ [x]).getD l.length d = x := by simp
/-- a record put to a group's list -/
theorem getD_set_eq' {α : Type} (l : List α) (d x : α) {q : Nat} (h : q < l.length) : (l.set q x).getD q d = x := by simp [List.getD_eq_getElem?_getD, h]
theorem getD_set_ne' {α : Type} (l : List α) (d x : α) {q i : Nat} (h : i ≠ q) : (l.set q x).getD i d = l.getD i d := by simp [List.getD_eq_getElem?_getD, Ne.symm h]
theorem heap_kept {W W' : World} {k : Nat} {cs : Array Value} {T : TypeId} {fr : Nat × Nat} (h : W.heap[k]? = some (.cells cs T fr)) {base e sz n : Nat} {v : Value} {xs : List Value} (hown : W.ownsRow base e sz v n xs) (hT : T ≠ e) (hg : W.grownBy W' v.ownBlock) : W'.heap[k]? = some (.cells cs T fr) := by
  refine (hg.block k (Array.getElem?_eq_some_iff.1 h).1 ?_).trans h
  rcases hown.2 with ⟨rfl, _⟩ | ⟨g, cap, cur, rfl, _, hgh, _⟩
  · simp [Value.ownBlock]
  · intro e'
    simp only [Value.ownBlock, Option.some.injEq] at e'
    subst e'
    rw [h] at hgh
    simp only [Option.some.injEq, Obj.cells.injEq] at hgh
    exact hT hgh.2.1
theorem heap_old {W : World} {k : Nat} {o : Obj} (h : W.heap[k]? = some o) (o' : Obj) : (W.alloc o').heap[k]? = some o := (Below.heap_alloc _ _ _ (Array.getElem?_eq_some_iff.1 h).1).trans h
theorem new_cells (W : World) (cs : List Value) (T : TypeId) : ∀ j u, cs[j]? = some u → (W.alloc (.cells cs.toArray T)).cell? ((⟨W.heap.size, 0, none⟩ : Addr).add j) = some u := fun j u h => by
  rw [Addr.add_lit, World.cell?_alloc_at (hn := rfl)]
  simpa using h
theorem getD_mem' {α : Type} {l : List α} {q : Nat} {d : α} (h : q < l.length) : l.getD q d ∈ l := by
  rw [List.getD_eq_getElem?_getD, List.getElem?_eq_getElem h]
  simp
end Go.Proofs.Ythfhmbooeemaaaa

/- Messages in memory; the contracts of slices.Clone, match.Ask, Reply, Refuse, and of the reference's. -/
namespace Go.Proofs.Ythfhmbooeemaaaa
open Go.RowKit Go.Shelf Go.Sq
set_option linter.unusedVariables false

/-- a question -/
structure Qn where
  name : List UInt8
  ty : Int
  cl : Int
deriving DecidableEq
def en3 (q : Qn) : List Value := [.string (mk q.name), .int .i64 q.ty, .int .i64 q.cl]
def encQn (l : List Qn) : List Value := l.flatMap en3
theorem encQn_length (l : List Qn) : (encQn l).length = l.length * 3 := by
  induction l with
  | nil => rfl
  | cons q l ih =>
    have : encQn (q :: l) = en3 q ++ encQn l := rfl
    rw [this, List.length_append, ih]
    simp [en3]
    omega
def Qns (w : World) (v : Value) (l : List Qn) : Prop := SlC w 3 v l.length (encQn l)
theorem Qns.below {B : Nat} {w w' : World} {v : Value} {l : List Qn} (h : Qns w v l) (hb : Below B w w') (hB : w.heap.size ≤ B) : Qns w' v l := SlC.below h hb hB
def q0 : Qn := ⟨[], 0, 0⟩
theorem one_qs (l : List Qn) : ∀ u ∈ encQn l, u.oneCell' = true := by
  intro u hu
  obtain ⟨r, _, h⟩ := List.mem_flatMap.1 hu
  simp [en3] at h
  rcases h with rfl | rfl | rfl <;> rfl
theorem encQn_get : ∀ (l : List Qn) (j : Nat), j < l.length → (encQn l)[j * 3]? = some (.string (mk (l.getD j q0).name)) ∧ (encQn l)[j * 3 + 1]? = some (.int .i64 (l.getD j q0).ty) ∧ (encQn l)[j * 3 + 2]? = some (.int .i64 (l.getD j q0).cl)
  | [], j, h => by simp at h
  | p :: l, 0, _ => ⟨rfl, rfl, rfl⟩
  | p :: l, j + 1, h => by
    have := encQn_get l j (by simpa using h)
    have e : encQn (p :: l) = en3 p ++ encQn l := rfl
    have key : ∀ i, (encQn (p :: l))[(j + 1) * 3 + i]? = (encQn l)[j * 3 + i]? := fun i => by
      rw [e, List.getElem?_append_right (by simp [en3]; omega)]
      congr 1
      simp [en3]
      omega
    have k0 := key 0
    simp only [Nat.add_zero] at k0
    rw [k0, key 1, key 2]
    simpa using this
/-- the three cells of an element -/
def QnAt (w : World) (b off : Nat) (q : Qn) : Prop := w.cell? ⟨b, off, none⟩ = some (.string (mk q.name)) ∧ w.cell? ⟨b, off + 1, none⟩ = some (.int .i64 q.ty) ∧ w.cell? ⟨b, off + 2, none⟩ = some (.int .i64 q.cl)
theorem Qns.at {w : World} {a : Option Addr} {m cap : Nat} {l : List Qn} (h : Qns w (.slice a m cap) l) (hn : 0 < l.length) :
    ∃ b off, a = some ⟨b, off, none⟩ ∧ b < w.heap.size ∧ ∀ j, j < l.length → QnAt w b (off + j * 3) (l.getD j q0) := by
  obtain ⟨_, b, off, ha, hlt, h4⟩ := SlC.at h hn
  refine ⟨b, off, ha, hlt, fun j hj => ?_⟩
  obtain ⟨e0, e1, e2⟩ := encQn_get l j hj
  refine ⟨by rw [h4 (j * 3) (by omega), e0], ?_, ?_⟩
  · rw [Nat.add_assoc, h4 (j * 3 + 1) (by omega), e1]
  · rw [Nat.add_assoc, h4 (j * 3 + 2) (by omega), e2]

/-! ### a slice, and the type of its block -/
def SlT (w : World) (e sz : Nat) (v : Value) (n : Nat) (cs : List Value) : Prop := SlC w sz v n cs ∧ ∀ a m c, v = .slice (some a) m c → 0 < m → ∃ xs fr, w.heap[a.block]? = some (.cells xs e fr)
theorem SlT.below {w w' : World} {e sz n : Nat} {v : Value} {cs : List Value} (h : SlT w e sz v n cs) (hb : Below w.heap.size w w') : SlT w' e sz v n cs :=
  ⟨h.1.below hb (Nat.le_refl _), fun a m c hv hm => by
    obtain ⟨xs, fr, hx⟩ := h.2 a m c hv hm
    exact ⟨xs, fr, (hb.block _ (Array.getElem?_eq_some_iff.1 hx).1).trans hx⟩⟩
theorem SlT.nil (w : World) (e sz : Nat) : SlT w e sz (.slice none 0 0) 0 [] := ⟨SlC.nil _ _, fun a m c h => by cases h⟩
theorem SlT.of_owns {w : World} {base e sz n : Nat} {v : Value} {cs : List Value} (h : w.ownsRow base e sz v n cs) : SlT w e sz v n cs := by
  refine ⟨SlC.of_owns h, fun a m c hv hm => ?_⟩
  rcases h.2 with ⟨h1, _⟩ | ⟨g, cap, cur, h1, _, hg, _⟩
  · rw [hv] at h1; cases h1
  · rw [hv] at h1
    simp only [Value.slice.injEq, Option.some.injEq] at h1
    obtain ⟨rfl, _, _⟩ := h1
    exact ⟨_, _, hg⟩
theorem SlT.setRow {w : World} {e sz n g T : Nat} {v : Value} {cs : List Value} {old new : Array Value} {fr : Nat × Nat} (h : SlT w e sz v n cs) (hg : w.heap[g]? = some (.cells old T fr)) (hT : T ≠ e) : SlT (w.setRow g new) e sz v n cs := by
  obtain ⟨⟨h1, a, cap, rfl, h2, h3, hz, h4⟩, h5⟩ := h
  have key : ∀ x, a = some x → 0 < n → x.block ≠ g := fun x hx hn e' => by
    obtain ⟨xs, fr', hh⟩ := h5 x n cap (by rw [hx]) hn
    rw [e', hg] at hh
    simp only [Option.some.injEq, Obj.cells.injEq] at hh
    exact hT hh.2.1
  refine ⟨⟨h1, a, cap, rfl, h2, h3, hz, ?_⟩, fun x m c hv hm => ?_⟩
  · rcases h4 with h4 | ⟨b, off, ha, hlt, h4⟩
    · exact .inl h4
    · by_cases hn : n = 0
      · exact .inl hn
      · refine .inr ⟨b, off, ha, by simpa using hlt, fun j hj => ?_⟩
        rw [cell_setRow_other _ _ _ ⟨b, off + j, none⟩ (show b ≠ g from key _ ha (by omega))]
        exact h4 j hj
  · obtain ⟨xs, fr', hh⟩ := h5 x m c hv hm
    simp only [Value.slice.injEq] at hv
    obtain ⟨rfl, rfl, rfl⟩ := hv
    exact ⟨xs, fr', (setRow_other _ _ _ _ (key _ rfl hm)).trans hh⟩
theorem SlT.setCell {w : World} {e sz n g i T : Nat} {v u : Value} {cs : List Value} {old : Array Value} {fr : Nat × Nat} (h : SlT w e sz v n cs) (hg : w.heap[g]? = some (.cells old T fr)) (hT : T ≠ e) : SlT (w.setCell ⟨g, i, none⟩ u) e sz v n cs := by
  rw [setCell_eq_setRow w g i old T fr u hg]
  exact h.setRow hg hT
theorem slt_new (w : World) (sz n e : Nat) (cs : List Value) (h : cs.length = n * sz) (hn : n ≤ maxLen) : SlT (w.alloc (.cells cs.toArray e)) e sz (.slice (some ⟨w.heap.size, 0, none⟩) n n) n cs :=
  ⟨slc_new w sz n e cs h hn, fun a m c hv hm => by
    simp only [Value.slice.injEq, Option.some.injEq] at hv
    obtain ⟨rfl, _, _⟩ := hv
    exact ⟨_, _, World.alloc_heap_new _ _⟩⟩

/-- a message -/
structure Msg where
  id : Int
  resp : Bool
  op : Int
  auth : Bool
  cut : Bool
  des : Bool
  avail : Bool
  code : Int
  qs : List Qn
  an : List Rc.RR
  sv : List Rc.RR
  ad : List Rc.RR
  edns : Bool
  size : Int
/-- as cells, with the places of its lists -/
abbrev MC (m : Msg) (q a s d : Value) : Array Value := #[.int .i64 m.id, .bool m.resp, .int .i64 m.op, .bool m.auth, .bool m.cut, .bool m.des, .bool m.avail, .int .i64 m.code, q, a, s, d, .bool m.edns, .int .i64 m.size]
abbrev MV (m : Msg) (q a s d : Value) : Value := .agg (MC m q a s d)
structure MsgL (w : World) (m : Msg) (q a s d : Value) : Prop where
  qs : Qns w q m.qs
  an : RRs w a m.an
  sv : RRs w s m.sv
  ad : RRs w d m.ad
theorem MsgL.below {B : Nat} {w w' : World} {m : Msg} {q a s d : Value} (h : MsgL w m q a s d) (hb : Below B w w') (hB : w.heap.size ≤ B) : MsgL w' m q a s d := ⟨h.qs.below hb hB, h.an.below hb hB, h.sv.below hb hB, h.ad.below hb hB⟩
/-- the same, with the types of the lists' blocks -/
structure MsgT (w : World) (m : Msg) (q a s d : Value) : Prop where
  qs : SlT w 47 3 q m.qs.length (encQn m.qs)
  an : SlT w 45 5 a m.an.length (encR m.an)
  sv : SlT w 45 5 s m.sv.length (encR m.sv)
  ad : SlT w 45 5 d m.ad.length (encR m.ad)
theorem MsgT.lies {w : World} {m : Msg} {q a s d : Value} (h : MsgT w m q a s d) : MsgL w m q a s d := ⟨h.qs.1, h.an.1, h.sv.1, h.ad.1⟩
theorem MsgT.below {w w' : World} {m : Msg} {q a s d : Value} (h : MsgT w m q a s d) (hb : Below w.heap.size w w') : MsgT w' m q a s d := ⟨h.qs.below hb, h.an.below hb, h.sv.below hb, h.ad.below hb⟩
theorem MsgT.setRow {w : World} {m : Msg} {q a s d : Value} {g : Nat} {old new : Array Value} {fr : Nat × Nat} (h : MsgT w m q a s d) (hg : w.heap[g]? = some (.cells old 27 fr)) : MsgT (w.setRow g new) m q a s d :=
  ⟨h.qs.setRow hg (by decide), h.an.setRow hg (by decide), h.sv.setRow hg (by decide), h.ad.setRow hg (by decide)⟩
/-- it returns a message, in new memory -/
def RetM (w : World) (m : Msg) (e : Ending) (w' : World) : Prop := ∃ q a s d, e = .returned (MV m q a s d) ∧ MsgT w' m q a s d ∧ Below w.heap.size w w'

def askN (id : Int) (q : Qn) : Msg := ⟨id, false, 0, false, false, false, false, 0, [q], [], [], [], true, 1232⟩

theorem undMsg : ∃ fs, Try.prog.underlying 27 = some (.struct fs) := ⟨_, Try.underlying27⟩
theorem infoMsg : (Try.prog.info? 27).map (·.size) = some 14 := by kernel_rfl
/-- where a function's result lies in a variable of its own -/
theorem ret_msg {fn : Func} {p : Tmp} {a : Act} {W : World} {R : Ending → World → Prop} {m : Msg} {q an s d : Value} {g : Nat} (hr : fn.results = #[.cell p 27]) (hp : a.tmps.getD p undef = .pointer (some ⟨g, 0, none⟩)) (hd : a.defers = [])
    (hg : W.heap[g]? = some (.cells (MC m q an s d) 27 (0, 0))) (h : R (.returned (MV m q an s d)) W) : bodyPost Try.prog fn R Exit.ret a W := by
  obtain ⟨fs, hu⟩ := undMsg
  exact bodyPost_ret (results_cell_row hr _ _ g _ _ (0, 0) _ hp hg hu rfl infoMsg) hd h
theorem heap_new1 (w : World) (o1 o2 : Obj) : ((w.alloc o1).alloc o2).heap[w.heap.size + 1]? = some o2 := by
  have := World.alloc_heap_new (w.alloc o1) o2
  rwa [World.size_alloc] at this


/-! ### append to an empty slice that was built just now -/
theorem run_app0 {P : Program} {t e sz bytes : Nat} (ei : EI P t e sz bytes) (w : World) (ty g : Nat) {src : Value} {m : Nat} {news : List Value}
    (hsrc : SlC w sz src m news) (h1 : ∀ u ∈ news, u.oneCell' = true) (h63 : m ≤ maxLen) (hbytes : m * bytes ≤ 140737488355328) :
    ∃ v' w', (Builtin.append_ #[t, t] ty #[.slice (some ⟨g, 0, none⟩) 0 0, src]).run P w = .ok v' w' ∧ (∃ a c, v' = .slice a m c) ∧ SlT w' e sz v' m news ∧ Below w.heap.size w w' := by
  obtain ⟨i, z, ht, hi, hz, hsz, hby, hzs, hpos⟩ := ei
  obtain ⟨hl, a, cap, rfl, hm, hcm, hz0, hc⟩ := hsrc
  by_cases h0 : m = 0
  · subst h0
    have hn : news = [] := List.eq_nil_of_length_eq_zero (by simpa using hl)
    subst hn
    have hrun : (Builtin.append_ #[t, t] ty #[.slice (some ⟨g, 0, none⟩) 0 0, .slice a 0 cap]).run P w = .ok (.slice (some ⟨g, 0, none⟩) 0 0) w := by
      cases a with
      | some x =>
        have hfc := run_firstCells_some (P := P) w i.size 0 x 0 cap [] (by simp) (fun j u h => by simp at h)
        simp [Builtin.append_, run_underlying ht, sizeOf, typeInfo, hi, Builtin.lenOf, hfc, storeCells]
      | none =>
        obtain rfl := hz0 rfl
        have hfc : (Builtin.firstCells i.size 0 (.slice none 0 0)).run P w = .ok #[] w := by simp [Builtin.firstCells]
        simp [Builtin.append_, run_underlying ht, sizeOf, typeInfo, hi, Builtin.lenOf, hfc, storeCells]
    exact ⟨_, _, hrun, ⟨_, _, rfl⟩, ⟨(show SlC w sz _ 0 [] from ⟨by simp, some ⟨g, 0, none⟩, 0, rfl, Nat.le_refl _, Nat.zero_le _, fun h => (by cases h), Or.inl rfl⟩), fun a m c hv hm => by cases hv; omega⟩, Below.refl _ _⟩
  · cases a with
    | none => have := hz0 rfl; omega
    | some x =>
      have hnews : ∀ j u, news[j]? = some u → w.cell? (x.add j) = some u := by
        intro j u hu
        have hj : j < news.length := (List.getElem?_eq_some_iff.1 hu).1
        rcases hc with rfl | ⟨b, off, hx, _, hcell⟩
        · omega
        · simp only [Option.some.injEq] at hx
          subst hx
          rw [Addr.add_lit, hcell j (by omega)]
          exact hu
      obtain ⟨v', w', hrun, ho, hg⟩ := run_append_arg_grows (P := P) (w := w) t ty e i z sz bytes ht hi hz hsz hby hzs hpos ⟨g, 0, none⟩ 0 0 [] (by simp) (fun j u h => by simp at h) x m cap news hl hnews (by omega) (by omega) (by rw [Nat.zero_add]; exact hbytes)
      have hs := SlT.of_owns ho
      rw [Nat.zero_add, List.nil_append] at hs
      obtain ⟨a', c', hv', _, _⟩ := hs.1.slice
      exact ⟨v', w', hrun, ⟨a', c', hv'⟩, hs, ⟨hg.os, hg.tape, hg.output, hg.size, fun k hk => hg.block k hk (by simp)⟩⟩
theorem wp_app0 {P : Program} {t e sz bytes : Nat} (ei : EI P t e sz bytes) {w : World} {ops : Array Oper} {rest : List Oper} {o : Oper} {a : Act} {Q : Exit → Act → World → Prop} (s x : Operand) (hgd : o.guard = none)
    (ho : o.op = .call { callee := .builtin .append, args := #[s, x], argTypes := #[t, t] }) (g : Nat) {src : Value} {m : Nat} {news : List Value} (hs : a.eval s = .slice (some ⟨g, 0, none⟩) 0 0) (hx : a.eval x = src)
    (hsrc : SlC w sz src m news) (h1 : ∀ u ∈ news, u.oneCell' = true) (h63 : m ≤ maxLen) (hbytes : m * bytes ≤ 140737488355328)
    (h : ∀ a' c' w', SlT w' e sz (.slice a' m c') m news → Below w.heap.size w w' → wpList P ops Q rest (a.put o.dst (.slice a' m c')) w') : wpList P ops Q (o :: rest) a w :=
  wpList_plain hgd fun K hK => by
    obtain ⟨v', w', hr, ⟨a', c', rfl⟩, h2, h3⟩ := run_app0 ei w o.type g hsrc h1 h63 hbytes
    unfold Oper.wp execOp
    simp only [ho, resolve, invoke, builtin, Sem.run_bind, Sem.run_pure, Result.andThen_ok, List.map_toArray, List.map_cons, List.map_nil, hs, hx, hr]
    exact hK _ _ (h a' c' w' h2 h3)

theorem infoQn : (Try.prog.info? 47).map (fun i => (i.zero, i.size, i.bytes)) = some (some (.agg #[.string ⟨#[]⟩, .int .i64 0, .int .i64 0]), 3, 32) := by kernel_rfl
theorem eiQn : EI Try.prog 24 47 3 32 := ei_of Try.underlying24 infoQn rfl (by decide)

/-! ### slices.Clone -/
theorem run_eql_sliceNil {P : Program} (t e : TypeId) (a : Option Addr) (l c : Nat) (h : P.underlying t = some (.slice e)) (w : World) : (binOp .eql t (.slice a l c) (.slice none 0 0)).run P w = .ok (.bool a.isNone) w := by
  have h1 : ∀ d : Nat, (Op.equalIn (d + 1) t (.slice a l c) (.slice none 0 0)).run P w = .ok a.isNone w := fun d => by
    cases a <;> simp [Op.equalIn, run_underlying h]
  simp only [binOp]
  simp [Op.equal, Op.maxDepth, h1 9999]
end Go.Proofs.Ythfhmbooeemaaaa

/- The contracts of match.Reply, Refuse, and of the reference's. Condition: no list has more than 1000000 records. -/
namespace Go.Proofs.Ythfhmbooeemaaaa
open Go.RowKit Go.Shelf Go.Sq
set_option linter.unusedVariables false

def replyN (m : Msg) (code : Int) (an sv : List Rc.RR) : Msg := ⟨m.id, true, m.op, false, false, m.des, true, code, m.qs, an, sv, [], m.edns, if m.edns then 1232 else 0⟩

/-- what the effects of Reply's region leave -/
def FRep (iq ia is ip : Nat) (B : Nat) (m : Msg) (an sv : List Rc.RR) (i : Nat) (v : Value) (w : World) : Prop :=
  (i = iq → SlT w 47 3 v m.qs.length (encQn m.qs)) ∧ (i = ia → SlT w 45 5 v an.length (encR an)) ∧ (i = is → SlT w 45 5 v sv.length (encR sv)) ∧ (i = ip → ∃ kb, v = .pointer (some ⟨kb, 0, none⟩) ∧ B ≤ kb ∧ w.heap[kb]? = some (.cells (MC ⟨0, false, 0, false, false, false, false, 0, [], [], [], [], false, 0⟩ (.slice none 0 0) (.slice none 0 0) (.slice none 0 0) (.slice none 0 0)) 27 (0, 0)))
def SRep (iq ia is ip : Nat) (i : Nat) (v : Value) : Prop := (i = iq ∨ i = ia ∨ i = is → ∃ a n c, v = .slice a n c) ∧ (i = ip → ∃ kb, v = .pointer (some ⟨kb, 0, none⟩))
theorem FRep.stable {iq ia is ip B : Nat} {m : Msg} {an sv : List Rc.RR} {i : Nat} {v : Value} {w w' : World} (h : FRep iq ia is ip B m an sv i v w) (hg : GB w w') : FRep iq ia is ip B m an sv i v w' := by
  obtain ⟨h1, h2, h3, h4⟩ := h
  refine ⟨fun e => (h1 e).below hg, fun e => (h2 e).below hg, fun e => (h3 e).below hg, fun e => ?_⟩
  obtain ⟨kb, k1, k2, k3⟩ := h4 e
  exact ⟨kb, k1, k2, hg.heap k3⟩
theorem SRep.inh (iq ia is ip : Nat) (h1 : ip ≠ iq) (h2 : ip ≠ ia) (h3 : ip ≠ is) (i : Nat) : ∃ v, SRep iq ia is ip i v := by
  by_cases h : i = ip
  · exact ⟨.pointer (some ⟨0, 0, none⟩), fun e => by omega, fun _ => ⟨0, rfl⟩⟩
  · exact ⟨.slice none 0 0, fun _ => ⟨_, _, _, rfl⟩, fun e => absurd e h⟩


/-! ### Refuse -/

/-! ### the reference's -/
theorem effR_app0 {P : Program} {t e sz bytes : Nat} (ei : EI P t e sz bytes) {w : World} {o : Oper} {a : Act} {R : Value → World → Prop} (s x : Operand)
    (ho : o.op = .call { callee := .builtin .append, args := #[s, x], argTypes := #[t, t] }) (g : Nat) {src : Value} {m : Nat} {news : List Value} (hs : a.eval s = .slice (some ⟨g, 0, none⟩) 0 0) (hx : a.eval x = src)
    (hsrc : SlC w sz src m news) (h1 : ∀ u ∈ news, u.oneCell' = true) (h63 : m ≤ maxLen) (hbytes : m * bytes ≤ 140737488355328)
    (h : ∀ a' c' w', SlT w' e sz (.slice a' m c') m news → Below w.heap.size w w' → R (.slice a' m c') w') : Go.Mix.EffR P R ((execOp a.eval o).run P w) := by
  obtain ⟨v', w', hr, ⟨a', c', rfl⟩, h2, h3⟩ := run_app0 ei w o.type g hsrc h1 h63 hbytes
  unfold execOp
  simp only [ho, resolve, invoke, builtin, Sem.run_bind, Sem.run_pure, Result.andThen_ok, List.map_toArray, List.map_cons, List.map_nil, hs, hx, hr]
  exact h a' c' w' h2 h3
def FRef (B : Nat) (m : Msg) (i : Nat) (v : Value) (w : World) : Prop :=
  (i = 10 → SlT w 47 3 v m.qs.length (encQn m.qs)) ∧ (i = 14 → ∃ kb, v = .pointer (some ⟨kb, 0, none⟩) ∧ B ≤ kb ∧ w.heap[kb]? = some (.cells (MC ⟨0, false, 0, false, false, false, false, 0, [], [], [], [], false, 0⟩ (.slice none 0 0) (.slice none 0 0) (.slice none 0 0) (.slice none 0 0)) 27 (0, 0)))
def SRef (i : Nat) (v : Value) : Prop := (i = 7 → ∃ g, v = .slice (some ⟨g, 0, none⟩) 0 0) ∧ (i = 10 → ∃ a n c, v = .slice a n c) ∧ (i = 14 → ∃ kb, v = .pointer (some ⟨kb, 0, none⟩))
theorem FRef.stable {B : Nat} {m : Msg} {i : Nat} {v : Value} {w w' : World} (h : FRef B m i v w) (hg : GB w w') : FRef B m i v w' := by
  obtain ⟨h1, h4⟩ := h
  refine ⟨fun e => (h1 e).below hg, fun e => ?_⟩
  obtain ⟨kb, k1, k2, k3⟩ := h4 e
  exact ⟨kb, k1, k2, hg.heap k3⟩
theorem SRef.inh (i : Nat) : ∃ v, SRef i v := by
  by_cases h : i = 14
  · exact ⟨.pointer (some ⟨0, 0, none⟩), fun e => by omega, fun e => by omega, fun _ => ⟨0, rfl⟩⟩
  · exact ⟨.slice (some ⟨0, 0, none⟩) 0 0, fun _ => ⟨0, rfl⟩, fun _ => ⟨_, _, _, rfl⟩, fun e => absurd e h⟩


end Go.Proofs.Ythfhmbooeemaaaa

/- The test that effects wait for one another, by bits (each operation's ancestors once): for regions with many calls. No conditions. -/
namespace Go.Mix
open Go
section
variable {P : Program} {ops : Array Oper} {md : Region.Mode}

theorem dep_mono : ∀ (n : Nat) (j i : Nat), dep md ops n j i = true → ∀ m, n ≤ m → dep md ops m j i = true
  | 0, _, _, h, _, _ => by simp [dep] at h
  | n + 1, j, i, h, m, hm => by
    obtain ⟨m, rfl⟩ : ∃ k, m = k + 1 := ⟨m - 1, by omega⟩
    unfold dep at h ⊢
    cases ho : ops[j]? with
    | none => rw [ho] at h; simp at h
    | some o =>
      rw [ho] at h
      simp only [Array.any_eq_true'] at h ⊢
      obtain ⟨e, he, hb⟩ := h
      refine ⟨e, he, ?_⟩
      rw [Bool.and_eq_true, Bool.or_eq_true] at hb ⊢
      exact ⟨hb.1, hb.2.imp id (fun h => dep_mono n e.on i h m (by omega))⟩

/-- an operation's ancestors, as bits -/
def ancStep (md : Region.Mode) (acc : List Nat) (o : Oper) : Nat := o.after.toList.foldl (fun m e => if Region.binds md e then m ||| ((1 <<< e.on) ||| acc.getD e.on 0) else m) 0
def ancAll (md : Region.Mode) : List Oper → List Nat → List Nat
  | [], acc => acc
  | o :: l, acc => ancAll md l (acc ++ [ancStep md acc o])

theorem fold_bit (acc : List Nat) : ∀ (l : List Edge) (m i : Nat), (l.foldl (fun m e => if Region.binds md e then m ||| ((1 <<< e.on) ||| acc.getD e.on 0) else m) m).testBit i = true →
    m.testBit i = true ∨ ∃ e ∈ l, Region.binds md e = true ∧ (e.on = i ∨ (acc.getD e.on 0).testBit i = true)
  | [], m, i, h => .inl h
  | e :: l, m, i, h => by
    rcases fold_bit acc l _ i h with h1 | ⟨e', he', h2⟩
    · simp only at h1
      by_cases hb : Region.binds md e = true
      · rw [if_pos hb] at h1
        simp only [Nat.testBit_or, Bool.or_eq_true] at h1
        rcases h1 with h1 | h1 | h1
        · exact .inl h1
        · refine .inr ⟨e, by simp, hb, .inl ?_⟩
          rw [Nat.one_shiftLeft, Nat.testBit_two_pow] at h1
          simpa using h1
        · exact .inr ⟨e, by simp, hb, .inr h1⟩
      · rw [if_neg hb] at h1
        exact .inl h1
    · exact .inr ⟨e', by simp [he'], h2⟩

def AncOk (md : Region.Mode) (ops : Array Oper) (acc : List Nat) : Prop := ∀ j i, (acc.getD j 0).testBit i = true → j < acc.length ∧ dep md ops (j + 1) j i = true
theorem anc_step {acc : List Nat} (h : AncOk md ops acc) {o : Oper} (ho : ops[acc.length]? = some o) : AncOk md ops (acc ++ [ancStep md acc o]) := by
  intro j i hb
  rcases Nat.lt_trichotomy j acc.length with h1 | h1 | h1
  · rw [List.getD_eq_getElem?_getD, List.getElem?_append_left h1, ← List.getD_eq_getElem?_getD] at hb
    have := h j i hb
    exact ⟨by simp; omega, this.2⟩
  · subst h1
    have hg : (acc ++ [ancStep md acc o]).getD acc.length 0 = ancStep md acc o := by simp
    rw [hg] at hb
    refine ⟨by simp, ?_⟩
    rcases fold_bit acc _ _ i hb with h2 | ⟨e, he, h2, h3⟩
    · simp at h2
    · unfold dep
      rw [ho]
      simp only [Array.any_eq_true']
      refine ⟨e, by simpa using he, ?_⟩
      rw [Bool.and_eq_true, Bool.or_eq_true]
      refine ⟨h2, ?_⟩
      rcases h3 with h3 | h3
      · exact .inl (by simpa using h3)
      · obtain ⟨h4, h5⟩ := h e.on i h3
        exact .inr (dep_mono _ _ _ h5 _ h4)
  · rw [List.getD_eq_getElem?_getD, List.getElem?_eq_none (by simp; omega)] at hb
    simp at hb
theorem anc_all : ∀ (l : List Oper) (acc : List Nat), AncOk md ops acc → (∀ j, l[j]? = ops[acc.length + j]?) → AncOk md ops (ancAll md l acc)
  | [], _, h, _ => h
  | o :: l, acc, h, hl => by
    have h0 : ops[acc.length]? = some o := by simpa using (hl 0).symm
    refine anc_all l _ (anc_step h h0) fun j => ?_
    have := hl (j + 1)
    simp only [List.getElem?_cons_succ] at this
    rw [this, List.length_append, List.length_singleton]
    congr 1
    omega

def chainC (md : Region.Mode) (ops : Array Oper) (Es : List Nat) : Bool :=
  let A := ancAll md ops.toList []
  Es.all fun i => Es.all fun j => i == j || (A.getD i 0).testBit j || (A.getD j 0).testBit i
theorem chainC_of {Es : List Nat} (h : chainC md ops Es = true) : Chain md ops (fun k => Es.contains k) ops.size := by
  have hA : AncOk md ops (ancAll md ops.toList []) := anc_all ops.toList [] (fun j i h => by simp at h) (fun j => by simp)
  unfold chainC at h
  simp only [List.all_eq_true] at h
  intro i j hi hj hij h1 h2
  have h3 := h i (by simpa using h1) j (by simpa using h2)
  simp only [Bool.or_eq_true, beq_iff_eq] at h3
  rcases h3 with (h3 | h3) | h3
  · exact absurd h3 hij
  · exact .inl (dep_mono _ _ _ (hA i j h3).2 _ hi)
  · exact .inr (dep_mono _ _ _ (hA j i h3).2 _ hj)

theorem wp_region_mixC {id : Nat} {l : List Oper} {Es : List Nat} (C : World → Prop) {Q : Exit → Act → World → Prop} {a : Act} {w : World} (hm : P.follows .mixedOrders = true)
    (hB : (Region.lexB .any l.toArray && chainC .any l.toArray Es) = true) (hC : C w.drew)
    (h : Nonempty (Subtype C) → MixG P l.toArray (fun k => Es.contains k) C (fun a' w' => Q .normal a' w') 0 l a w.drew) : (Code.region id l.toArray true).wp P Q a w := by
  simp only [Region.lexB, Bool.and_eq_true] at hB
  refine wp_region_any hm (wpAny_of_wpAnyM (Q := fun a' w' => Q .normal a' w') (C := C) (E := fun k => Es.contains k) (fun _ _ _ h => h) _ _ _ _ hC ?_)
  have := wpAnyM_lex (P := P) (C := C) (Q := fun a' w' => Q .normal a' w') (md := .any) (chainC_of hB.2) hB.1.1 l 0 (Array.replicate l.toArray.size false) a w.drew (by simp) (Down.start _) hC (by simpa using hB.1.2) (h ⟨⟨_, hC⟩⟩).out
  simpa using this
end
end Go.Mix

/- The contracts of freshetalike.Records, Small, RRs (of lists that are alike), Message (of messages that are alike). -/
namespace Go.Proofs.Ythfhmbooeemaaaa
open Go.RowKit Go.Shelf Go.Sq
set_option linter.unusedVariables false

/-- how much records have -/
def sumR (l : List Rc.RR) : Nat := (l.map fun r => r.name.length + r.data.length).sum
theorem sumR_snoc (l : List Rc.RR) (x : Rc.RR) : sumR (l ++ [x]) = sumR l + (x.name.length + x.data.length) := by simp [sumR]
theorem sumR_take_le (l : List Rc.RR) (k : Nat) : sumR (l.take k) ≤ sumR l := by
  have e : sumR (l.take k) + sumR (l.drop k) = sumR l := by
    unfold sumR
    rw [← List.sum_append, ← List.map_append, List.take_append_drop]
  omega
theorem sumR_mem {l : List Rc.RR} {x : Rc.RR} (h : x ∈ l) : x.name.length + x.data.length ≤ sumR l := by
  induction l with
  | nil => cases h
  | cons y l ih =>
    rcases List.mem_cons.1 h with rfl | h
    · simp [sumR]
    · have := ih h
      simp [sumR] at this ⊢
      omega
def recordsB (l : List Rc.RR) (top : Nat) : Bool := decide (l.length + sumR l ≤ top)
theorem recordsB_true {l : List Rc.RR} {top : Nat} (h : recordsB l top = true) : l.length ≤ top ∧ ∀ r ∈ l, r.name.length ≤ top ∧ r.data.length ≤ top := by
  unfold recordsB at h
  rw [decide_eq_true_eq] at h
  refine ⟨by omega, fun r hr => ?_⟩
  have := sumR_mem hr
  omega
theorem rr_step {l : List Rc.RR} {k n : Nat} (hn : l.length = n) (h : k < n) : l.take (k + 1) = l.take k ++ [l.getD k r0] ∧ l.getD k r0 ∈ l := by
  subst hn
  constructor
  · rw [List.take_succ_eq_append_getElem h]
    simp [h]
  · rw [List.getD_eq_getElem?_getD, List.getElem?_eq_getElem h]
    simp

set_option maxRecDepth 100000 in
set_option maxHeartbeats 4000000 in
theorem Records_any (l : List Rc.RR) (a : Option Addr) (cap : Nat) (top : Nat) (w : World) (hst : RRs w (.slice a l.length cap) l) (ht : top ≤ 100000) (hok : ∀ r ∈ l, RROk r) :
    Calls Try.prog 34 #[.slice a l.length cap, .int .i64 top] w fun e w' => e = .returned (.bool (recordsB l top)) ∧ Below w.heap.size w w' := by
  obtain ⟨hn1, hc1⟩ := slc_bounds hst
  have HB := Go.Lib.hid (Below.refl w.heap.size w)
  generalize hn : l.length = n at *
  have hdef : recordsB l top = decide (n + sumR l ≤ top) := by unfold recordsB; rw [hn]
  generalize recordsB l top = res at *
  have HX := Go.Lib.hid hst
  have HOK := Go.Lib.hid hok
  have HDEF := Go.Lib.hid hdef
  clear hst hok hdef
  have HN := Go.Lib.hid hn
  clear hn
  unfold maxLen at hc1
  go_enter Try.func34, Try.ntmps34
  go_wp2_with fail
  go_loopw [5, 6] (fun v i wr => ∃ k N : Nat, i = .int .i64 k ∧ v = .int .i64 N ∧ k ≤ n ∧ N = n + sumR (l.take k) ∧ N ≤ n + 300000 ∧ Below w.heap.size w wr) (fun _ i _ => n - (intOf i).toNat)
  case atStart => exact ⟨0, n, rfl, rfl, by omega, by simp [sumR], by omega, HB.out⟩
  case round =>
    obtain ⟨k, N, rfl, rfl, hk, hN, hNb, hbr⟩ := hrel
    clear HB
    have HNN := Go.Lib.hid hN
    have hmono := sumR_take_le l k
    have hbig : Hid (top < N → res = false) := Go.Lib.hid (fun h => by rw [HDEF.out, decide_eq_false_iff_not]; omega)
    clear hN hmono
    have HB := Go.Lib.hid hbr
    clear hbr
    by_cases hlt : k < n
    · by_cases hle : N ≤ top
      · have hst := HX.out.below HB.out (Nat.le_refl _)
        rw [← HN.out] at hst
        obtain ⟨b, off, rfl, hbw, hcell⟩ := RRs.at hst (by rw [HN.out]; omega)
        obtain ⟨c0, _, _, _, c4⟩ := hcell k (by rw [HN.out]; exact hlt)
        obtain ⟨hstep, hmem⟩ := rr_step HN.out hlt
        have hxs := HOK.out _ hmem
        have hxb := sumR_mem hmem
        have hsum : sumR (l.take (k + 1)) = sumR (l.take k) + ((l.getD k r0).name.length + (l.getD k r0).data.length) := by rw [hstep, sumR_snoc]
        have hlong : Hid (top < (l.getD k r0).name.length ∨ top < (l.getD k r0).data.length → res = false) := Go.Lib.hid (fun h => by rw [HDEF.out, decide_eq_false_iff_not]; omega)
        have HSUM := Go.Lib.hid hsum
        clear hst hcell hmem hstep hsum hxb
        generalize l.getD k r0 = x at *
        obtain ⟨xn, xt, xc, xl, xd⟩ := x
        obtain ⟨hx1, hx2⟩ := hxs
        unfold maxLen at hx1 hx2
        simp only at c0 c4 hx1 hx2
        have s1 : (mk xn).size = xn.length := size_mk xn
        have s2 : (mk xd).size = xd.length := size_mk xd
        have q2 : (N : Int) ≤ (top : Int) := by omega
        by_cases hx : top < xn.length
        · have q1 : (top : Int) < (xn.length : Int) := by omega
          have hres := Go.Lib.hid (hlong.out (.inl hx))
          clear hx hlong
          go_wp2_with fail
          go_ret
          exact ⟨ret_bool hres.out.symm, HB.out⟩
        · have q1 : ¬ (top : Int) < (xn.length : Int) := by omega
          by_cases hy : top < xd.length
          · have q3 : (top : Int) < (xd.length : Int) := by omega
            have hres := Go.Lib.hid (hlong.out (.inr hy))
            clear hx hy hlong
            go_wp2_with fail
            go_ret
            exact ⟨ret_bool hres.out.symm, HB.out⟩
          · have q3 : ¬ (top : Int) < (xd.length : Int) := by omega
            clear hlong
            have w1 : IntKind.i64.wrap ((N : Int) + (xn.length : Int)) = (N : Int) + (xn.length : Int) := wrapi (by omega) (by omega)
            have w2 : IntKind.i64.wrap ((N : Int) + (xn.length : Int) + (xd.length : Int)) = (N : Int) + (xn.length : Int) + (xd.length : Int) := wrapi (by omega) (by omega)
            have C0 := BelowC.cell (W := wr) c0 hbw
            have C4 := BelowC.cell (W := wr) c4 hbw
            have hne : Nonempty (Subtype (Below wr.heap.size wr)) := ⟨⟨wr, Below.refl _ _⟩⟩
            go_wp2_with fail
            refine Go.Mix.wp_region_mix (Es := []) (Below wr.heap.size wr) mixed (by kernel_rfl) (Below.refl _ _).drew (fun _ => ?_)
            clear c0 c4
            iterate 16 (refine Go.Mix.mix_step rfl (fun K hK => ?_); have HKK := Go.Lib.hid hK; clear hK; go_simp; refine HKK.out _ _ ?_; clear HKK K)
            refine Go.Mix.mix_nil ?_
            go_wp2_with fail
            go_roundw
            case rel => exact ⟨k + 1, N + xn.length + xd.length, by go_num, by go_num, by omega, by rw [HSUM.out, HNN.out]; omega, by omega, HB.out.drew⟩
            case measure => simp [intOf]; omega
      · have q2 : ¬ (N : Int) ≤ (top : Int) := by omega
        have hres := Go.Lib.hid (hbig.out (by omega))
        go_wp2_with fail
        go_ret
        exact ⟨ret_bool (by rw [hres.out]), HB.out⟩
    · obtain rfl : k = n := by omega
      have hall : Hid (res = decide ((N : Int) ≤ (top : Int))) := Go.Lib.hid (by
        have := HNN.out
        rw [List.take_of_length_le (by rw [HN.out]; exact Nat.le_refl _)] at this
        rw [HDEF.out, this, decide_eq_decide]
        omega)
      go_wp2_with fail
      go_ret
      exact ⟨ret_bool (by rw [hall.out]; first | rfl | simp), HB.out⟩

/-- is a message looked at? -/
def smallB (m : Msg) (top : Nat) : Bool := decide (m.qs.length ≤ 8) && (m.qs.all fun q => decide (q.name.length ≤ 400)) && recordsB m.an top && recordsB m.sv top && recordsB m.ad top

set_option maxRecDepth 100000 in
set_option maxHeartbeats 4000000 in
theorem RRs_same (l : List Rc.RR) (a1 a2 : Option Addr) (c1 c2 : Nat) (w : World) (hx : RRs w (.slice a1 l.length c1) l) (hy : RRs w (.slice a2 l.length c2) l) :
    Calls Try.prog 33 #[.slice a1 l.length c1, .slice a2 l.length c2] w fun e w' => e = .returned (.bool true) ∧ Below w.heap.size w w' := by
  obtain ⟨hn1, hc1⟩ := slc_bounds hx
  have HB := Go.Lib.hid (Below.refl w.heap.size w)
  generalize hn : l.length = n at *
  have HX := Go.Lib.hid hx
  have HY := Go.Lib.hid hy
  clear hx hy
  have HN := Go.Lib.hid hn
  clear hn
  unfold maxLen at hc1
  go_enter Try.func33, Try.ntmps33
  go_wp2_with fail
  go_loopw [5] (fun i wr => ∃ k : Nat, i = .int .i64 k ∧ k ≤ n ∧ Below w.heap.size w wr) (fun i _ => n - (intOf i).toNat)
  case atStart => exact ⟨0, rfl, by omega, HB.out⟩
  case round =>
    obtain ⟨k, rfl, hk, hbr⟩ := hrel
    clear HB
    have HB := Go.Lib.hid hbr
    clear hbr
    by_cases hlt : k < n
    · have hst := HX.out.below HB.out (Nat.le_refl _)
      have hsu := HY.out.below HB.out (Nat.le_refl _)
      rw [← HN.out] at hst hsu
      obtain ⟨b, off, rfl, hbw, hcell⟩ := RRs.at hst (by rw [HN.out]; omega)
      obtain ⟨b', off', rfl, hbw', hcell'⟩ := RRs.at hsu (by rw [HN.out]; omega)
      obtain ⟨c0, c1, c2, c3, c4⟩ := hcell k (by rw [HN.out]; exact hlt)
      obtain ⟨d0, d1, d2, d3, d4⟩ := hcell' k (by rw [HN.out]; exact hlt)
      clear hst hsu hcell hcell'
      generalize l.getD k r0 = x at *
      obtain ⟨xn, xt, xc, xl, xd⟩ := x
      simp only at c0 c1 c2 c3 c4 d0 d1 d2 d3 d4
      have C0 := BelowC.cell (W := wr) c0 hbw
      have C1 := BelowC.cell (W := wr) c1 hbw
      have C2 := BelowC.cell (W := wr) c2 hbw
      have C3 := BelowC.cell (W := wr) c3 hbw
      have C4 := BelowC.cell (W := wr) c4 hbw
      have D0 := BelowC.cell (W := wr) d0 hbw'
      have D1 := BelowC.cell (W := wr) d1 hbw'
      have D2 := BelowC.cell (W := wr) d2 hbw'
      have D3 := BelowC.cell (W := wr) d3 hbw'
      have D4 := BelowC.cell (W := wr) d4 hbw'
      have hne : Nonempty (Subtype (Below wr.heap.size wr)) := ⟨⟨wr, Below.refl _ _⟩⟩
      clear c0 c1 c2 c3 c4 d0 d1 d2 d3 d4
      go_wp2_with fail
      refine Go.Mix.wp_region_mix (Es := []) (Below wr.heap.size wr) mixed (by kernel_rfl) (Below.refl _ _).drew (fun _ => ?_)
      iterate 9 (refine Go.Mix.mix_step rfl (fun K hK => ?_); have HKK := Go.Lib.hid hK; clear hK; go_simp; refine HKK.out _ _ ?_; clear HKK K)
      refine Go.Mix.mix_nil ?_
      go_wp2_with fail
      go_roundw
      case rel => exact ⟨k + 1, by go_num, by omega, HB.out.drew⟩
      case measure => simp [intOf]; omega
    · obtain rfl : k = n := by omega
      go_wp2_with fail
      go_ret
      exact ⟨rfl, HB.out⟩
end Go.Proofs.Ythfhmbooeemaaaa

/- The contracts of freshetalike.Small, and of freshetalike.Message at messages that are alike. -/
namespace Go.Proofs.Ythfhmbooeemaaaa
open Go.RowKit Go.Shelf Go.Sq
set_option linter.unusedVariables false

theorem qn_step {l : List Qn} {k n : Nat} (hn : l.length = n) (h : k < n) : l.take (k + 1) = l.take k ++ [l.getD k q0] ∧ l.getD k q0 ∈ l := by
  subst hn
  constructor
  · rw [List.take_succ_eq_append_getElem h]
    simp [h]
  · rw [List.getD_eq_getElem?_getD, List.getElem?_eq_getElem h]
    simp
def longQ (l : List Qn) : Bool := l.all fun q => decide (q.name.length ≤ 400)
structure MsgOk (m : Msg) : Prop where
  qs : ∀ q ∈ m.qs, q.name.length ≤ maxLen
  an : ∀ r ∈ m.an, RROk r
  sv : ∀ r ∈ m.sv, RROk r
  ad : ∀ r ∈ m.ad, RROk r

set_option maxRecDepth 100000 in
set_option maxHeartbeats 4000000 in
theorem Small_any (m : Msg) (q a s d : Value) (top : Nat) (w : World) (hm : MsgL w m q a s d) (ht : top ≤ 100000) (hok : MsgOk m) :
    Calls Try.prog 15 #[MV m q a s d, .int .i64 top] w fun e w' => e = .returned (.bool (smallB m top)) ∧ Below w.heap.size w w' := by
  obtain ⟨aq, cq, rfl, _, _⟩ := hm.qs.slice
  obtain ⟨aa, ca, rfl, _, _⟩ := hm.an.slice
  obtain ⟨asv, cs, rfl, _, _⟩ := hm.sv.slice
  obtain ⟨ad, cd, rfl, _, _⟩ := hm.ad.slice
  have hx1 := World.alloc_heap_new w (.cells (MC m (.slice aq m.qs.length cq) (.slice aa m.an.length ca) (.slice asv m.sv.length cs) (.slice ad m.ad.length cd)) 27)
  have hbx : Below w.heap.size w (w.alloc (.cells (MC m (.slice aq m.qs.length cq) (.slice aa m.an.length ca) (.slice asv m.sv.length cs) (.slice ad m.ad.length cd)) 27)) := (Below.refl _ w).alloc (Nat.le_refl _) _
  have hlt1 := (Array.getElem?_eq_some_iff.1 hx1).1
  have hq := hm.qs
  have ra := fun (W : World) (h : Below w.heap.size w W) => Records_any m.an aa ca top W (hm.an.below h (Nat.le_refl _)) ht hok.an
  have rs := fun (W : World) (h : Below w.heap.size w W) => Records_any m.sv asv cs top W (hm.sv.below h (Nat.le_refl _)) ht hok.sv
  have rd := fun (W : World) (h : Below w.heap.size w W) => Records_any m.ad ad cd top W (hm.ad.below h (Nat.le_refl _)) ht hok.ad
  have hqn := hok.qs
  have hdef : smallB m top = (decide (m.qs.length ≤ 8) && longQ m.qs && recordsB m.an top && recordsB m.sv top && recordsB m.ad top) := rfl
  clear hm hok
  obtain ⟨mid, mre, mop, mau, mcu, mde, mav, mco, mqs, man, msv, mad, med, msi⟩ := m
  simp only [MC, MV] at hq hx1 hbx hlt1 ra rs rd hqn hdef ⊢
  generalize smallB _ top = res at *
  generalize recordsB man top = b1 at *
  generalize recordsB msv top = b2 at *
  generalize recordsB mad top = b3 at *
  generalize man.length = na at *
  generalize msv.length = ns at *
  generalize mad.length = nd at *
  unfold Qns at hq
  generalize hnq : mqs.length = nq at *
  have HQ := Go.Lib.hid hq
  have HQN := Go.Lib.hid hqn
  have HX1 := Go.Lib.hid hx1
  have HBX := Go.Lib.hid hbx
  have HDEF := Go.Lib.hid hdef
  have HNQ := Go.Lib.hid hnq
  have RA := Go.Lib.hid ra
  have RS := Go.Lib.hid rs
  have RD := Go.Lib.hid rd
  clear hq hqn hx1 hbx hdef hnq ra rs rd
  by_cases h8 : 8 < nq
  · have hres : Hid (res = false) := Go.Lib.hid (by rw [HDEF.out, decide_eq_false (by omega)]; simp)
    have e8 : (8 : Int) < (nq : Int) := by omega
    go_enter Try.func15, Try.ntmps15
    go_wp2_with fail
    go_ret
    exact ⟨ret_bool hres.out.symm, HBX.out⟩
  · have e8 : ¬ (8 : Int) < (nq : Int) := by omega
    have h8' : nq ≤ 8 := by omega
    clear h8
    go_enter Try.func15, Try.ntmps15
    go_wp2_with fail
    generalize w.alloc (.cells #[.int .i64 mid, .bool mre, .int .i64 mop, .bool mau, .bool mcu, .bool mde, .bool mav, .int .i64 mco, .slice aq nq cq, .slice aa na ca, .slice asv ns cs, .slice ad nd cd, .bool med, .int .i64 msi] 27) = W at *
    go_loopw [5] (fun i wr => ∃ k : Nat, i = .int .i64 k ∧ k ≤ nq ∧ longQ (mqs.take k) = true ∧ Below W.heap.size W wr) (fun i _ => nq - (intOf i).toNat)
    case atStart => exact ⟨0, rfl, by omega, rfl, Below.refl _ _⟩
    case round =>
      obtain ⟨k, rfl, hk, hall, hbr⟩ := hrel
      have hh := (hbr.block _ hlt1).trans HX1.out
      have hg := cell_of_heap hh
      have g8 := hg 8
      have g9 := hg 9
      have g10 := hg 10
      have g11 := hg 11
      simp only [List.getElem?_toArray, List.getElem?_cons_succ, List.getElem?_cons_zero] at g8 g9 g10 g11
      have hbb := HBX.out.trans (hbr.mono HBX.out.size)
      have HALL := Go.Lib.hid hall
      have HB := Go.Lib.hid hbr
      have HH := Go.Lib.hid hh
      have HBB := Go.Lib.hid hbb
      clear hall hbr hh hbb
      clear hg
      by_cases hlt : k < nq
      · have hst := HQ.out.below HBB.out (Nat.le_refl _)
        have hst2 : Qns wr (.slice aq nq cq) mqs := by unfold Qns; rw [HNQ.out]; exact hst
        obtain ⟨b, off, rfl, hbw, hcell⟩ := Qns.at hst2 (by rw [HNQ.out]; omega)
        obtain ⟨c0, _, _⟩ := hcell k (by rw [HNQ.out]; exact hlt)
        obtain ⟨hstep, hmem⟩ := qn_step HNQ.out hlt
        have hxs := HQN.out _ hmem
        have hlong : Hid (400 < (mqs.getD k q0).name.length → longQ mqs = false) := Go.Lib.hid (fun h => by
          unfold longQ
          rw [List.all_eq_false]
          exact ⟨_, hmem, by simpa using h⟩)
        have hsn : Hid ((mqs.getD k q0).name.length ≤ 400 → longQ (mqs.take (k + 1)) = true) := Go.Lib.hid (fun h => by
          rw [hstep]
          unfold longQ at *
          rw [List.all_append, HALL.out]
          simpa using h)
        clear hst hst2 hcell hstep hmem
        generalize mqs.getD k q0 = x at *
        obtain ⟨xn, xt, xc⟩ := x
        unfold maxLen at hxs
        simp only at c0 hxs
        have s1 : (mk xn).size = xn.length := size_mk xn
        by_cases hx : 400 < xn.length
        · have q1 : (400 : Int) < (xn.length : Int) := by omega
          have hres : Hid (res = false) := Go.Lib.hid (by rw [HDEF.out, hlong.out hx]; simp)
          clear hx hlong hsn
          go_wp2_with fail
          go_ret
          exact ⟨ret_bool hres.out.symm, HBB.out⟩
        · have q1 : ¬ (400 : Int) < (xn.length : Int) := by omega
          have hnx := Go.Lib.hid (hsn.out (by simpa using hx))
          clear hx hlong hsn
          go_wp2_with fail
          go_roundw
          case rel => exact ⟨k + 1, by go_num, by omega, hnx.out, HB.out⟩
          case measure => simp [intOf]; omega
      · obtain rfl : k = nq := by omega
        have hl : longQ mqs = true := by
          have := HALL.out
          rw [List.take_of_length_le (by rw [HNQ.out]; exact Nat.le_refl _)] at this
          exact this
        have hres : Hid (res = (b1 && b2 && b3)) := Go.Lib.hid (by rw [HDEF.out, hl, decide_eq_true h8']; simp)
        have r1 := RA.out wr HBB.out
        have R1 := Go.Lib.hid r1
        clear r1
        clear hl
        have hltr : w.heap.size < wr.heap.size := Nat.lt_of_lt_of_le hlt1 HB.out.size
        cases b1 with
        | false =>
          have hr2 : Hid (res = false) := Go.Lib.hid (by rw [hres.out]; rfl)
          go_wp2_with fail
          refine R1.out.mono ?_; rintro e wz ⟨rfl, hx⟩
          have HXX := Go.Lib.hid hx
          clear hx
          go_wp2_with fail
          go_ret
          exact ⟨ret_bool hr2.out.symm, HBB.out.trans (HXX.out.mono HBB.out.size)⟩
        | true =>
          go_wp2_with fail
          refine R1.out.mono ?_; rintro e wz ⟨rfl, hx⟩
          have hb2 := HBB.out.trans (hx.mono HBB.out.size)
          have hh2 := (hx.block _ hltr).trans HH.out
          have hg := cell_of_heap hh2
          have k10 := hg 10
          have k11 := hg 11
          simp only [List.getElem?_toArray, List.getElem?_cons_succ, List.getElem?_cons_zero] at k10 k11
          have r2 := RS.out wz hb2
          have hltz : w.heap.size < wz.heap.size := Nat.lt_of_lt_of_le hltr hx.size
          have HB2 := Go.Lib.hid hb2
          have HH2 := Go.Lib.hid hh2
          have R2 := Go.Lib.hid r2
          clear hb2 hh2 r2
          clear hg hx g8 g9 g10 g11
          cases b2 with
          | false =>
            have hr2 : Hid (res = false) := Go.Lib.hid (by rw [hres.out]; rfl)
            go_wp2_with fail
            refine R2.out.mono ?_; rintro e wy ⟨rfl, hx⟩
            have HXX := Go.Lib.hid hx
            clear hx
            go_wp2_with fail
            go_ret
            exact ⟨ret_bool hr2.out.symm, HB2.out.trans (HXX.out.mono HB2.out.size)⟩
          | true =>
            have hr2 : Hid (res = b3) := Go.Lib.hid (by rw [hres.out]; rfl)
            go_wp2_with fail
            refine R2.out.mono ?_; rintro e wy ⟨rfl, hx⟩
            have hb3 := HB2.out.trans (hx.mono HB2.out.size)
            have hh3 := (hx.block _ hltz).trans HH2.out
            have hg := cell_of_heap hh3
            have j11 := hg 11
            simp only [List.getElem?_toArray, List.getElem?_cons_succ, List.getElem?_cons_zero] at j11
            have r3 := RD.out wy hb3
            have HB3 := Go.Lib.hid hb3
            have HH3 := Go.Lib.hid hh3
            have R3 := Go.Lib.hid r3
            clear hb3 hh3 r3
            clear hg hx k10 k11
            go_wp2_with fail
            refine R3.out.mono ?_; rintro e wx ⟨rfl, hx⟩
            have HXX := Go.Lib.hid hx
            clear hx
            go_wp2_with fail
            go_ret
            exact ⟨ret_bool hr2.out.symm, HB3.out.trans (HXX.out.mono HB3.out.size)⟩

set_option maxRecDepth 100000 in
set_option maxHeartbeats 4000000 in
theorem Message_same (m : Msg) (q a s d q' a' s' d' : Value) (w : World) (hm : MsgL w m q a s d) (ho : MsgL w m q' a' s' d') :
    Calls Try.prog 14 #[MV m q a s d, MV m q' a' s' d'] w fun e w' => e = .returned (.bool true) ∧ Below w.heap.size w w' := by
  obtain ⟨aq, cq, rfl, hq1, hq2⟩ := hm.qs.slice
  obtain ⟨aa, ca, rfl, _, _⟩ := hm.an.slice
  obtain ⟨asv, cs, rfl, _, _⟩ := hm.sv.slice
  obtain ⟨ad, cd, rfl, _, _⟩ := hm.ad.slice
  obtain ⟨bq, eq, rfl, _, _⟩ := ho.qs.slice
  obtain ⟨ba, ea, rfl, _, _⟩ := ho.an.slice
  obtain ⟨bsv, es, rfl, _, _⟩ := ho.sv.slice
  obtain ⟨bd, ed, rfl, _, _⟩ := ho.ad.slice
  have hq := hm.qs
  have hq' := ho.qs
  obtain ⟨hx1, hx2⟩ := two_boxes w (MC m (.slice aq m.qs.length cq) (.slice aa m.an.length ca) (.slice asv m.sv.length cs) (.slice ad m.ad.length cd)) (MC m (.slice bq m.qs.length eq) (.slice ba m.an.length ea) (.slice bsv m.sv.length es) (.slice bd m.ad.length ed)) 27
  have hbx : Below w.heap.size w ((w.alloc (.cells (MC m (.slice aq m.qs.length cq) (.slice aa m.an.length ca) (.slice asv m.sv.length cs) (.slice ad m.ad.length cd)) 27)).alloc (.cells (MC m (.slice bq m.qs.length eq) (.slice ba m.an.length ea) (.slice bsv m.sv.length es) (.slice bd m.ad.length ed)) 27)) := ((Below.refl _ w).alloc (Nat.le_refl _) _).alloc (by simp) _
  have ra := fun (W : World) (h : Below w.heap.size w W) => RRs_same m.an aa ba ca ea W (hm.an.below h (Nat.le_refl _)) (ho.an.below h (Nat.le_refl _))
  have rs := fun (W : World) (h : Below w.heap.size w W) => RRs_same m.sv asv bsv cs es W (hm.sv.below h (Nat.le_refl _)) (ho.sv.below h (Nat.le_refl _))
  have rd := fun (W : World) (h : Below w.heap.size w W) => RRs_same m.ad ad bd cd ed W (hm.ad.below h (Nat.le_refl _)) (ho.ad.below h (Nat.le_refl _))
  have hl1 := (Array.getElem?_eq_some_iff.1 hx1).1
  have hl2 := (Array.getElem?_eq_some_iff.1 hx2).1
  clear hm ho
  obtain ⟨mid, mre, mop, mau, mcu, mde, mav, mco, mqs, man, msv, mad, med, msi⟩ := m
  simp only [MC, MV] at hq hq' hx1 hx2 hbx ra rs rd hl1 hl2 hq1 ⊢
  generalize man.length = na at *
  generalize msv.length = ns at *
  generalize mad.length = nd at *
  unfold Qns at hq hq'
  generalize hnq : mqs.length = nq at *
  unfold maxLen at hq2
  have HQ := Go.Lib.hid hq
  have HQ' := Go.Lib.hid hq'
  have HX1 := Go.Lib.hid hx1
  have HX2 := Go.Lib.hid hx2
  have HBX := Go.Lib.hid hbx
  have HNQ := Go.Lib.hid hnq
  have RA := Go.Lib.hid ra
  have RS := Go.Lib.hid rs
  have RD := Go.Lib.hid rd
  clear hq hq' hx1 hx2 hbx hnq ra rs rd
  go_enter Try.func14, Try.ntmps14
  go_wp2_with fail
  generalize (w.alloc (.cells #[.int .i64 mid, .bool mre, .int .i64 mop, .bool mau, .bool mcu, .bool mde, .bool mav, .int .i64 mco, .slice aq nq cq, .slice aa na ca, .slice asv ns cs, .slice ad nd cd, .bool med, .int .i64 msi] 27)).alloc (.cells #[.int .i64 mid, .bool mre, .int .i64 mop, .bool mau, .bool mcu, .bool mde, .bool mav, .int .i64 mco, .slice bq nq eq, .slice ba na ea, .slice bsv ns es, .slice bd nd ed, .bool med, .int .i64 msi] 27) = W at *
  go_loopw [5] (fun i wr => ∃ k : Nat, i = .int .i64 k ∧ k ≤ nq ∧ Below W.heap.size W wr) (fun i _ => nq - (intOf i).toNat)
  case atStart => exact ⟨0, rfl, by omega, Below.refl _ _⟩
  case round =>
    obtain ⟨k, rfl, hk, hbr⟩ := hrel
    have hh1 := (hbr.block _ hl1).trans HX1.out
    have hh2 := (hbr.block _ hl2).trans HX2.out
    have hg1 := cell_of_heap hh1
    have hg2 := cell_of_heap hh2
    have g8 := hg1 8
    have g9 := hg1 9
    have f8 := hg2 8
    have f9 := hg2 9
    simp only [List.getElem?_toArray, List.getElem?_cons_succ, List.getElem?_cons_zero] at g8 g9 f8 f9
    have hbb := HBX.out.trans (hbr.mono HBX.out.size)
    have hr1 := (Array.getElem?_eq_some_iff.1 hh1).1
    have hr2 := (Array.getElem?_eq_some_iff.1 hh2).1
    have HB := Go.Lib.hid hbr
    have HH1 := Go.Lib.hid hh1
    have HH2 := Go.Lib.hid hh2
    have HBB := Go.Lib.hid hbb
    clear hbr hh1 hh2 hbb
    clear hg1 hg2
    by_cases hlt : k < nq
    · have hst : Qns wr (.slice aq nq cq) mqs := by unfold Qns; rw [HNQ.out]; exact HQ.out.below HBB.out (Nat.le_refl _)
      have hsu : Qns wr (.slice bq nq eq) mqs := by unfold Qns; rw [HNQ.out]; exact HQ'.out.below HBB.out (Nat.le_refl _)
      obtain ⟨b, off, rfl, hbw, hcell⟩ := Qns.at hst (by rw [HNQ.out]; omega)
      obtain ⟨b', off', rfl, hbw', hcell'⟩ := Qns.at hsu (by rw [HNQ.out]; omega)
      obtain ⟨c0, c1, c2⟩ := hcell k (by rw [HNQ.out]; exact hlt)
      obtain ⟨d0, d1, d2⟩ := hcell' k (by rw [HNQ.out]; exact hlt)
      clear hst hsu hcell hcell'
      generalize mqs.getD k q0 = x at *
      obtain ⟨xn, xt, xc⟩ := x
      simp only at c0 c1 c2 d0 d1 d2
      have C0 := BelowC.cell (W := wr) c0 hbw
      have C1 := BelowC.cell (W := wr) c1 hbw
      have C2 := BelowC.cell (W := wr) c2 hbw
      have D0 := BelowC.cell (W := wr) d0 hbw'
      have D1 := BelowC.cell (W := wr) d1 hbw'
      have D2 := BelowC.cell (W := wr) d2 hbw'
      have G8 := BelowC.cell (W := wr) g8 hr1
      have F8 := BelowC.cell (W := wr) f8 hr2
      have hne : Nonempty (Subtype (Below wr.heap.size wr)) := ⟨⟨wr, Below.refl _ _⟩⟩
      clear c0 c1 c2 d0 d1 d2
      go_wp2_with fail
      refine Go.Mix.wp_region_mix (Es := []) (Below wr.heap.size wr) mixed (by kernel_rfl) (Below.refl _ _).drew (fun _ => ?_)
      iterate 11 (refine Go.Mix.mix_step rfl (fun K hK => ?_); have HKK := Go.Lib.hid hK; clear hK; go_simp; refine HKK.out _ _ ?_; clear HKK K)
      refine Go.Mix.mix_nil ?_
      go_wp2_with fail
      go_roundw
      case rel => exact ⟨k + 1, by go_num, by omega, HB.out.drew⟩
      case measure => simp [intOf]; omega
    · obtain rfl : k = nq := by omega
      have r1 := RA.out wr HBB.out
      have R1 := Go.Lib.hid r1
      clear r1
      go_wp2_with fail
      refine R1.out.mono ?_; rintro e wz ⟨rfl, hx⟩
      have hb2 := HBB.out.trans (hx.mono HBB.out.size)
      have hi1 := (hx.block _ hr1).trans HH1.out
      have hi2 := (hx.block _ hr2).trans HH2.out
      have hg1 := cell_of_heap hi1
      have hg2 := cell_of_heap hi2
      have k10 := hg1 10
      have l10 := hg2 10
      simp only [List.getElem?_toArray, List.getElem?_cons_succ, List.getElem?_cons_zero] at k10 l10
      have hs1 := (Array.getElem?_eq_some_iff.1 hi1).1
      have hs2 := (Array.getElem?_eq_some_iff.1 hi2).1
      have r2 := RS.out wz hb2
      have HB2 := Go.Lib.hid hb2
      have HI1 := Go.Lib.hid hi1
      have HI2 := Go.Lib.hid hi2
      have R2 := Go.Lib.hid r2
      clear hb2 hi1 hi2 r2
      clear hg1 hg2 hx g8 g9 f8 f9
      go_wp2_with fail
      refine R2.out.mono ?_; rintro e wy ⟨rfl, hx⟩
      have hb3 := HB2.out.trans (hx.mono HB2.out.size)
      have hg1 := cell_of_heap ((hx.block _ hs1).trans HI1.out)
      have hg2 := cell_of_heap ((hx.block _ hs2).trans HI2.out)
      have k11 := hg1 11
      have l11 := hg2 11
      simp only [List.getElem?_toArray, List.getElem?_cons_succ, List.getElem?_cons_zero] at k11 l11
      have r3 := RD.out wy hb3
      have HB3 := Go.Lib.hid hb3
      have R3 := Go.Lib.hid r3
      clear hb3 r3
      clear hg1 hg2 hx k10 l10
      go_wp2_with fail
      refine R3.out.mono ?_; rintro e wx ⟨rfl, hx⟩
      have HXX := Go.Lib.hid hx
      clear hx
      go_wp2_with fail
      go_ret
      exact ⟨rfl, HB3.out.trans (HXX.out.mono HB3.out.size)⟩
end Go.Proofs.Ythfhmbooeemaaaa

/- Arguments opened: questions, messages. No conditions. -/
namespace Go.Proofs.Ythfhmbooeemaaaa
set_option maxRecDepth 100000
open Go.RowKit Go.ChangeShapes Go.WideShapes Go.Deep
set_option linter.unusedVariables false

def QnFit (q : Qn) : Prop := q.name.length ≤ maxLen ∧ Fits q.ty ∧ Fits q.cl
section
variable {H : Type} {enc : TypeId × Value → H} {w : World} {base b0 : Nat} {spare : Nat → Bool} {held : Bool}
theorem qn_elem {n : Nat} {cs : List Value} {y : DataW H × List MemPlace} (h : DataW.trod enc Try.prog w base spare held n 47 cs = some y) : ∃ r, QnFit r ∧ cs = en3 r := by
  obtain ⟨hl, n, hf⟩ := openE Try.underlying47 (by kernel_rfl) (by kernel_rfl) h
  obtain ⟨u0, y0, e0, h0⟩ := hf 0 _ rfl
  obtain ⟨u1, y1, e1, h1⟩ := hf 1 _ rfl
  obtain ⟨u2, y2, e2, h2⟩ := hf 2 _ rfl
  obtain ⟨a, b, c, rfl⟩ := three (show cs.length = 3 from hl)
  obtain rfl : a = u0 := Option.some.inj e0
  obtain rfl : b = u1 := Option.some.inj e1
  obtain rfl : c = u2 := Option.some.inj e2
  obtain ⟨s, rfl, hs⟩ := tStr h0
  obtain ⟨i, rfl, hi⟩ := tInt h1
  obtain ⟨j, rfl, hj⟩ := tInt h2
  exact ⟨⟨s, i, j⟩, ⟨hs, hi, hj⟩, rfl⟩
theorem open_Qn {v : Value} {d : DataW H} {p : List MemPlace} (hv : Value.okWide Try.prog w .any b0 47 v) (h : DataW.Trod enc Try.prog w base spare held 47 v d p) :
    ∃ r : Qn, v = .agg #[.string (mk r.name), .int .i64 r.ty, .int .i64 r.cl] ∧ QnFit r := by
  obtain ⟨cs, rfl, hl, n, hf⟩ := openS Try.underlying47 (by kernel_rfl) (by kernel_rfl) hv h
  obtain ⟨u0, y0, e0, h0⟩ := hf 0 _ rfl
  obtain ⟨u1, y1, e1, h1⟩ := hf 1 _ rfl
  obtain ⟨u2, y2, e2, h2⟩ := hf 2 _ rfl
  obtain ⟨a, b, c, rfl⟩ := three (show cs.length = 3 from hl)
  obtain rfl : a = u0 := Option.some.inj e0
  obtain rfl : b = u1 := Option.some.inj e1
  obtain rfl : c = u2 := Option.some.inj e2
  obtain ⟨s, rfl, hs⟩ := tStr h0
  obtain ⟨i, rfl, hi⟩ := tInt h1
  obtain ⟨j, rfl, hj⟩ := tInt h2
  exact ⟨⟨s, i, j⟩, rfl, hs, hi, hj⟩
theorem openQns {fuel : Nat} {v : Value} {y : DataW H × List MemPlace} (hd : DataW.trod enc Try.prog w base (fun _ => true) held fuel 24 [v] = some y) :
    ∃ a l cap, v = .slice a (l : List Qn).length cap ∧ Qns w v l ∧ ∀ r ∈ l, QnFit r :=
  open_slc 3 (by omega) en3 (fun _ => rfl) QnFit Try.underlying24 (by kernel_rfl) (fun _ _ _ h => qn_elem h) hd

theorem fourteen {α : Type} {l : List α} (h : l.length = 14) : ∃ a0 a1 a2 a3 a4 a5 a6 a7 a8 a9 a10 a11 a12 a13, l = [a0, a1, a2, a3, a4, a5, a6, a7, a8, a9, a10, a11, a12, a13] := by
  match l, h with
  | [a0, a1, a2, a3, a4, a5, a6, a7, a8, a9, a10, a11, a12, a13], _ => exact ⟨a0, a1, a2, a3, a4, a5, a6, a7, a8, a9, a10, a11, a12, a13, rfl⟩
structure MsgFit (m : Msg) : Prop where
  id : Fits m.id
  op : Fits m.op
  code : Fits m.code
  size : Fits m.size
  qs : ∀ q ∈ m.qs, QnFit q
  an : ∀ r ∈ m.an, RRFit r
  sv : ∀ r ∈ m.sv, RRFit r
  ad : ∀ r ∈ m.ad, RRFit r
theorem MsgFit.ok {m : Msg} (h : MsgFit m) : MsgOk m := ⟨fun q hq => (h.qs q hq).1, fun r hr => (h.an r hr).1, fun r hr => (h.sv r hr).1, fun r hr => (h.ad r hr).1⟩
theorem open_Msg {v : Value} {d : DataW H} {p : List MemPlace} (hv : Value.okWide Try.prog w .any b0 27 v) (h : DataW.Trod enc Try.prog w base (fun _ => true) held 27 v d p) :
    ∃ m q a s d', v = MV m q a s d' ∧ MsgL w m q a s d' ∧ MsgFit m := by
  obtain ⟨cs, rfl, hl, n, hf⟩ := openS Try.underlying27 (by kernel_rfl) (by kernel_rfl) hv h
  obtain ⟨u0, y0, e0, h0⟩ := hf 0 _ rfl
  obtain ⟨u1, y1, e1, h1⟩ := hf 1 _ rfl
  obtain ⟨u2, y2, e2, h2⟩ := hf 2 _ rfl
  obtain ⟨u3, y3, e3, h3⟩ := hf 3 _ rfl
  obtain ⟨u4, y4, e4, h4⟩ := hf 4 _ rfl
  obtain ⟨u5, y5, e5, h5⟩ := hf 5 _ rfl
  obtain ⟨u6, y6, e6, h6⟩ := hf 6 _ rfl
  obtain ⟨u7, y7, e7, h7⟩ := hf 7 _ rfl
  obtain ⟨u8, y8, e8, h8⟩ := hf 8 _ rfl
  obtain ⟨u9, y9, e9, h9⟩ := hf 9 _ rfl
  obtain ⟨u10, y10, e10, h10⟩ := hf 10 _ rfl
  obtain ⟨u11, y11, e11, h11⟩ := hf 11 _ rfl
  obtain ⟨u12, y12, e12, h12⟩ := hf 12 _ rfl
  obtain ⟨u13, y13, e13, h13⟩ := hf 13 _ rfl
  obtain ⟨a0, a1, a2, a3, a4, a5, a6, a7, a8, a9, a10, a11, a12, a13, rfl⟩ := fourteen (show cs.length = 14 from hl)
  obtain rfl : a0 = u0 := Option.some.inj e0
  obtain rfl : a1 = u1 := Option.some.inj e1
  obtain rfl : a2 = u2 := Option.some.inj e2
  obtain rfl : a3 = u3 := Option.some.inj e3
  obtain rfl : a4 = u4 := Option.some.inj e4
  obtain rfl : a5 = u5 := Option.some.inj e5
  obtain rfl : a6 = u6 := Option.some.inj e6
  obtain rfl : a7 = u7 := Option.some.inj e7
  obtain rfl : a8 = u8 := Option.some.inj e8
  obtain rfl : a9 = u9 := Option.some.inj e9
  obtain rfl : a10 = u10 := Option.some.inj e10
  obtain rfl : a11 = u11 := Option.some.inj e11
  obtain rfl : a12 = u12 := Option.some.inj e12
  obtain rfl : a13 = u13 := Option.some.inj e13
  obtain ⟨id, rfl, f0⟩ := tInt h0
  obtain ⟨b1, rfl⟩ := tBool h1
  obtain ⟨op, rfl, f2⟩ := tInt h2
  obtain ⟨b3, rfl⟩ := tBool h3
  obtain ⟨b4, rfl⟩ := tBool h4
  obtain ⟨b5, rfl⟩ := tBool h5
  obtain ⟨b6, rfl⟩ := tBool h6
  obtain ⟨code, rfl, f7⟩ := tInt h7
  obtain ⟨_, l8, _, _, s8, f8⟩ := openQns h8
  obtain ⟨_, l9, _, _, s9, f9⟩ := openRRs h9
  obtain ⟨_, l10, _, _, s10, f10⟩ := openRRs h10
  obtain ⟨_, l11, _, _, s11, f11⟩ := openRRs h11
  obtain ⟨b12, rfl⟩ := tBool h12
  obtain ⟨size, rfl, f13⟩ := tInt h13
  exact ⟨⟨id, b1, op, b3, b4, b5, b6, code, l8, l9, l10, l11, b12, size⟩, _, _, _, _, rfl, ⟨s8, s9, s10, s11⟩, ⟨f0, f2, f7, f13, f8, f9, f10, f11⟩⟩
end
end Go.Proofs.Ythfhmbooeemaaaa

/- Numbers of four bytes: put together, and taken apart. No conditions. -/
namespace Go.Proofs.Ythfhmbooeemaaaa
open Go.RowKit

theorem ofInt_nat (n : Nat) (h : n < 18446744073709551616) : (BitVec.ofInt IntKind.i64.bits (n : Int)).toNat = n := by
  rw [BitVec.toNat_ofInt]
  show ((n : Int) % 18446744073709551616).toNat = n
  omega
theorem or_low (a b k : Nat) (hb : b < 2 ^ k) (h : 2 ^ k * a + b < 9223372036854775808) : bits .or .i64 ((2 ^ k * a : Nat) : Int) (b : Int) = ((2 ^ k * a + b : Nat) : Int) := by
  have h4 : (BitVec.ofInt IntKind.i64.bits ((2 ^ k * a : Nat) : Int) ||| BitVec.ofInt IntKind.i64.bits (b : Int)).toNat = 2 ^ k * a + b := by
    rw [BitVec.toNat_or, ofInt_nat _ (by omega), ofInt_nat _ (by omega), Nat.two_pow_add_eq_or_of_lt hb]
  simp only [bits]
  rw [h4, IntKind.wrap_i64]
  omega
/-- the number of four bytes -/
def num4 (a b c d : UInt8) : Nat := a.toNat * 16777216 + b.toNat * 65536 + c.toNat * 256 + d.toNat
theorem or4 (a b c d : UInt8) : bits .or .i64 (bits .or .i64 (bits .or .i64 ((a.toNat : Int) * 16777216) ((b.toNat : Int) * 65536)) ((c.toNat : Int) * 256)) (d.toNat : Int) = (num4 a b c d : Int) := by
  have ha := a.toNat_lt
  have hb := b.toNat_lt
  have hc := c.toNat_lt
  have hd := d.toNat_lt
  have e1 := or_low a.toNat (b.toNat * 65536) 24 (by omega) (by omega)
  have e2 := or_low (a.toNat * 256 + b.toNat) (c.toNat * 256) 16 (by omega) (by omega)
  have e3 := or_low (a.toNat * 65536 + b.toNat * 256 + c.toNat) d.toNat 8 (by omega) (by omega)
  rw [show ((a.toNat : Int) * 16777216) = ((2 ^ 24 * a.toNat : Nat) : Int) by omega, show ((b.toNat : Int) * 65536) = ((b.toNat * 65536 : Nat) : Int) by omega, e1,
    show ((2 ^ 24 * a.toNat + b.toNat * 65536 : Nat) : Int) = ((2 ^ 16 * (a.toNat * 256 + b.toNat) : Nat) : Int) by omega, show ((c.toNat : Int) * 256) = ((c.toNat * 256 : Nat) : Int) by omega, e2,
    show ((2 ^ 16 * (a.toNat * 256 + b.toNat) + c.toNat * 256 : Nat) : Int) = ((2 ^ 8 * (a.toNat * 65536 + b.toNat * 256 + c.toNat) : Nat) : Int) by omega, e3]
  unfold num4
  omega
/-- a number's byte -/
def byteOf (n : Int) (k : Int) : UInt8 := UInt8.ofNat (n / k % 256).toNat
theorem byteOf_nat (n k : Int) : ((byteOf n k).toNat : Int) = n / k % 256 := by
  unfold byteOf
  rw [UInt8.toNat_ofNat']
  generalize n / k = m
  omega
def four (n : Int) : List UInt8 := [byteOf n 16777216, byteOf n 65536, byteOf n 256, byteOf n 1]
theorem num4_four (n : Int) (h0 : 0 ≤ n) (h1 : n < 4294967296) : (num4 (byteOf n 16777216) (byteOf n 65536) (byteOf n 256) (byteOf n 1) : Int) = n := by
  have e1 := byteOf_nat n 16777216
  have e2 := byteOf_nat n 65536
  have e3 := byteOf_nat n 256
  have e4 := byteOf_nat n 1
  unfold num4
  omega
end Go.Proofs.Ythfhmbooeemaaaa

