/- The contracts of record.Data, and of the iterator that record.Names hands out. -/
import Derived.Test.YthfpijacemkbbaaDoorRecA
import Derived.Test.YthfpijacemkbbaaDoorSeqP
namespace Go.Proofs.YthfpijacemkbbaaDoor
open Go.RowKit Go.Shelf Go.Sq

attribute [local go_sem] Oper.semAt_some
set_option linter.unusedVariables false

set_option maxRecDepth 100000 in
set_option maxHeartbeats 2000000 in
theorem Data_any (t : Int) (s : ByteArray) (w : World) (hs : s.size ≤ maxLen) :
    Calls Tryd.prog 12 #[.int .i64 t, .string s] w fun e w' => e = .returned (.bool (Rc.dataB t (bl s))) ∧ Below w.heap.size w w' := by
  have hp := places_any t s w hs
  have htx := fun w => texts_any s w hs
  have hl := size_bl s
  have hd : Rc.dataB t (bl s) = if 1000 < (bl s).length then false else if t = 1 then decide ((bl s).length = 4) else if t = 28 then decide ((bl s).length = 16) else if t = 16 then Rc.textsB (bl s) else (Rc.placesP t (bl s)).2 := rfl
  rw [← hl] at hd
  generalize Rc.dataB t (bl s) = res at *
  generalize Rc.textsB (bl s) = tx at *
  generalize Rc.placesP t (bl s) = p at *
  obtain ⟨pl, pb⟩ := p
  simp only at hd
  have HP := Go.Lib.hid hp
  have HTX := Go.Lib.hid htx
  clear hp htx
  by_cases hbig : 1000 < s.size
  · rw [if_pos hbig] at hd
    have e1 : 1000 < (s.size : Int) := by omega
    have HD := Go.Lib.hid hd
    clear hd
    clear hs hl hbig
    go_enter Tryd.func12, Tryd.ntmps12
    go_wp2_with fail
    refine HP.out.mono ?_; rintro e w1 ⟨v, rfl, hst, hb⟩
    have HB := Go.Lib.hid hb
    clear hb
    clear hst
    go_wp2_with fail
    go_ret
    exact ⟨ret_bool HD.out.symm, HB.out⟩
  · rw [if_neg hbig] at hd
    have e1 : ¬ 1000 < (s.size : Int) := by omega
    by_cases h1 : t = 1
    · rw [if_pos h1] at hd
      subst h1
      by_cases h4 : s.size = 4
      · rw [decide_eq_true h4] at hd
        have e2 : ((s.size : Int) == 4) = true := by rw [beq_iff_eq]; omega
        have HD := Go.Lib.hid hd
        clear hd
        clear hs hl hbig h4
        go_enter Tryd.func12, Tryd.ntmps12
        go_wp2_with fail
        refine HP.out.mono ?_; rintro e w1 ⟨v, rfl, hst, hb⟩
        have HB := Go.Lib.hid hb
        clear hb
        clear hst
        go_wp2_with fail
        go_ret
        exact ⟨ret_bool HD.out.symm, HB.out⟩
      · rw [decide_eq_false h4] at hd
        have e2 : ((s.size : Int) == 4) = false := by rw [beq_eq_false_iff_ne]; omega
        have HD := Go.Lib.hid hd
        clear hd
        clear hs hl hbig h4
        go_enter Tryd.func12, Tryd.ntmps12
        go_wp2_with fail
        refine HP.out.mono ?_; rintro e w1 ⟨v, rfl, hst, hb⟩
        have HB := Go.Lib.hid hb
        clear hb
        clear hst
        go_wp2_with fail
        go_ret
        exact ⟨ret_bool HD.out.symm, HB.out⟩
    · rw [if_neg h1] at hd
      have e3 : (t == 1) = false := by rw [beq_eq_false_iff_ne]; exact h1
      by_cases h28 : t = 28
      · rw [if_pos h28] at hd
        subst h28
        clear h1 e3
        by_cases h4 : s.size = 16
        · rw [decide_eq_true h4] at hd
          have e2 : ((s.size : Int) == 16) = true := by rw [beq_iff_eq]; omega
          have HD := Go.Lib.hid hd
          clear hd
          clear hs hl hbig h4
          go_enter Tryd.func12, Tryd.ntmps12
          go_wp2_with fail
          refine HP.out.mono ?_; rintro e w1 ⟨v, rfl, hst, hb⟩
          have HB := Go.Lib.hid hb
          clear hb
          clear hst
          go_wp2_with fail
          go_ret
          exact ⟨ret_bool HD.out.symm, HB.out⟩
        · rw [decide_eq_false h4] at hd
          have e2 : ((s.size : Int) == 16) = false := by rw [beq_eq_false_iff_ne]; omega
          have HD := Go.Lib.hid hd
          clear hd
          clear hs hl hbig h4
          go_enter Tryd.func12, Tryd.ntmps12
          go_wp2_with fail
          refine HP.out.mono ?_; rintro e w1 ⟨v, rfl, hst, hb⟩
          have HB := Go.Lib.hid hb
          clear hb
          clear hst
          go_wp2_with fail
          go_ret
          exact ⟨ret_bool HD.out.symm, HB.out⟩
      · rw [if_neg h28] at hd
        have e4 : (t == 28) = false := by rw [beq_eq_false_iff_ne]; exact h28
        by_cases h16 : t = 16
        · rw [if_pos h16] at hd
          subst h16
          have HD := Go.Lib.hid hd
          clear hd
          clear hs hl hbig e3 e4 h1 h28
          go_enter Tryd.func12, Tryd.ntmps12
          go_wp2_with fail
          refine HP.out.mono ?_; rintro e w1 ⟨v, rfl, hst, hb⟩
          have HB := Go.Lib.hid hb
          clear hb
          clear hst
          go_wp2_with fail
          refine (HTX.out _).mono ?_; rintro e _ ⟨rfl, rfl⟩
          go_wp2_with fail
          go_ret
          exact ⟨ret_bool HD.out.symm, HB.out⟩
        · rw [if_neg h16] at hd
          have e5 : (t == 16) = false := by rw [beq_eq_false_iff_ne]; exact h16
          have HD := Go.Lib.hid hd
          clear hd
          clear hs hl hbig h1 h28 h16
          go_enter Tryd.func12, Tryd.ntmps12
          go_wp2_with fail
          refine HP.out.mono ?_; rintro e w1 ⟨v, rfl, hst, hb⟩
          have HB := Go.Lib.hid hb
          clear hb
          clear hst
          go_wp2_with fail
          go_ret
          exact ⟨ret_bool HD.out.symm, HB.out⟩

/-! ### Names -/
/-- record.Names(t, d): both are boxed; the function value captures the boxes -/
theorem Names_any (t : Int) (s : ByteArray) (w : World) :
    Calls Tryd.prog 39 #[.int .i64 t, .string s] w fun e w' => e = .returned (.func (.func 60) #[] #[.pointer (some ⟨w.heap.size, 0, none⟩), .pointer (some ⟨w.heap.size + 1, 0, none⟩)]) ∧
      w' = (w.alloc (.cells #[.int .i64 t] 3)).alloc (.cells #[.string s] 9) := by
  go_enter Tryd.func39, Tryd.ntmps39
  go_wp2
  go_ret
  exact ⟨rfl, rfl⟩

theorem abides_below {β : Type} {B : Nat} {J : β → World → Prop} (hJ : AbidesFrom B J) {s : β} {W W' : World} (h : J s W) (hb : Below W.heap.size W W') : J s W' :=
  hJ s W W' none h ⟨hb.os, hb.tape, hb.output, hb.size, fun k hk _ => hb.block k hk⟩ (fun r e => by cases e)

abbrev IsPlace (T : Nat) : Prop := T = 72
/-- the pairs as the iterator hands them out -/
def encPair (p : Nat × Nat) : Array Value := #[.int .i64 p.1, .int .i64 p.2]

theorem pair_cells {w : World} {B e k cap : Nat} {a : Option Addr} {L : List (Nat × Nat)} (h : w.ownsRow B e 2 (.slice a L.length cap) L.length (encP L)) (hk : k < L.length) :
    ∃ g cur, a = some ⟨g, 0, none⟩ ∧ w.heap[g]? = some (.cells cur e (0, 0)) ∧ w.cell? ⟨g, k * 2, none⟩ = some (.int .i64 (L.getD k (0, 0)).1) ∧ w.cell? ⟨g, k * 2 + 1, none⟩ = some (.int .i64 (L.getD k (0, 0)).2) := by
  have hP : Pairs w (.slice a L.length cap) L := SlC.of_owns h
  obtain ⟨b, off, ha, _, hc⟩ := Pairs.at hP (by omega)
  obtain ⟨h1, h2⟩ := h
  rcases h2 with ⟨hv, h0⟩ | ⟨g, cap', cur, hv, _, hg, _⟩
  · simp only [Value.slice.injEq] at hv
    omega
  · simp only [Value.slice.injEq] at hv
    obtain ⟨hv1, _, _⟩ := hv
    rw [hv1] at ha
    simp only [Option.some.injEq, Addr.mk.injEq] at ha
    obtain ⟨rfl, rfl, _⟩ := ha
    obtain ⟨c1, c2⟩ := hc k hk
    rw [Nat.zero_add, Nat.mul_comm] at c1 c2
    exact ⟨g, cur, hv1, hg, c1, c2⟩

set_option maxRecDepth 100000 in
set_option maxHeartbeats 2000000 in
theorem names_seq (n : Nat) (hn : 3 ≤ n) (Bt Bd : Nat) (t : Int) (s : ByteArray) (hs : s.size ≤ maxLen) (w : World) (hBt : Bt < w.heap.size) (hBd : Bd < w.heap.size)
    (hct : w.cell? ⟨Bt, 0, none⟩ = some (.int .i64 t)) (hcd : w.cell? ⟨Bd, 0, none⟩ = some (.string s)) :
    SeqOk Fence.wide n Tryd.prog 60 #[.pointer (some ⟨Bt, 0, none⟩), .pointer (some ⟨Bd, 0, none⟩)] encPair (KpT IsPlace)
      (fun xs => xs <+: (Rc.partsN t (bl s)).getD []) (fun xs => xs = (Rc.partsN t (bl s)).getD []) (fun xs => xs <+: (Rc.partsN t (bl s)).getD []) w := fun l J Jx W hW hJ hJx hY h0 => by
  have hct' := (hW.cell (p := ⟨Bt, 0, none⟩) hBt).trans hct
  have hcd' := (hW.cell (p := ⟨Bd, 0, none⟩) hBd).trans hcd
  have hd := fun w => Data_any t s w hs
  have hp := fun w => places_any t s w hs
  have hsz := hW.size
  clear hct hcd hs
  cases hdt : Rc.dataB t (bl s) with
  | false =>
    rw [hdt] at hd
    rw [Rc.partsN_none hdt] at hY ⊢
    have HD := Go.Lib.hid hd
    have HY := Go.Lib.hid hY
    have HJ := Go.Lib.hid hJ
    have HJX := Go.Lib.hid hJx
    have H0 := Go.Lib.hid h0
    have HW := Go.Lib.hid hW
    clear hd hY hJ hJx h0 hW
    clear hp hdt
    refine callsIn_of_wp Tryd.func60 rfl trivial ?_ rfl
    simp only [Tryd.ntmps60, List.size_toArray, List.length_cons, List.length_nil, Nat.reduceAdd, Nat.reduceSub, Array.replicate_succ, Array.replicate_zero, List.push_toArray, List.append_toArray, List.nil_append, List.cons_append]
    gi_wp2_with fail
    refine ⟨trivial, fun _ => by omega, (callsIn_wide.2 (HD.out _)).mono ?_⟩
    rintro e W1 ⟨rfl, hb⟩
    have hj := abides_below HJ.out H0.out hb
    have HJ1 := Go.Lib.hid hj
    have HB := Go.Lib.hid hb
    clear hj hb
    gi_wp2_with fail
    refine bodyPost_ret (results_none rfl _ _ _) rfl ?_
    exact ⟨⟨_, rfl⟩, .inl ⟨[], rfl, HJ1.out⟩⟩
  | true =>
    rw [hdt] at hd
    rw [Rc.partsN_some hdt] at hY ⊢
    simp only [Option.getD_some] at hY ⊢
    have HD := Go.Lib.hid hd
    have HY := Go.Lib.hid hY
    have HJ := Go.Lib.hid hJ
    have HJX := Go.Lib.hid hJx
    have H0 := Go.Lib.hid h0
    have HW := Go.Lib.hid hW
    have HP := Go.Lib.hid hp
    clear hd hY hJ hJx h0 hW hp
    have hL2 := (Rc.placesP_chain t (bl s)).2
    clear hdt
    generalize Rc.placesP t (bl s) = p at *
    obtain ⟨L, pb⟩ := p
    simp only at HY hL2
    refine callsIn_of_wp Tryd.func60 rfl trivial ?_ rfl
    simp only [Tryd.ntmps60, List.size_toArray, List.length_cons, List.length_nil, Nat.reduceAdd, Nat.reduceSub, Array.replicate_succ, Array.replicate_zero, List.push_toArray, List.append_toArray, List.nil_append, List.cons_append]
    gi_wp2_with fail
    refine ⟨trivial, fun _ => by omega, (callsIn_wide.2 (HD.out _)).mono ?_⟩
    rintro e W1 ⟨rfl, hb⟩
    have hj := abides_below HJ.out H0.out hb
    have hct2 := (hb.cell (p := ⟨Bt, 0, none⟩) (by show Bt < _; omega)).trans hct'
    have hcd2 := (hb.cell (p := ⟨Bd, 0, none⟩) (by show Bd < _; omega)).trans hcd'
    have hsz1 := hb.size
    have HJ1 := Go.Lib.hid hj
    have HB := Go.Lib.hid hb
    clear hj hb
    clear hct' hcd'
    gi_wp2_with fail
    refine ⟨trivial, fun _ => by omega, (callsIn_wide.2 (HP.out _)).mono ?_⟩
    rintro e W2 ⟨v, rfl, hown, hb2⟩
    have hj := abides_below HJ.out HJ1.out hb2
    have hsz2 := hb2.size
    obtain ⟨a, cap, rfl, hcap, hcm⟩ := (SlC.of_owns hown).slice
    have HJ2 := Go.Lib.hid hj
    have HB2 := Go.Lib.hid hb2
    have HO := Go.Lib.hid hown
    clear hj hb2 hown
    clear hct2 hcd2
    gi_wp2_with fail
    gi_loopw [20] (fun i wr => ∃ k : Nat, k ≤ L.length ∧ i = .int .i64 k ∧ J (L.take k) wr ∧ KpT IsPlace W2 wr)
      (fun i _ => L.length - (intOf i).toNat)
    case atStart => exact ⟨0, Nat.zero_le _, rfl, by simpa using HJ2.out, KpT.refl _⟩
    case round =>
      obtain ⟨k, hk, rfl, hj, hkp⟩ := hrel
      have HJS := Go.Lib.hid hj
      have HKP := Go.Lib.hid hkp
      clear hj hkp
      by_cases hlt : k < L.length
      · obtain ⟨g, cur, hga, hrow, hc1, hc2⟩ := pair_cells HO.out hlt
        cases hga
        have hr1 := (HKP.out.cell (o := k * 2) rfl hrow).trans hc1
        have hr2 := (HKP.out.cell (o := k * 2 + 1) rfl hrow).trans hc2
        have hsn : L.take (k + 1) = L.take k ++ [L.getD k (0, 0)] := by
          rw [List.take_succ_eq_append_getElem hlt]
          simp [hlt]
        have HSN := Go.Lib.hid hsn
        have HROW := Go.Lib.hid hrow
        clear hsn hrow
        clear hc1 hc2
        generalize L.getD k (0, 0) = q at *
        obtain ⟨qa, qn⟩ := q
        have hj3 := abides_below HJ.out HJS.out ((Below.refl _ wr).alloc (Nat.le_refl _) (.cells #[.int .i64 qa, .int .i64 qn] 72))
        have hpre : L.take k ++ [(qa, qn)] <+: L := by rw [← HSN.out]; exact List.take_prefix _ _
        obtain ⟨fn, tmps, assign, body, hy, hR⟩ := HY.out _ (qa, qn) _ hj3 hpre
        unfold encPair at hy
        have hkp3 := HKP.out.alloc (.cells #[.int .i64 qa, .int .i64 qn] 72)
        have HR := Go.Lib.hid hR
        have HJ3 := Go.Lib.hid hj3
        have HKP3 := Go.Lib.hid hkp3
        have HPRE := Go.Lib.hid hpre
        clear hR hj3 hkp3 hpre
        gi_wp2_with fail
        refine ⟨fun _ => by omega, HR.out.mono ?_⟩
        rintro e W3 (⟨rfl, hJ3, hk3⟩ | ⟨rfl, hJx3⟩)
        · have HJ4 := Go.Lib.hid hJ3
          have HK4 := Go.Lib.hid hk3
          clear hJ3 hk3
          clear hy
          gi_wp2_with fail
          go_roundw
          case rel => exact ⟨k + 1, by omega, by simp, by rw [HSN.out]; exact HJ4.out, HKP3.out.trans HK4.out⟩
          case measure => simp [intOf]; omega
        · have HJX4 := Go.Lib.hid hJx3
          clear hJx3
          clear hy
          gi_wp2_with fail
          refine bodyPost_ret (results_none rfl _ _ _) rfl ?_
          exact ⟨⟨_, rfl⟩, .inr ⟨_, HPRE.out, HJX4.out⟩⟩
      · obtain rfl : k = L.length := by omega
        gi_wp2_with fail
        go_end0
        exact ⟨⟨_, rfl⟩, .inl ⟨_, rfl, by have := HJS.out; rwa [List.take_length] at this⟩⟩
end Go.Proofs.YthfpijacemkbbaaDoor

