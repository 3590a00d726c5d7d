/- MessageRecords: the walk over a message's records gives each with its section, and may be left anywhere; a message is the same as itself with its questions' names folded, and as no message of another code. For every input; no conditions. -/
import Derived.Test.YthfhmbooeemaaaaG3
import Derived.Test.YthfhmbooeemaaaaG7
import Derived.Test.YthfhmbooeemaaaaG13
import Derived.Deep.OwnRows
import Derived.WalkSpells
import Derived.Sort.CutIn
namespace Go.Proofs.Ythfhmbooeemaaaa.messageRecords
open Go.ChangeShapes Go.WideShapes Go.ChangeAt Go.RowKit Go.Lib Go.Sq
open Go.ChangeMaps (open_string shut_string)
set_option linter.unusedVariables false
set_option maxRecDepth 100000

theorem smallS {m : Msg} {top : Nat} (ht : top ≤ 100000) (h : smallB m top = true) (hf : MsgOk m) : MsgS m := by
  unfold smallB at h
  simp only [Bool.and_eq_true, decide_eq_true_eq] at h
  obtain ⟨⟨⟨⟨h1, _⟩, h3⟩, h4⟩, h5⟩ := h
  have a1 := (recordsB_true h3).1
  have a2 := (recordsB_true h4).1
  have a3 := (recordsB_true h5).1
  refine ⟨by omega, by omega, by omega, by omega, hf.qs, fun x hx => ?_⟩
  obtain ⟨s, r⟩ := x
  rcases mem_allR.1 ⟨s, hx⟩ with h | h | h
  · exact hf.an r h
  · exact hf.sv r h
  · exact hf.ad r h
theorem run_eql_nilFuncR (f : Fn) (l1 l2 : Array Value) (w : World) : (binOp .eql 42 (.func f l1 l2) .nilFunc).run Try.prog w = .ok (.bool false) w := by
  have h : ∀ d : Nat, (Op.equalIn (d + 1) 42 (.func f l1 l2) .nilFunc).run Try.prog w = .ok false w := fun d => by
    simp [Op.equalIn, run_underlying Try.underlying42]
  simp only [binOp]
  simp [Op.equal, Op.maxDepth, h 9999]
attribute [local go_sem] Oper.semAt_some

set_option maxHeartbeats 4000000 in
/-- not looked at -/
theorem t0 (m : Msg) (q a s d : Value) (stop : Int) (w : World) (hm : MsgL w m q a s d) (hsm : ∀ W, Below w.heap.size w W → Calls Try.prog 15 #[MV m q a s d, .int .i64 (3000 : Nat)] W fun e w' => e = .returned (.bool false) ∧ Below W.heap.size W w')
    (HAW : Hid (∀ W, Calls Try.prog 11 #[] W fun e w' => e = .returned (.bool true) ∧ Below W.heap.size W w')) :
    Calls Try.prog 5 #[MV m q a s d, .int .i64 stop] w fun e w' => e = .returned (.bool true) ∧ Below w.heap.size w w' := by
  obtain ⟨X, hX⟩ : ∃ X, ((w.alloc (.cells (MC m q a s d) 27)).alloc (.cells #[.int .i64 stop] 3)).alloc (.cells #[.bool false] 4) = X := ⟨_, rfl⟩
  have hb : Below w.heap.size w X := by rw [← hX]; exact (((Below.refl _ w).alloc (Nat.le_refl _) _).alloc (by simp) _).alloc (by simp; omega) _
  have g1 : X.heap[w.heap.size]? = some (.cells (MC m q a s d) 27 (0, 0)) := by rw [← hX]; exact heap_old (heap_old (heap_alloc_new _ _) _) _
  have g3 : X.heap[w.heap.size + 2]? = some (.cells #[.bool false] 4 (0, 0)) := by
    rw [← hX]
    have := heap_new1 (w.alloc (.cells (MC m q a s d) 27)) (.cells #[.int .i64 stop] 3) (.cells #[.bool false] 4)
    rwa [World.size_alloc] at this
  have hc := hsm X hb
  obtain ⟨fs, hu⟩ := undMsg
  have HB := Go.Lib.hid hb
  have G1 := Go.Lib.hid g1
  have G3 := Go.Lib.hid g3
  have HC := Go.Lib.hid hc
  have HU := Go.Lib.hid hu
  clear hb g1 g3 hc hu
  clear hsm hm
  subst hX
  go_enter Try.func5, Try.ntmps5
  go_wp2_with (refine wpList_load_rowG rfl 27 (.tmp 2) rfl w.heap.size rfl _ _ (0, 0) _ G1.out HU.out rfl infoMsg ?_)
  refine HC.out.mono ?_; rintro e w1 ⟨rfl, hx1⟩
  have g4 := (hx1.block _ (Array.getElem?_eq_some_iff.1 G3.out).1).trans G3.out
  have hb1 := HB.out.trans (hx1.mono HB.out.size)
  have G4 := Go.Lib.hid g4
  have HB1 := Go.Lib.hid hb1
  clear g4 hb1
  clear hx1
  go_wp2_with fail
  refine (HAW.out _).mono ?_; rintro e w2 ⟨rfl, hx2⟩
  have g5 := (hx2.block _ (Array.getElem?_eq_some_iff.1 G4.out).1).trans G4.out
  have hb2 := HB1.out.trans (hx2.mono HB1.out.size)
  have r0 : w2.cell? ⟨w.heap.size + 2, 0, none⟩ = some (.bool false) := row_cell g5 0 _ rfl
  have z0 : w2.frozen? ⟨w.heap.size + 2, 0, none⟩ = false := row_frozen g5 0
  have G5 := Go.Lib.hid g5
  have HB2 := Go.Lib.hid hb2
  clear g5 hb2
  clear hx2
  go_wp2_with fail
  exact bodyPost_ret (results_bool rfl _ _ _ _ rfl (heap_set (i := 0) (v := .bool true) G5.out)) rfl ⟨rfl, HB2.out.setCell (p := ⟨w.heap.size + 2, 0, none⟩) (by show w.heap.size ≤ w.heap.size + 2; omega) _⟩
set_option maxHeartbeats 16000000 in
theorem t1 (m : Msg) (q a s d : Value) (stop : Int) (w : World) (hm : MsgL w m q a s d) (hS : MsgS m) (hsm : ∀ W, Below w.heap.size w W → Calls Try.prog 15 #[MV m q a s d, .int .i64 (3000 : Nat)] W fun e w' => e = .returned (.bool true) ∧ Below W.heap.size W w')
    (HAW : Hid (∀ W, Calls Try.prog 11 #[] W fun e w' => e = .returned (.bool true) ∧ Below W.heap.size W w')) :
    Calls Try.prog 5 #[MV m q a s d, .int .i64 stop] w fun e w' => e = .returned (.bool true) ∧ Below w.heap.size w w' := by
  have mixed : Try.prog.follows .mixedOrders = true := by kernel_rfl
  have HS := Go.Lib.hid hS
  have HM := Go.Lib.hid hm
  obtain ⟨aa, ca, rfl, _, _⟩ := hm.an.slice
  obtain ⟨asv, cs, rfl, _, _⟩ := hm.sv.slice
  obtain ⟨ad, cd, rfl, _, _⟩ := hm.ad.slice
  obtain ⟨aq, cq, rfl, _, _⟩ := hm.qs.slice
  obtain ⟨X, hX⟩ : ∃ X, ((w.alloc (.cells (MC m (.slice aq m.qs.length cq) (.slice aa m.an.length ca) (.slice asv m.sv.length cs) (.slice ad m.ad.length cd)) 27)).alloc (.cells #[.int .i64 stop] 3)).alloc (.cells #[.bool false] 4) = X := ⟨_, rfl⟩
  have hb : Below w.heap.size w X := by rw [← hX]; exact (((Below.refl _ w).alloc (Nat.le_refl _) _).alloc (by simp) _).alloc (by simp; omega) _
  have g1 : X.heap[w.heap.size]? = some (.cells (MC m (.slice aq m.qs.length cq) (.slice aa m.an.length ca) (.slice asv m.sv.length cs) (.slice ad m.ad.length cd)) 27 (0, 0)) := by rw [← hX]; exact heap_old (heap_old (heap_alloc_new _ _) _) _
  have g2 : X.heap[w.heap.size + 1]? = some (.cells #[.int .i64 stop] 3 (0, 0)) := by rw [← hX]; exact heap_old (heap_new1 _ _ _) _
  have g3 : X.heap[w.heap.size + 2]? = some (.cells #[.bool false] 4 (0, 0)) := by
    rw [← hX]
    have := heap_new1 (w.alloc (.cells (MC m (.slice aq m.qs.length cq) (.slice aa m.an.length ca) (.slice asv m.sv.length cs) (.slice ad m.ad.length cd)) 27)) (.cells #[.int .i64 stop] 3) (.cells #[.bool false] 4)
    rwa [World.size_alloc] at this
  have hc := hsm X hb
  have hXs : X.heap.size = w.heap.size + 3 := by rw [← hX]; simp
  obtain ⟨fs, hu⟩ := undMsg
  have HB := Go.Lib.hid hb
  have G1 := Go.Lib.hid g1
  have G2 := Go.Lib.hid g2
  have G3 := Go.Lib.hid g3
  have HC := Go.Lib.hid hc
  have HU := Go.Lib.hid hu
  clear hb g1 g2 g3 hc hu
  clear hsm hm hS
  have e3 : (3000 : Nat) = 3000 := rfl
  subst hX
  refine (callsIn_wide (n := 8)).1 ?_
  refine callsIn_of_wp_marks Try.func5 rfl trivial ?_ rfl
  simp only [Try.ntmps5, List.size_toArray, List.length_cons, List.length_nil, Nat.reduceAdd, Nat.reduceSub, Array.replicate_succ, Array.replicate_zero, List.push_toArray, List.append_toArray, List.nil_append, List.cons_append]
  gi_wp2_with (refine wpListIn_load_rowG rfl 27 (.tmp 2) rfl w.heap.size rfl _ _ (0, 0) _ G1.out HU.out rfl infoMsg ?_)
  refine ⟨trivial, (callsIn_wide.2 HC.out).mono ?_⟩
  rintro e w1 ⟨rfl, hx1⟩
  have f1 := (hx1.block _ (Array.getElem?_eq_some_iff.1 G1.out).1).trans G1.out
  have f2 := (hx1.block _ (Array.getElem?_eq_some_iff.1 G2.out).1).trans G2.out
  have f3 := (hx1.block _ (Array.getElem?_eq_some_iff.1 G3.out).1).trans G3.out
  have hb1 := HB.out.trans (hx1.mono HB.out.size)
  have hws : w.heap.size + 3 ≤ w1.heap.size := by have := hx1.size; omega
  have y9 : w1.cell? ⟨w.heap.size, 9, none⟩ = some (.slice aa m.an.length ca) := row_cell f1 9 _ rfl
  have y10 : w1.cell? ⟨w.heap.size, 10, none⟩ = some (.slice asv m.sv.length cs) := row_cell f1 10 _ rfl
  have y11 : w1.cell? ⟨w.heap.size, 11, none⟩ = some (.slice ad m.ad.length cd) := row_cell f1 11 _ rfl
  obtain ⟨Y, hY⟩ : ∃ Y, ((w1.alloc (.cells #[.slice aa m.an.length ca, .slice asv m.sv.length cs, .slice ad m.ad.length cd] 25)).alloc (.cells #[.slice (some ⟨w1.heap.size, 0, none⟩) 3 3] 41)).alloc (.cells #[.int .i64 0] 3) = Y := ⟨_, rfl⟩
  have hbY : Below w1.heap.size w1 Y := by rw [← hY]; exact (((Below.refl _ w1).alloc (Nat.le_refl _) _).alloc (by simp) _).alloc (by simp; omega) _
  have hYs : Y.heap.size = w1.heap.size + 3 := by rw [← hY]; simp
  have hrec := Records_fn m (.slice aq m.qs.length cq) (.slice aa m.an.length ca) (.slice asv m.sv.length cs) (.slice ad m.ad.length cd) Y
  have k1 := (hbY.block _ (Array.getElem?_eq_some_iff.1 f1).1).trans f1
  have k2 := (hbY.block _ (Array.getElem?_eq_some_iff.1 f2).1).trans f2
  have k3 := (hbY.block _ (Array.getElem?_eq_some_iff.1 f3).1).trans f3
  have l0 : Y.heap[w1.heap.size]? = some (.cells #[.slice aa m.an.length ca, .slice asv m.sv.length cs, .slice ad m.ad.length cd] 25 (0, 0)) := by rw [← hY]; exact heap_old (heap_old (heap_alloc_new _ _) _) _
  have l1 : Y.heap[w1.heap.size + 1]? = some (.cells #[.slice (some ⟨w1.heap.size, 0, none⟩) 3 3] 41 (0, 0)) := by rw [← hY]; exact heap_old (heap_new1 _ _ _) _
  have l2 : Y.heap[w1.heap.size + 2]? = some (.cells #[.int .i64 0] 3 (0, 0)) := by
    rw [← hY]
    have := heap_new1 (w1.alloc (.cells #[.slice aa m.an.length ca, .slice asv m.sv.length cs, .slice ad m.ad.length cd] 25)) (.cells #[.slice (some ⟨w1.heap.size, 0, none⟩) 3 3] 41) (.cells #[.int .i64 0] 3)
    rwa [World.size_alloc] at this
  have hb2 := hb1.trans (hbY.mono hb1.size)
  have HREC := Go.Lib.hid hrec
  have K1 := Go.Lib.hid k1
  have K2 := Go.Lib.hid k2
  have K3 := Go.Lib.hid k3
  have L0 := Go.Lib.hid l0
  have L1 := Go.Lib.hid l1
  have L2 := Go.Lib.hid l2
  have HB2 := Go.Lib.hid hb2
  clear hrec k1 k2 k3 l0 l1 l2 hb2
  clear hx1 f1 f2 f3 hb1 hbY HB G1 G2 G3 HC
  subst hY
  have hnil := fun W => run_eql_nilFuncR (.func 46) #[] #[.pointer (some ⟨w1.heap.size + 1 + 1 + 1, 0, none⟩)] W
  gi_wp2_with (refine wpListIn_load_rowG rfl 27 (.tmp 2) rfl w.heap.size rfl _ _ (0, 0) _ K1.out HU.out rfl infoMsg ?_)
  refine ⟨trivial, (callsIn_wide.2 HREC.out).mono ?_⟩
  rintro e w2 ⟨rfl, hw2⟩
  have hsz2 : w2.heap.size = w1.heap.size + 4 := by rw [hw2]; simp
  have hbw : Below (w1.heap.size + 3) (((w1.alloc (.cells #[.slice aa m.an.length ca, .slice asv m.sv.length cs, .slice ad m.ad.length cd] 25)).alloc (.cells #[.slice (some ⟨w1.heap.size, 0, none⟩) 3 3] 41)).alloc (.cells #[.int .i64 0] 3)) w2 := by rw [hw2, ← hYs]; exact (Below.refl _ _).alloc (Nat.le_refl _) _
  have hbx : w2.heap[w1.heap.size + 3]? = some (.cells (MC m (.slice aq m.qs.length cq) (.slice aa m.an.length ca) (.slice asv m.sv.length cs) (.slice ad m.ad.length cd)) 27 (0, 0)) := by rw [hw2, ← hYs]; exact heap_alloc_new _ _
  rw [← hYs] at hbw
  clear hw2
  obtain ⟨Z, hZ⟩ : ∃ Z, (w2.alloc (.cells #[.int .i64 0] 3)).alloc (.cells #[.int .i64 0] 3) = Z := ⟨_, rfl⟩
  have hbZ : Below w2.heap.size w2 Z := by rw [← hZ]; exact ((Below.refl _ w2).alloc (Nat.le_refl _) _).alloc (by simp) _
  have hZs : Z.heap.size = w2.heap.size + 2 := by rw [← hZ]; simp
  have hbwZ := hbw.trans (hbZ.mono hbw.size)
  have u1 := (hbwZ.block _ (Array.getElem?_eq_some_iff.1 K1.out).1).trans K1.out
  have u2 := (hbwZ.block _ (Array.getElem?_eq_some_iff.1 K2.out).1).trans K2.out
  have u3 := (hbwZ.block _ (Array.getElem?_eq_some_iff.1 K3.out).1).trans K3.out
  have u4 := (hbwZ.block _ (Array.getElem?_eq_some_iff.1 L0.out).1).trans L0.out
  have u5 := (hbwZ.block _ (Array.getElem?_eq_some_iff.1 L1.out).1).trans L1.out
  have u6 := (hbwZ.block _ (Array.getElem?_eq_some_iff.1 L2.out).1).trans L2.out
  have u7 := (hbZ.block _ (Array.getElem?_eq_some_iff.1 hbx).1).trans hbx
  have u8 : Z.heap[w2.heap.size]? = some (.cells #[.int .i64 0] 3 (0, 0)) := by rw [← hZ]; exact heap_old (heap_alloc_new _ _) _
  have u9 : Z.heap[w2.heap.size + 1]? = some (.cells #[.int .i64 0] 3 (0, 0)) := by rw [← hZ]; exact heap_new1 _ _ _
  have hbt := HB2.out.trans (hbwZ.mono HB2.out.size)
  have hri : RI m (.slice aq m.qs.length cq) (.slice aa m.an.length ca) (.slice asv m.sv.length cs) (.slice ad m.ad.length cd) stop w w.heap.size w1.heap.size w2.heap.size 0 0 0 Z := ⟨hbt, u1, u2, u3, u4, u5, u6, u8, u9⟩
  have hseq := records_seq 7 (by omega) (w1.heap.size + 3) m (.slice aq m.qs.length cq) (.slice aa m.an.length ca) (.slice asv m.sv.length cs) (.slice ad m.ad.length cd) w Z HM.out hbt (by omega) u7 (fun i => by
    rcases i with _ | _ | _ | i
    · exact HS.out.a
    · exact HS.out.s
    · exact HS.out.d
    · exact Nat.zero_le _)
  have HRI := Go.Lib.hid hri
  have HSEQ := Go.Lib.hid hseq
  have HSZ2 := Go.Lib.hid hsz2
  have HZS := Go.Lib.hid hZs
  have HWS := Go.Lib.hid hws
  have HXS := Go.Lib.hid hXs
  clear hri hseq hsz2 hZs hws hXs
  clear hbt u1 u2 u3 u4 u5 u6 u7 u8 u9 hbwZ hbZ hbx hbw K1 K2 K3 L0 L1 L2 HB2 HREC y9 y10 y11 hYs
  subst hZ
  gi_wp2_with fail
  rename_i Q' K hK
  have HK := Go.Lib.hid hK
  clear hK
  have hbc : w.heap.size + 3 ≤ w1.heap.size := HWS.out
  have hct : w1.heap.size + 3 ≤ w2.heap.size := by have := HSZ2.out; omega
  have hwt : w.heap.size ≤ w2.heap.size := by omega
  have HBC := Go.Lib.hid hbc
  have HCT := Go.Lib.hid hct
  have HWT := Go.Lib.hid hwt
  clear hbc hct hwt
  refine range_join (fun a a' W' => ∃ (D pn t k : Nat), a' = { a with defers := { target := .collected D, args := #[] } :: a.defers } ∧ W'.heap[D]? = some (.deferred (some [])) ∧ w2.heap.size + 2 ≤ D ∧ RI m (.slice aq m.qs.length cq) (.slice aa m.an.length ca) (.slice asv m.sv.length cs) (.slice ad m.ad.length cd) stop w w.heap.size w1.heap.size w2.heap.size pn t k W' ∧ ((pn = m.an.length + m.sv.length + m.ad.length ∧ (stop < 1 ∨ ((m.an.length + m.sv.length + m.ad.length : Nat) : Int) < stop)) ∨ ((pn : Int) = stop ∧ 1 ≤ stop ∧ stop ≤ ((m.an.length + m.sv.length + m.ad.length : Nat) : Int)))) ?rest ?main
  case main =>
    intro hjoin
    have HJ := Go.Lib.hid hjoin
    clear hjoin HK
    refine wpIn_rangeFunc_ok rfl (by omega) (gf := 46) (lb := #[.pointer (some ⟨w1.heap.size + 1 + 1 + 1, 0, none⟩)]) rfl trivial (enters_of Try.func46 (by kernel_rfl) rfl)
      HSEQ.out KN.trans (fun W l o o' hl h1 h2 _ => ⟨fun j hj => World.putObj_heap_other (by have := HZS.out; have := HSZ2.out; have := HWS.out; omega), KpT.put W l o o' h1 h2⟩) (Below.refl _ _) (fun _ => rfl)
      (fun pre W => ∃ t k : Nat, RI m (.slice aq m.qs.length cq) (.slice aa m.an.length ca) (.slice asv m.sv.length cs) (.slice ad m.ad.length cd) stop w w.heap.size w1.heap.size w2.heap.size pre.length t k W ∧ (pre = preS m t k ∧ t < 3 ∧ k ≤ (secL m t).length) ∧ (∀ j : Nat, 1 ≤ j → j ≤ pre.length → (j : Int) ≠ stop) ∧ w2.heap.size + 2 ≤ W.heap.size)
      (fun c pre W => c = .exit 0 ∧ (pre.length : Int) = stop ∧ 1 ≤ pre.length ∧ ∃ t k : Nat, RI m (.slice aq m.qs.length cq) (.slice aa m.an.length ca) (.slice asv m.sv.length cs) (.slice ad m.ad.length cd) stop w w.heap.size w1.heap.size w2.heap.size pre.length t k W)
      ?ownI ?ownX ?start (fun x a' W => ∃ N, (w2.heap.size + 2 ≤ N ∧ a' = { tmps := #[MV m (.slice aq m.qs.length cq) (.slice aa m.an.length ca) (.slice asv m.sv.length cs) (.slice ad m.ad.length cd), .int .i64 stop, .pointer (some ⟨w.heap.size, 0, none⟩), .pointer (some ⟨w.heap.size + 1, 0, none⟩), .pointer (some ⟨w.heap.size + 1 + 1, 0, none⟩), .pointer (some ⟨w1.heap.size + 1, 0, none⟩), .pointer (some ⟨w1.heap.size + 1 + 1, 0, none⟩), .func (.func 46) #[] #[.pointer (some ⟨w1.heap.size + 1 + 1 + 1, 0, none⟩)], .pointer (some ⟨w2.heap.size, 0, none⟩), .pointer (some ⟨w2.heap.size + 1, 0, none⟩), .int .i64 (x.1 : Int), .pointer (some ⟨N, 0, none⟩), undef, undef, undef, undef, undef, .agg (MC m (.slice aq m.qs.length cq) (.slice aa m.an.length ca) (.slice asv m.sv.length cs) (.slice ad m.ad.length cd)), .bool true, .bool false, undef, .pointer (some ⟨w.heap.size, 9, none⟩), .slice aa m.an.length ca, .pointer (some ⟨w.heap.size, 10, none⟩), .slice asv m.sv.length cs, .pointer (some ⟨w.heap.size, 11, none⟩), .slice ad m.ad.length cd, .slice (some ⟨w1.heap.size, 0, none⟩) 3 3, .agg (MC m (.slice aq m.qs.length cq) (.slice aa m.an.length ca) (.slice asv m.sv.length cs) (.slice ad m.ad.length cd)), .func (.func 46) #[] #[.pointer (some ⟨w1.heap.size + 1 + 1 + 1, 0, none⟩)], .func (.func 46) #[] #[.pointer (some ⟨w1.heap.size + 1 + 1 + 1, 0, none⟩)], .bool false, .func (.func 46) #[] #[.pointer (some ⟨w1.heap.size + 1 + 1 + 1, 0, none⟩)], .int .i64 (x.1 : Int), rrV x.2, undef, undef, undef, undef, undef, undef, undef, undef, undef, undef, undef, undef, undef, undef, undef, undef, undef, undef, undef, undef, undef, undef, undef, undef, undef, undef, undef, undef, undef, undef, undef, undef, undef, undef, undef, undef, undef, undef, undef, undef, undef, undef, undef, undef, undef, undef, undef, undef, undef, undef, undef, undef, undef, undef, undef, undef, undef, undef, undef, undef, undef, undef, undef, undef, undef, undef, undef, undef, undef, undef, undef, undef, undef, undef, undef, undef, undef, undef, undef, undef, undef, undef, undef, undef, undef, undef, undef, undef, undef, undef, undef, undef, undef, undef, undef, undef, undef, undef, undef, undef, undef, undef, undef], defers := [] }) ∧ W.heap[N]? = some (.cells (rrC x.2) 45 (0, 0)))
      (fun x a' => ownFrom_ex2 fun N => OwnFrom.and (ownFrom_pure _ (fun _ => _)) (ownFrom_heap2 _ _ (fun _ => _) _ _)) ?assign ?body ?done ?stop
    case ownI =>
      rintro s W W' row ⟨t, k, hri, hpos, hne, hsz⟩ hg hr
      exact ⟨t, k, RI.own _ _ _ _ _ _ _ _ _ _ _ _ _ _ (Nat.le_refl _) (by have := HZS.out; have := HSZ2.out; have := HWS.out; omega) hri hg hr, hpos, hne, Nat.le_trans hsz hg.size⟩
    case ownX =>
      rintro c s W W' row ⟨hc, hp, h1, t, k, hri⟩ hg hr
      exact ⟨hc, hp, h1, t, k, RI.own _ _ _ _ _ _ _ _ _ _ _ _ _ _ (Nat.le_refl _) (by have := HZS.out; have := HSZ2.out; have := HWS.out; omega) hri hg hr⟩
    case start => exact ⟨0, 0, HRI.out, ⟨rfl, by omega, Nat.zero_le _⟩, fun j h1 h2 => by simp at h2; omega, by have := HZS.out; omega⟩
    case assign =>
      rintro lp pre ⟨sx, rx⟩ W K hi hok hK
      obtain ⟨xn, xt, xc, xl, xd⟩ := rx
      obtain ⟨t, k, hri, hpos, hne, hsz⟩ := hi
      have HK := Go.Lib.hid hK
      have HRI2 := Go.Lib.hid hri
      have HPOS := Go.Lib.hid hpos
      have HNE := Go.Lib.hid hne
      have HSZ := Go.Lib.hid hsz
      clear hK hri hpos hne hsz
      unfold encSec
      gi_wp2
      refine HK.out _ _ (keepsFrom_below ((Below.refl _ W).alloc (Nat.le_refl _) _)) ((KN.refl _ W).alloc (by have := HSZ.out; have := HSZ2.out; have := HWS.out; omega) _) ⟨t, k, HRI2.out.below (Nat.le_refl _) ((Below.refl _ W).alloc (Nat.le_refl _) _), HPOS.out, HNE.out, by have := HSZ.out; simp; omega⟩ ⟨W.heap.size, ⟨HSZ.out, rfl⟩, heap_alloc_new _ _⟩
    case body =>
      rintro lp pre ⟨sx, rx⟩ a' W ⟨t, k, hri, hpos, hne, hsz⟩ hok ⟨N, ⟨hN, rfl⟩, hx⟩
      have HRI2 := Go.Lib.hid hri
      have HPOS := Go.Lib.hid hpos
      have HNE := Go.Lib.hid hne
      have HSZ := Go.Lib.hid hsz
      have HX := Go.Lib.hid hx
      have HOK := Go.Lib.hid hok
      have HNN := Go.Lib.hid hN
      clear hri hpos hne hsz hx hok hN
      have hx1 := HX.out
      have hbW : Below w.heap.size w W := HRI2.out.hb
      gi_wp2_with fail
      gi_loopw [35] (fun _ wr => ∃ t k : Nat, RI m (.slice aq m.qs.length cq) (.slice aa m.an.length ca) (.slice asv m.sv.length cs) (.slice ad m.ad.length cd) stop w w.heap.size w1.heap.size w2.heap.size pre.length t k wr ∧ (pre = preS m t k ∧ t < 3 ∧ k ≤ (secL m t).length) ∧ RK w.heap.size (w2.heap.size + 2) W wr ∧ wr.heap[N]? = some (.cells (rrC rx) 45 (0, 0)) ∧ w2.heap.size + 2 ≤ wr.heap.size) (fun _ wr => 3 - boxNat wr w2.heap.size)
      case atStart => exact ⟨t, k, HRI2.out, HPOS.out, RK.refl _ _ _, HX.out, HSZ.out⟩
      case round =>
        clear HRI2 HPOS HX HSZ
        obtain ⟨t, k, hri, ⟨hp, ht, hk⟩, hrk, hx, hsz⟩ := hrel
        have hNl := (Array.getElem?_eq_some_iff.1 hx).1
        have hlT := (Array.getElem?_eq_some_iff.1 hri.t).1
        have hlK := (Array.getElem?_eq_some_iff.1 hri.k).1
        have hlL := (Array.getElem?_eq_some_iff.1 hri.l).1
        have hlC := (Array.getElem?_eq_some_iff.1 hri.l0).1
        have x8a : wr.cell? ⟨w2.heap.size, 0, none⟩ = some (.int .i64 (t : Int)) := row_cell hri.t 0 _ rfl
        have x8 := BelowC.cell (W := wr) x8a hlT
        have x9 := BelowC.cell (W := wr) (show wr.cell? ⟨w2.heap.size + 1, 0, none⟩ = some (.int .i64 (k : Int)) from row_cell hri.k 0 _ rfl) hlK
        have x5 := BelowC.cell (W := wr) (show wr.cell? ⟨w1.heap.size + 1, 0, none⟩ = some (.slice (some ⟨w1.heap.size, 0, none⟩) 3 3) from row_cell hri.l 0 _ rfl) hlL
        have hL : ∃ bb cc, wr.cell? ⟨w1.heap.size, t, none⟩ = some (.slice bb (secL m t).length cc) ∧ RRs w (.slice bb (secL m t).length cc) (secL m t) := by
          rcases (by omega : t = 0 ∨ t = 1 ∨ t = 2) with rfl | rfl | rfl
          · exact ⟨_, _, row_cell hri.l0 0 _ rfl, HM.out.an⟩
          · exact ⟨_, _, row_cell hri.l0 1 _ rfl, HM.out.sv⟩
          · exact ⟨_, _, row_cell hri.l0 2 _ rfl, HM.out.ad⟩
        obtain ⟨bb, cc, hbb, hrr⟩ := hL
        have x6 := BelowC.cell (W := wr) hbb hlC
        have hne : Nonempty (Subtype (Below wr.heap.size wr)) := ⟨⟨wr, Below.refl _ _⟩⟩
        have t1 : (t : Int) < 3 := by omega
        have t3 : ¬ (3 : Int) ≤ (t : Int) := by omega
        have p0 : (0 : Int) ≤ (t : Int) := by omega
        have p1 : (0 : Int) ≤ (k : Int) := by omega
        have hbr : Below w.heap.size w wr := hri.hb
        have hSL : (secL m t).length ≤ 1099511627776 := by
          rcases (by omega : t = 0 ∨ t = 1 ∨ t = 2) with rfl | rfl | rfl
          · exact HS.out.a
          · exact HS.out.s
          · exact HS.out.d
        by_cases hkl : k < (secL m t).length
        · obtain ⟨hxe, hpn⟩ := rec_next hp ht hkl HOK.out
          simp only [Prod.mk.injEq] at hxe
          obtain ⟨hx1, hx2⟩ := hxe
          have hx1' := hx1.symm
          clear hx1
          subst hx1'
          have hrw : RRs wr (.slice bb (secL m t).length cc) (secL m t) := hrr.below hbr (Nat.le_refl _)
          obtain ⟨gq, off, rfl, hgw, hat⟩ := RRs.at hrw (by omega)
          obtain ⟨d0, d1, d2, d3, d4⟩ := hat k hkl
          rw [← hx2] at d0 d1 d2 d3 d4
          have D0 := BelowC.cell (W := wr) d0 hgw
          have D1 := BelowC.cell (W := wr) d1 hgw
          have D2 := BelowC.cell (W := wr) d2 hgw
          have D3 := BelowC.cell (W := wr) d3 hgw
          have D4 := BelowC.cell (W := wr) d4 hgw
          have X0 := BelowC.cell (W := wr) (show wr.cell? ⟨N, 0, none⟩ = some (.string (mk rx.name)) from row_cell hx 0 _ rfl) hNl
          have X1 := BelowC.cell (W := wr) (show wr.cell? ⟨N, 1, none⟩ = some (.int .i64 rx.ty) from row_cell hx 1 _ rfl) hNl
          have X2 := BelowC.cell (W := wr) (show wr.cell? ⟨N, 2, none⟩ = some (.int .i64 rx.cl) from row_cell hx 2 _ rfl) hNl
          have X3 := BelowC.cell (W := wr) (show wr.cell? ⟨N, 3, none⟩ = some (.int .i64 rx.ttl) from row_cell hx 3 _ rfl) hNl
          have X4 := BelowC.cell (W := wr) (show wr.cell? ⟨N, 4, none⟩ = some (.string (mk rx.data)) from row_cell hx 4 _ rfl) hNl
          have t2 : ¬ ((secL m t).length : Int) ≤ (k : Int) := by omega
          have t4 : (k : Int) < ((secL m t).length : Int) := by omega
          have q1 : IntKind.i64.wrap ((k : Int) + 1) = (k : Int) + 1 := wrapi (by omega) (by omega)
          have hpl : pre.length ≤ 3298534883328 := by
            have h1 := HOK.out.length_le
            have h2 := HS.out.a
            have h3 := HS.out.s
            have h4 := HS.out.d
            rw [allR_len, List.length_append] at h1
            omega
          have q2 : IntKind.i64.wrap ((pre.length : Int) + 1) = (pre.length : Int) + 1 := wrapi (by omega) (by omega)
          have x9a : wr.cell? ⟨w2.heap.size + 1, 0, none⟩ = some (.int .i64 (k : Int)) := row_cell hri.k 0 _ rfl
          have z9 : wr.frozen? ⟨w2.heap.size + 1, 0, none⟩ = false := row_frozen hri.k 0
          have hri2 : RI m (.slice aq m.qs.length cq) (.slice aa m.an.length ca) (.slice asv m.sv.length cs) (.slice ad m.ad.length cd) stop w w.heap.size w1.heap.size w2.heap.size pre.length t (k + 1) (wr.setCell ⟨w2.heap.size + 1, 0, none⟩ (.int .i64 ((k : Int) + 1))) := hri.setK HBC.out HCT.out (k + 1)
          have c6 : (wr.setCell ⟨w2.heap.size + 1, 0, none⟩ (.int .i64 ((k : Int) + 1))).cell? ⟨w1.heap.size + 1 + 1, 0, none⟩ = some (.int .i64 (pre.length : Int)) := row_cell hri2.n 0 _ rfl
          have z6 : (wr.setCell ⟨w2.heap.size + 1, 0, none⟩ (.int .i64 ((k : Int) + 1))).frozen? ⟨w1.heap.size + 1 + 1, 0, none⟩ = false := row_frozen hri2.n 0
          have hri3 : RI m (.slice aq m.qs.length cq) (.slice aa m.an.length ca) (.slice asv m.sv.length cs) (.slice ad m.ad.length cd) stop w w.heap.size w1.heap.size w2.heap.size (pre.length + 1) t (k + 1) ((wr.setCell ⟨w2.heap.size + 1, 0, none⟩ (.int .i64 ((k : Int) + 1))).setCell ⟨w1.heap.size + 1 + 1, 0, none⟩ (.int .i64 ((pre.length : Int) + 1))) := hri2.setN HBC.out HCT.out (pre.length + 1)
          have c7 : ((wr.setCell ⟨w2.heap.size + 1, 0, none⟩ (.int .i64 ((k : Int) + 1))).setCell ⟨w1.heap.size + 1 + 1, 0, none⟩ (.int .i64 ((pre.length : Int) + 1))).cell? ⟨w1.heap.size + 1 + 1, 0, none⟩ = some (.int .i64 ((pre.length : Int) + 1)) := row_cell hri3.n 0 _ rfl
          have c8 : ((wr.setCell ⟨w2.heap.size + 1, 0, none⟩ (.int .i64 ((k : Int) + 1))).setCell ⟨w1.heap.size + 1 + 1, 0, none⟩ (.int .i64 ((pre.length : Int) + 1))).cell? ⟨w.heap.size + 1, 0, none⟩ = some (.int .i64 stop) := row_cell hri3.st 0 _ rfl
          have hrk2 := (hrk.set hri.k (Nat.le_succ_of_le HWT.out) (.int .i64 ((k : Int) + 1))).set hri2.n (by have := HBC.out; omega) (.int .i64 ((pre.length : Int) + 1))
          obtain ⟨xn, xt, xc, xl, xd⟩ := rx
          generalize hNL : (secL m t).length = NL at *
          generalize hPN : pre.length = pn at *
          simp only at D0 D1 D2 D3 D4 X0 X1 X2 X3 X4
          have HRI3 := Go.Lib.hid hri
          have HRK := Go.Lib.hid hrk
          have HX3 := Go.Lib.hid hx
          have HRR := Go.Lib.hid hrr
          have HBR := Go.Lib.hid hbr
          have HNL := Go.Lib.hid hNL
          have HSZ3 := Go.Lib.hid hsz
          have HRI5 := Go.Lib.hid hri2
          have HRI4 := Go.Lib.hid hri3
          have HRK2 := Go.Lib.hid hrk2
          have HX2 := Go.Lib.hid hx2
          have HP := Go.Lib.hid hp
          have HPN := Go.Lib.hid hpn
          have HPL := Go.Lib.hid hPN
          clear hri hrk hx hrr hbr hNL hsz hri2 hri3 hrk2 hx2 hp hpn hPN
          clear hbb hrw hat d0 d1 d2 d3 d4
          by_cases hst : (pn : Int) + 1 = stop
          · have e1 : ((pn : Int) + 1 == stop) = true := beq_iff_eq.2 hst
            have HST := Go.Lib.hid hst
            clear hst
            gi_wp2_with fail
            refine Go.Mix.wpIn_region_mixT (Es := []) 10 (Below wr.heap.size wr) mixed (by kernel_rfl) (Below.refl _ _).drew ?_
            iterate 10 (refine Go.Mix.mixT_step rfl (fun K hK => ?_); have HKK := Go.Lib.hid hK; clear hK; go_simp; refine HKK.out _ _ ?_; clear HKK K)
            refine Go.Mix.mixT_last rfl (fun K hK => ?_)
            have HKK := Go.Lib.hid hK
            clear hK
            go_simp
            refine HKK.out _ _ ?_
            clear HKK K
            gi_wp2_with fail
            refine Go.Mix.wpIn_region_mixT (Es := []) 17 (Below wr.heap.size wr) mixed (by kernel_rfl) (Below.refl _ _).drew.drew ?_
            iterate 17 (refine Go.Mix.mixT_step rfl (fun K hK => ?_); have HKK := Go.Lib.hid hK; clear hK; go_simp; refine HKK.out _ _ ?_; clear HKK K)
            refine Go.Mix.mixT_last rfl (fun K hK => ?_)
            have HKK := Go.Lib.hid hK
            clear hK
            go_simp
            refine HKK.out _ _ ?_
            clear HKK K
            gi_wp2_with fail
            rw [show ((w2.alloc (.cells #[.int .i64 0] 3)).alloc (.cells #[.int .i64 0] 3)).heap.size = _ from HZS.out]
            exact ⟨HRK2.out.drew.drew.kf, rfl, by have := HST.out; rw [List.length_append, HPL.out]; simp only [List.length_singleton]; omega, by simp, t, k + 1, by rw [List.length_append, HPL.out]; exact HRI4.out.below (Nat.le_refl _) ((Below.refl _ _).drew.drew)⟩
          · have e1 : ((pn : Int) + 1 == stop) = false := beq_eq_false_iff_ne.2 hst
            have HST := Go.Lib.hid hst
            clear hst
            gi_wp2_with fail
            refine Go.Mix.wpIn_region_mixT (Es := []) 10 (Below wr.heap.size wr) mixed (by kernel_rfl) (Below.refl _ _).drew ?_
            iterate 10 (refine Go.Mix.mixT_step rfl (fun K hK => ?_); have HKK := Go.Lib.hid hK; clear hK; go_simp; refine HKK.out _ _ ?_; clear HKK K)
            refine Go.Mix.mixT_last rfl (fun K hK => ?_)
            have HKK := Go.Lib.hid hK
            clear hK
            go_simp
            refine HKK.out _ _ ?_
            clear HKK K
            gi_wp2_with fail
            refine Go.Mix.wpIn_region_mixT (Es := []) 17 (Below wr.heap.size wr) mixed (by kernel_rfl) (Below.refl _ _).drew.drew ?_
            iterate 17 (refine Go.Mix.mixT_step rfl (fun K hK => ?_); have HKK := Go.Lib.hid hK; clear hK; go_simp; refine HKK.out _ _ ?_; clear HKK K)
            refine Go.Mix.mixT_last rfl (fun K hK => ?_)
            have HKK := Go.Lib.hid hK
            clear hK
            go_simp
            refine HKK.out _ _ ?_
            clear HKK K
            gi_wp2_with fail
            rw [show ((w2.alloc (.cells #[.int .i64 0] 3)).alloc (.cells #[.int .i64 0] 3)).heap.size = _ from HZS.out]
            refine ⟨HRK2.out.drew.drew.kf, HRK2.out.drew.drew.kn, t, k + 1, by rw [List.length_append, HPL.out]; exact HRI4.out.below (Nat.le_refl _) ((Below.refl _ _).drew.drew), ⟨HPN.out, ht, by rw [HNL.out]; omega⟩, fun j h1 h2 => ?_, by simp; exact HSZ3.out⟩
            rw [List.length_append, HPL.out] at h2
            simp only [List.length_singleton] at h2
            rcases (by omega : j ≤ pn ∨ j = pn + 1) with h | h
            · exact HNE.out j h1 (by first | exact h | (rw [HPL.out]; exact h))
            · have := HST.out
              omega
        · have hke : k = (secL m t).length := by omega
          have hp2 : pre = preS m (t + 1) 0 := by rw [hp, hke, rec_turn]
          have ht2 : t + 1 < 3 := by
            rcases (by omega : t + 1 < 3 ∨ t + 1 = 3) with h | h
            · exact h
            · rw [h] at hp2
              exact absurd HOK.out (fun hh => rec_end hp2 hh)
          have t2 : ((secL m t).length : Int) ≤ (k : Int) := by omega
          have q1 : IntKind.i64.wrap ((t : Int) + 1) = (t : Int) + 1 := wrapi (by omega) (by omega)
          have z8 : wr.frozen? ⟨w2.heap.size, 0, none⟩ = false := row_frozen hri.t 0
          have hri2 : RI m (.slice aq m.qs.length cq) (.slice aa m.an.length ca) (.slice asv m.sv.length cs) (.slice ad m.ad.length cd) stop w w.heap.size w1.heap.size w2.heap.size pre.length (t + 1) k (wr.setCell ⟨w2.heap.size, 0, none⟩ (.int .i64 ((t : Int) + 1))) := hri.setT HBC.out HCT.out (t + 1)
          have z9 : (wr.setCell ⟨w2.heap.size, 0, none⟩ (.int .i64 ((t : Int) + 1))).frozen? ⟨w2.heap.size + 1, 0, none⟩ = false := row_frozen hri2.k 0
          have c9 : (wr.setCell ⟨w2.heap.size, 0, none⟩ (.int .i64 ((t : Int) + 1))).cell? ⟨w2.heap.size + 1, 0, none⟩ = some (.int .i64 (k : Int)) := row_cell hri2.k 0 _ rfl
          have hri4 : RI m (.slice aq m.qs.length cq) (.slice aa m.an.length ca) (.slice asv m.sv.length cs) (.slice ad m.ad.length cd) stop w w.heap.size w1.heap.size w2.heap.size pre.length (t + 1) 0 ((wr.setCell ⟨w2.heap.size, 0, none⟩ (.int .i64 ((t : Int) + 1))).setCell ⟨w2.heap.size + 1, 0, none⟩ (.int .i64 0)).drew := (hri2.setK HBC.out HCT.out 0).below (Nat.le_refl _) (Below.refl _ _).drew
          have hrk2 : RK w.heap.size (w2.heap.size + 2) W ((wr.setCell ⟨w2.heap.size, 0, none⟩ (.int .i64 ((t : Int) + 1))).setCell ⟨w2.heap.size + 1, 0, none⟩ (.int .i64 0)).drew := ((hrk.set hri.t HWT.out _).set hri2.k (Nat.le_succ_of_le HWT.out) _).drew
          have hx4 : ((wr.setCell ⟨w2.heap.size, 0, none⟩ (.int .i64 ((t : Int) + 1))).setCell ⟨w2.heap.size + 1, 0, none⟩ (.int .i64 0)).drew.heap[N]? = some (.cells (rrC rx) 45 (0, 0)) := (heap_set_other hri2.k (by have := HNN.out; omega)).trans ((heap_set_other hri.t (by have := HNN.out; omega)).trans hx)
          have hms := boxNat_of x8a
          have hms2 := boxNat_of (row_cell hri4.t 0 _ rfl)
          generalize hNL : (secL m t).length = NL at *
          have HRI3 := Go.Lib.hid hri
          have HRK := Go.Lib.hid hrk
          have HX3 := Go.Lib.hid hx
          have HP2 := Go.Lib.hid hp2
          have HRR := Go.Lib.hid hrr
          have HBR := Go.Lib.hid hbr
          have HNL := Go.Lib.hid hNL
          have HSZ3 := Go.Lib.hid hsz
          have HRI5 := Go.Lib.hid hri2
          have HRI4 := Go.Lib.hid hri4
          have HRK2 := Go.Lib.hid hrk2
          have HX4 := Go.Lib.hid hx4
          have HMS := Go.Lib.hid hms
          have HMS2 := Go.Lib.hid hms2
          clear hri hrk hx hp2 hrr hbr hNL hsz hri2 hri4 hrk2 hx4 hms hms2
          clear hp hbb hke hkl
          gi_wp2_with fail
          refine Go.Mix.wpIn_region_mixT (Es := []) 10 (Below wr.heap.size wr) mixed (by kernel_rfl) (Below.refl _ _).drew ?_
          iterate 10 (refine Go.Mix.mixT_step rfl (fun K hK => ?_); have HKK := Go.Lib.hid hK; clear hK; go_simp; refine HKK.out _ _ ?_; clear HKK K)
          refine Go.Mix.mixT_last rfl (fun K hK => ?_)
          have HKK := Go.Lib.hid hK
          clear hK
          go_simp
          refine HKK.out _ _ ?_
          clear HKK K
          gi_wp2_with fail
          go_roundw
          case rel => exact ⟨t + 1, 0, HRI4.out, ⟨HP2.out, ht2, Nat.zero_le _⟩, HRK2.out, HX4.out, by simp; exact HSZ3.out⟩
          case measure => rw [HMS.out, HMS2.out]; omega
    case done =>
      rintro D xs W hD hS ⟨t, k, hri, hpos, hne, hsz⟩ hd
      refine HJ.out _ _ ⟨D, _, t, k, rfl, hd, by have := HZS.out; omega, hri, .inl ⟨by rw [hS, allR_len], ?_⟩⟩
      rw [hS, allR_len] at hne
      by_cases h1 : stop < 1
      · exact .inl h1
      · refine .inr ?_
        by_cases h2 : ((m.an.length + m.sv.length + m.ad.length : Nat) : Int) < stop
        · exact h2
        · exact absurd (Int.toNat_of_nonneg (by omega)) (hne stop.toNat (by omega) (by omega))
    case stop =>
      rintro D c pre W hD hS ⟨rfl, hp, h1, t, k, hri⟩ hd
      have hle := hS.length_le
      rw [allR_len] at hle
      have hgo := HJ.out _ _ ⟨D, _, t, k, rfl, hd, by have := HZS.out; omega, hri, .inr ⟨hp, by omega, by omega⟩⟩
      exact wpIn_exit hgo
  case rest =>
    rintro a' W' ⟨D, pn, t, k, rfl, hD, hTD, hri, hcs⟩
    refine HK.out _ _ ?_
    have hSa := HS.out.a
    have hSs := HS.out.s
    have hSd := HS.out.d
    have hSq := HS.out.q
    have y9 : W'.cell? ⟨w.heap.size, 9, none⟩ = some (.slice aa m.an.length ca) := row_cell hri.m 9 _ rfl
    have y10 : W'.cell? ⟨w.heap.size, 10, none⟩ = some (.slice asv m.sv.length cs) := row_cell hri.m 10 _ rfl
    have y11 : W'.cell? ⟨w.heap.size, 11, none⟩ = some (.slice ad m.ad.length cd) := row_cell hri.m 11 _ rfl
    have ys : W'.cell? ⟨w.heap.size + 1, 0, none⟩ = some (.int .i64 stop) := row_cell hri.st 0 _ rfl
    have zs : W'.frozen? ⟨w.heap.size + 1, 0, none⟩ = false := row_frozen hri.st 0
    have q1 : IntKind.i64.wrap ((m.an.length : Int) + (m.sv.length : Int)) = (m.an.length : Int) + (m.sv.length : Int) := wrapi (by omega) (by omega)
    have q2 : IntKind.i64.wrap ((m.an.length : Int) + (m.sv.length : Int) + (m.ad.length : Int)) = (m.an.length : Int) + (m.sv.length : Int) + (m.ad.length : Int) := wrapi (by omega) (by omega)
    have hDb : D ≠ w.heap.size + 1 := by have := HWT.out; omega
    clear HSEQ HRI hnil
    rcases hcs with ⟨hpn, h | h⟩ | ⟨hpn, h1, h2⟩
    case' inl.inl =>
      obtain ⟨st2, hst2⟩ : ∃ st2, st2 = (m.an.length : Int) + (m.sv.length : Int) + (m.ad.length : Int) := ⟨_, rfl⟩
      obtain ⟨W2, hW2⟩ : ∃ W2, W'.setCell ⟨w.heap.size + 1, 0, none⟩ (.int .i64 ((m.an.length : Int) + (m.sv.length : Int) + (m.ad.length : Int))) = W2 := ⟨_, rfl⟩
      have hri2 : RI m (.slice aq m.qs.length cq) (.slice aa m.an.length ca) (.slice asv m.sv.length cs) (.slice ad m.ad.length cd) st2 w w.heap.size w1.heap.size w2.heap.size pn t k W2 := by rw [← hW2, hst2]; exact hri.setSt HBC.out HCT.out _
      have hD2 : W2.heap[D]? = some (.deferred (some [])) := by rw [← hW2]; exact (heap_set_other hri.st hDb).trans hD
      have hpn2 : (pn : Int) = st2 := by omega
      have HR := Go.Lib.hid hri2
      have HDD := Go.Lib.hid hD2
      have HPN := Go.Lib.hid hpn2
      have HTD := Go.Lib.hid hTD
      clear hri2 hD2 hpn2 hTD
      clear hri hD hpn hDb hst2 hSa hSs hSd
      gi_upto_region 23 with fail
      clear hW2 y9 y10 y11 ys zs q1 q2 h
    case' inl.inr =>
      have u1 : ¬ stop < 1 := by omega
      have u2 : (m.an.length : Int) + (m.sv.length : Int) + (m.ad.length : Int) < stop := by omega
      obtain ⟨st2, hst2⟩ : ∃ st2, st2 = (m.an.length : Int) + (m.sv.length : Int) + (m.ad.length : Int) := ⟨_, rfl⟩
      obtain ⟨W2, hW2⟩ : ∃ W2, W'.setCell ⟨w.heap.size + 1, 0, none⟩ (.int .i64 ((m.an.length : Int) + (m.sv.length : Int) + (m.ad.length : Int))) = W2 := ⟨_, rfl⟩
      have hri2 : RI m (.slice aq m.qs.length cq) (.slice aa m.an.length ca) (.slice asv m.sv.length cs) (.slice ad m.ad.length cd) st2 w w.heap.size w1.heap.size w2.heap.size pn t k W2 := by rw [← hW2, hst2]; exact hri.setSt HBC.out HCT.out _
      have hD2 : W2.heap[D]? = some (.deferred (some [])) := by rw [← hW2]; exact (heap_set_other hri.st hDb).trans hD
      have hpn2 : (pn : Int) = st2 := by omega
      have HR := Go.Lib.hid hri2
      have HDD := Go.Lib.hid hD2
      have HPN := Go.Lib.hid hpn2
      have HTD := Go.Lib.hid hTD
      clear hri2 hD2 hpn2 hTD
      clear hri hD hpn hDb hst2 hSa hSs hSd h
      gi_upto_region 23 with fail
      clear hW2 y9 y10 y11 ys zs q1 q2 u1 u2
    case' inr =>
      have u1 : ¬ stop < 1 := by omega
      have u2 : ¬ (m.an.length : Int) + (m.sv.length : Int) + (m.ad.length : Int) < stop := by omega
      obtain ⟨st2, hst2⟩ : ∃ st2, st2 = stop := ⟨_, rfl⟩
      have hri2 : RI m (.slice aq m.qs.length cq) (.slice aa m.an.length ca) (.slice asv m.sv.length cs) (.slice ad m.ad.length cd) st2 w w.heap.size w1.heap.size w2.heap.size pn t k W' := by rw [hst2]; exact hri
      have hpn2 : (pn : Int) = st2 := by omega
      have HR := Go.Lib.hid hri2
      have HDD := Go.Lib.hid hD
      have HPN := Go.Lib.hid hpn2
      have HTD := Go.Lib.hid hTD
      clear hri2 hD hpn2 hTD
      clear hri hpn hDb hst2 hSa hSs hSd h1 h2
      gi_upto_region 23 with fail
      generalize W' = W2 at *
      clear y9 y10 y11 ys zs q1 q2 u1 u2
    all_goals
      obtain ⟨O, hO⟩ : ∃ O, W2.alloc (.cells (MC m (.slice aq m.qs.length cq) (.slice aa m.an.length ca) (.slice asv m.sv.length cs) (.slice ad m.ad.length cd)) 27) = O := ⟨_, rfl⟩
      have go : O.heap[W2.heap.size]? = some (.cells (MC m (.slice aq m.qs.length cq) (.slice aa m.an.length ca) (.slice asv m.sv.length cs) (.slice ad m.ad.length cd)) 27 (0, 0)) := by rw [← hO]; exact heap_alloc_new _ _
      have hbO : Below W2.heap.size W2 O := by rw [← hO]; exact (Below.refl _ _).alloc (Nat.le_refl _) _
      have hOs : O.heap.size = W2.heap.size + 1 := by rw [← hO]; simp
      have f8 : O.frozen? ⟨W2.heap.size, 8, none⟩ = false := row_frozen go 8
      have c8 : O.cell? ⟨W2.heap.size, 8, none⟩ = some (.slice aq m.qs.length cq) := row_cell go 8 _ rfl
      obtain ⟨O2, hO2⟩ : ∃ O2, O.setCell ⟨W2.heap.size, 8, none⟩ (.slice none 0 0) = O2 := ⟨_, rfl⟩
      have go2 : O2.heap[W2.heap.size]? = some (.cells (MC m nilS (.slice aa m.an.length ca) (.slice asv m.sv.length cs) (.slice ad m.ad.length cd)) 27 (0, 0)) := by rw [← hO2]; exact heap_set go
      have hb2 : Below W2.heap.size W2 O2 := by rw [← hO2]; exact hbO.setCell (p := ⟨W2.heap.size, 8, none⟩) (Nat.le_refl _) _
      have hOs2 : W2.heap.size + 1 ≤ O2.heap.size := by rw [← hO2]; simp; omega
      have hoq0 : OQ m (.slice aq m.qs.length cq) (.slice aa m.an.length ca) (.slice asv m.sv.length cs) (.slice ad m.ad.length cd) st2 w w.heap.size w1.heap.size w2.heap.size pn t k D W2.heap.size nilS 0 O2 := ⟨HR.out.below (Nat.le_refl _) hb2, (hb2.block _ (Array.getElem?_eq_some_iff.1 HDD.out).1).trans HDD.out, go2, World.ownsRow_nil _ _ _ _⟩
      have hTo : w2.heap.size + 2 ≤ W2.heap.size := (Array.getElem?_eq_some_iff.1 HR.out.k).1
      have hDo : D < W2.heap.size := (Array.getElem?_eq_some_iff.1 HDD.out).1
      have HOQ0 := Go.Lib.hid hoq0
      have HTO := Go.Lib.hid hTo
      have HDO := Go.Lib.hid hDo
      have HOS := Go.Lib.hid hOs2
      clear hoq0 hTo hDo hOs2
      clear hb2 go2 hbO go hOs
      simp only [MC] at hO
      gi_wp2_with (refine wpListIn_load_rowG rfl 27 (.tmp 2) rfl w.heap.size rfl _ _ (0, 0) _ HR.out.m HU.out rfl infoMsg ?_)
      clear hO hO2 f8 c8
      gi_loopw [14] (fun i wr => ∃ (j : Nat) (qv : Value), i = .int .i64 j ∧ j ≤ m.qs.length ∧ OQ m (.slice aq m.qs.length cq) (.slice aa m.an.length ca) (.slice asv m.sv.length cs) (.slice ad m.ad.length cd) st2 w w.heap.size w1.heap.size w2.heap.size pn t k D W2.heap.size qv j wr ∧ W2.heap.size + 1 ≤ wr.heap.size) (fun i _ => m.qs.length - (RowKit.intOf i).toNat)
      case atStart => exact ⟨0, _, rfl, Nat.zero_le _, HOQ0.out, HOS.out⟩
      case round =>
        clear HOQ0 HOS
        obtain ⟨j, qv, rfl, hj, hoq, hws⟩ := hrel
        obtain ⟨av, cv, rfl, _, _⟩ := (SlC.of_owns hoq.own).slice
        have m8 : wr.cell? ⟨w.heap.size, 8, none⟩ = some (.slice aq m.qs.length cq) := row_cell hoq.ri.m 8 _ rfl
        by_cases hlt : j < m.qs.length
        · have t1 : (j : Int) < (m.qs.length : Int) := by omega
          have p0 : (0 : Int) ≤ (j : Int) := by omega
          have q3 : IntKind.i64.wrap ((j : Int) + 1) = (j : Int) + 1 := wrapi (by omega) (by omega)
          have hqr : Qns wr (.slice aq m.qs.length cq) m.qs := HM.out.qs.below hoq.ri.hb (Nat.le_refl _)
          obtain ⟨gq, off, hgo, hgw, hat⟩ := Qns.at hqr (by omega)
          obtain ⟨x0, x1, x2⟩ := hat j hlt
          have hname := HS.out.qn _ (qn_step rfl hlt).2
          obtain ⟨⟨yn, yt, yc⟩, hy⟩ : ∃ y, m.qs.getD j q0 = y := ⟨_, rfl⟩
          rw [hy] at x0 x1 x2 hname
          simp only at x0 x1 x2 hname
          have hfo := Go.Lib.hid fun (W : World) => (by have h := refFold_any (mk yn) W (by rw [size_mk]; exact hname); rw [bl_mk] at h; exact h : Calls Try.prog 20 #[.string (mk yn)] W fun e w' => e = .returned (.string (mk (Nm.foldN yn))) ∧ Below W.heap.size W w')
          obtain ⟨X1, hX1⟩ : ∃ X1, wr.alloc (.cells #[.string (mk yn), .int .i64 yt, .int .i64 yc] 47) = X1 := ⟨_, rfl⟩
          have n1 : X1.heap[wr.heap.size]? = some (.cells #[.string (mk yn), .int .i64 yt, .int .i64 yc] 47 (0, 0)) := by rw [← hX1]; exact heap_alloc_new _ _
          have hb1 : Below wr.heap.size wr X1 := by rw [← hX1]; exact (Below.refl _ _).alloc (Nat.le_refl _) _
          have v0 : X1.cell? ⟨wr.heap.size, 0, none⟩ = some (.string (mk yn)) := row_cell n1 0 _ rfl
          have HOQ := Go.Lib.hid hoq
          have HWSZ := Go.Lib.hid hws
          have HY := Go.Lib.hid hy
          have HB1X := Go.Lib.hid hb1
          have HN1 := Go.Lib.hid n1
          clear hoq hws hy hb1 n1
          clear hqr hat hname
          subst hgo
          gi_wp2_with fail
          refine ⟨trivial, (callsIn_wide.2 (hfo.out _)).mono ?_⟩
          rintro e X2 ⟨rfl, hx2⟩
          have n2 := (hx2.block _ (Array.getElem?_eq_some_iff.1 HN1.out).1).trans HN1.out
          have hb2 : Below wr.heap.size wr X2 := HB1X.out.trans (hx2.mono HB1X.out.size)
          have z0 : X2.frozen? ⟨wr.heap.size, 0, none⟩ = false := row_frozen n2 0
          have c0 : X2.cell? ⟨wr.heap.size, 0, none⟩ = some (.string (mk yn)) := row_cell n2 0 _ rfl
          obtain ⟨X3, hX3⟩ : ∃ X3, X2.setCell ⟨wr.heap.size, 0, none⟩ (.string (mk (Nm.foldN yn))) = X3 := ⟨_, rfl⟩
          have n3 : X3.heap[wr.heap.size]? = some (.cells #[.string (mk (Nm.foldN yn)), .int .i64 yt, .int .i64 yc] 47 (0, 0)) := by rw [← hX3]; exact heap_set n2
          have hb3 : Below wr.heap.size wr X3 := by rw [← hX3]; exact hb2.setCell (p := ⟨wr.heap.size, 0, none⟩) (Nat.le_refl _) _
          have w0 : X3.cell? ⟨wr.heap.size, 0, none⟩ = some (.string (mk (Nm.foldN yn))) := row_cell n3 0 _ rfl
          have w1c : X3.cell? ⟨wr.heap.size, 1, none⟩ = some (.int .i64 yt) := row_cell n3 1 _ rfl
          have w2c : X3.cell? ⟨wr.heap.size, 2, none⟩ = some (.int .i64 yc) := row_cell n3 2 _ rfl
          have hoq3 := HOQ.out.below (Nat.le_refl _) hb3
          have o8 : X3.cell? ⟨W2.heap.size, 8, none⟩ = some (.slice av j cv) := row_cell hoq3.row 8 _ rfl
          have hoq4 := hoq3.below (Nat.le_refl _) ((Below.refl _ X3).alloc (Nat.le_refl _) (.cells #[.string (mk (Nm.foldN yn)), .int .i64 yt, .int .i64 yc] 47))
          have hsz3 : W2.heap.size + 1 ≤ X3.heap.size := Nat.le_trans HWSZ.out hb3.size
          have HOQ4 := Go.Lib.hid hoq4
          have HB3 := Go.Lib.hid hb3
          have HSZ3 := Go.Lib.hid hsz3
          clear hoq4 hb3 hsz3
          clear hx2 n2 hb2 n3 hoq3 x0 x1 x2 v0 hX1 HOQ HWSZ HN1 m8
          gi_wp2_with (gi_at_builtin; refine wpListIn_app1 eiQn (.tmp 111) (.tmp 113) rfl rfl (W2.heap.size + 1) rfl rfl HOQ4.out.own (news := [.string (mk (Nm.foldN yn)), .int .i64 yt, .int .i64 yc]) rfl (new_cells _ _ _) (one_qs [⟨Nm.foldN yn, yt, yc⟩]) (by unfold maxLen; omega) (by omega) (by have := HSZ3.out; simp; omega) ?_; intro v1 W5 hown hg; obtain ⟨g5, c5, rfl⟩ := ownsRow_succ hown; have r5 := HOQ4.out.row2 hg _ (Nat.le_refl _) _ HOQ4.out.row; have o9 : W5.cell? ⟨W2.heap.size, 8, none⟩ = some (.slice av j cv) := row_cell r5 8 _ rfl; have z9 : W5.frozen? ⟨W2.heap.size, 8, none⟩ = false := row_frozen r5 8; have hoq5 := OQ_app HOQ4.out (Nat.le_refl _) HBC.out HCT.out HTO.out HDO.out hlt hg (by rw [HY.out]; exact hown); have hsz5 : W2.heap.size + 1 ≤ (W5.setCell ⟨W2.heap.size, 8, none⟩ (.slice (some ⟨g5, 0, none⟩) (j + 1) c5)).heap.size := (by have := hg.size; have := HSZ3.out; simp at *; omega); have HOQ5 := Go.Lib.hid hoq5; have HSZ5 := Go.Lib.hid hsz5; have HR5 := Go.Lib.hid r5; clear hoq5 hsz5 r5 hown hg hX3)
          go_roundw
          case rel => exact ⟨j + 1, _, by go_num, by omega, HOQ5.out, HSZ5.out⟩
          case measure => simp [RowKit.intOf]; omega
        · obtain rfl : j = m.qs.length := by omega
          have t1 : ¬ (m.qs.length : Int) < (m.qs.length : Int) := by omega
          obtain ⟨cc, hcc⟩ : ∃ cc, IntKind.i64.wrap (m.code + 1) = cc := ⟨_, rfl⟩
          have hne : m.code ≠ cc := by rw [← hcc]; exact wrap_next m.code
          have y7 : wr.cell? ⟨w.heap.size, 7, none⟩ = some (.int .i64 m.code) := row_cell hoq.ri.m 7 _ rfl
          obtain ⟨P1, hP1⟩ : ∃ P1, wr.alloc (.cells (MC m (.slice aq m.qs.length cq) (.slice aa m.an.length ca) (.slice asv m.sv.length cs) (.slice ad m.ad.length cd)) 27) = P1 := ⟨_, rfl⟩
          have gp : P1.heap[wr.heap.size]? = some (.cells (MC m (.slice aq m.qs.length cq) (.slice aa m.an.length ca) (.slice asv m.sv.length cs) (.slice ad m.ad.length cd)) 27 (0, 0)) := by rw [← hP1]; exact heap_alloc_new _ _
          have hbP : Below wr.heap.size wr P1 := by rw [← hP1]; exact (Below.refl _ _).alloc (Nat.le_refl _) _
          have hoq1 := hoq.below (Nat.le_refl _) hbP
          have p7 : P1.cell? ⟨w.heap.size, 7, none⟩ = some (.int .i64 m.code) := row_cell hoq1.ri.m 7 _ rfl
          have f7 : P1.frozen? ⟨wr.heap.size, 7, none⟩ = false := row_frozen gp 7
          have c7 : P1.cell? ⟨wr.heap.size, 7, none⟩ = some (.int .i64 m.code) := row_cell gp 7 _ rfl
          obtain ⟨P2, hP2⟩ : ∃ P2, P1.setCell ⟨wr.heap.size, 7, none⟩ (.int .i64 cc) = P2 := ⟨_, rfl⟩
          have gp2 : P2.heap[wr.heap.size]? = some (.cells (MC { m with code := cc } (.slice aq m.qs.length cq) (.slice aa m.an.length ca) (.slice asv m.sv.length cs) (.slice ad m.ad.length cd)) 27 (0, 0)) := by rw [← hP2]; exact heap_set gp
          have hbP2 : Below wr.heap.size wr P2 := by rw [← hP2]; exact hbP.setCell (p := ⟨wr.heap.size, 7, none⟩) (Nat.le_refl _) _
          have hoq2 := hoq.below (Nat.le_refl _) hbP2
          have r0 : P2.cell? ⟨w1.heap.size + 1 + 1, 0, none⟩ = some (.int .i64 (pn : Int)) := row_cell hoq2.ri.n 0 _ rfl
          have r1 : P2.cell? ⟨w.heap.size + 1, 0, none⟩ = some (.int .i64 st2) := row_cell hoq2.ri.st 0 _ rfl
          have e2 : ((pn : Int) == st2) = true := beq_iff_eq.2 HPN.out
          have hfl : (m.qs.take m.qs.length).map foldQ = m.qs.map foldQ := by rw [List.take_length]
          have hm1 : MsgL P2 m (.slice aq m.qs.length cq) (.slice aa m.an.length ca) (.slice asv m.sv.length cs) (.slice ad m.ad.length cd) := HM.out.below hoq2.ri.hb (Nat.le_refl _)
          have hm2 : MsgL P2 { m with qs := m.qs.map foldQ } (.slice av m.qs.length cv) (.slice aa m.an.length ca) (.slice asv m.sv.length cs) (.slice ad m.ad.length cd) := ⟨by
            have := SlC.of_owns hoq2.own
            rw [hfl] at this
            unfold Qns
            rw [List.length_map]
            exact this, hm1.an, hm1.sv, hm1.ad⟩
          have hs2 : MsgS { m with qs := m.qs.map foldQ } := ⟨by rw [List.length_map]; exact HS.out.q, HS.out.a, HS.out.s, HS.out.d, fun x hx => by
            obtain ⟨y, hy, rfl⟩ := List.mem_map.1 hx
            show (Nm.foldN y.name).length ≤ maxLen
            rw [Nm.foldN_length]
            exact HS.out.qn y hy, fun x hx => HS.out.rr x hx⟩
          have hsame := MSame_true m { m with qs := m.qs.map foldQ } _ _ _ _ _ _ _ _ P2 hm1 hm2 HS.out hs2 rfl (eqQ_fold _) (eqR_refl _) (eqR_refl _) (eqR_refl _)
          have hdiff := fun W => MSame_code m cc (.slice aq m.qs.length cq) (.slice aa m.an.length ca) (.slice asv m.sv.length cs) (.slice ad m.ad.length cd) (.slice aq m.qs.length cq) (.slice aa m.an.length ca) (.slice asv m.sv.length cs) (.slice ad m.ad.length cd) W hne
          have HOQ := Go.Lib.hid hoq
          have GP2 := Go.Lib.hid gp2
          have HOQ2 := Go.Lib.hid hoq2
          have HSAME := Go.Lib.hid hsame
          have HDIFF := Go.Lib.hid hdiff
          have HNEC := Go.Lib.hid hne
          clear hoq gp2 hoq2 hsame hdiff hne
          clear hm1 hm2 hs2 hfl hbP hbP2 hoq1 gp hws hj
          simp only [MC] at hP1
          gi_wp2_with (first | (refine wpListIn_load_rowG rfl 27 (.tmp 2) rfl w.heap.size rfl _ _ (0, 0) _ HOQ.out.ri.m HU.out rfl infoMsg ?_) | (refine wpListIn_load_rowG rfl 27 (.tmp 2) rfl w.heap.size rfl _ _ (0, 0) _ HOQ2.out.ri.m HU.out rfl infoMsg ?_) | (refine wpListIn_load_rowG rfl 27 (.tmp 13) rfl W2.heap.size rfl _ _ (0, 0) _ HOQ2.out.row HU.out rfl infoMsg ?_))
          refine ⟨trivial, (callsIn_wide.2 HSAME.out).mono ?_⟩
          rintro e P3 ⟨rfl, hx3⟩
          have hoq3 := HOQ2.out.below (Nat.le_refl _) hx3
          have gp3 := (hx3.block _ (Array.getElem?_eq_some_iff.1 GP2.out).1).trans GP2.out
          have HOQ3 := Go.Lib.hid hoq3
          have GP3 := Go.Lib.hid gp3
          clear hoq3 gp3
          clear hx3 hP1 hP2 y7 p7 f7 c7 r0 r1 m8 HOQ HOQ2 GP2 HSAME
          gi_wp2_with (first | (refine wpListIn_load_rowG rfl 27 (.tmp 2) rfl w.heap.size rfl _ _ (0, 0) _ HOQ3.out.ri.m HU.out rfl infoMsg ?_) | (refine wpListIn_load_rowG rfl 27 (.tmp 16) rfl wr.heap.size rfl _ _ (0, 0) _ GP3.out HU.out rfl infoMsg ?_))
          refine ⟨trivial, (callsIn_wide.2 (HDIFF.out _)).mono ?_⟩
          rintro e P4 ⟨rfl, hx4⟩
          have hoq4 := HOQ3.out.below (Nat.le_refl _) hx4
          have HOQ4 := Go.Lib.hid hoq4
          clear hoq4
          clear hx4 HOQ3 GP3 HDIFF
          gi_wp2_with fail
          refine ⟨trivial, (callsIn_wide.2 (HAW.out _)).mono ?_⟩
          rintro e P5 ⟨rfl, hx5⟩
          have hoq5 := HOQ4.out.below (Nat.le_refl _) hx5
          have a0 : P5.cell? ⟨w.heap.size + 1 + 1, 0, none⟩ = some (.bool false) := row_cell hoq5.ri.an 0 _ rfl
          have z0 : P5.frozen? ⟨w.heap.size + 1 + 1, 0, none⟩ = false := row_frozen hoq5.ri.an 0
          have hDn : D ≠ w.heap.size + 2 := by have := HTD.out; have := HWT.out; have := HBC.out; have := HCT.out; omega
          have hKZ : (P5.setCell ⟨w.heap.size + 2, 0, none⟩ (.bool true)).heap[D]? = some (.deferred (some [])) := (heap_set_other hoq5.ri.an hDn).trans hoq5.dd
          have g5 : (P5.setCell ⟨w.heap.size + 2, 0, none⟩ (.bool true)).heap[w.heap.size + 2]? = some (.cells #[.bool true] 4 (0, 0)) := heap_set (i := 0) hoq5.ri.an
          have hbZ : Below w.heap.size w (P5.setCell ⟨w.heap.size + 2, 0, none⟩ (.bool true)) := hoq5.ri.hb.setCell (p := ⟨w.heap.size + 2, 0, none⟩) (by show w.heap.size ≤ w.heap.size + 2; omega) _
          have HOQ5 := Go.Lib.hid hoq5
          have HKZ := Go.Lib.hid hKZ
          have G5 := Go.Lib.hid g5
          have HBZ := Go.Lib.hid hbZ
          have HDN := Go.Lib.hid hDn
          clear hoq5 hKZ g5 hbZ hDn
          clear hx5 HOQ4
          gi_wp2_with fail
          have hdd := HDN.out
          have htt := HTD.out
          have hww := HWT.out
          refine ⟨by simp, .inl ⟨_, _, rfl, run_takeDeferred HKZ.out, ?_⟩⟩
          have q8 := (World.putObj_heap_other (w := P5.setCell ⟨w.heap.size + 2, 0, none⟩ (.bool true)) (r := D) (o := .deferred none) (k := w.heap.size + 2) (by omega)).trans G5.out
          refine ⟨_, results_bool rfl _ _ _ _ rfl q8, ?_⟩
          exact ⟨rfl, HBZ.out.trans (belowK_b (w := w) (Nat.le_refl _) _ D _ _ (by omega) HKZ.out rfl rfl)⟩
theorem walk (m : Msg) (q a s d : Value) (stop : Int) (w : World) (hm : MsgL w m q a s d) (hmf : MsgFit m) (_ : Fits stop) :
    Calls Try.prog 5 #[MV m q a s d, .int .i64 stop] w fun e w' => e = .returned (.bool true) ∧ Below w.heap.size w w' := by
  have haw := Go.Lib.hid awake4_any
  cases hb : smallB m 3000 with
  | false => exact t0 m q a s d stop w hm (fun W h => hb ▸ Small_any m _ _ _ _ 3000 W (hm.below h (Nat.le_refl _)) (by decide) hmf.ok) haw
  | true => exact t1 m q a s d stop w hm (smallS (by decide) hb hmf.ok) (fun W h => hb ▸ Small_any m _ _ _ _ 3000 W (hm.below h (Nat.le_refl _)) (by decide) hmf.ok) haw

set_option maxRecDepth 100000 in
theorem lifted (os : Os) (started : os.Started) (H : Type) (enc : TypeId × Value → H) :
    ReturnsInHanded {} Try.checked os 5 .any (Rows.messageRecordsSpec.pre6 enc Try.prog Try.f5 Rows.messageRecordsRow.domain false) (Rows.messageRecordsSpec.post enc Try.prog Try.f5 false true false false) := by
  refine returnsInHanded_of_change (C := Try.checked) own started (by kernel_rfl) Try.func5
    (ChangeSpec.witness6 (enc := enc) (C := Try.checked) false ⟨#[], #[.agg #[.int .i64 0, .bool false, .int .i64 0, .bool false, .bool false, .bool false, .bool false, .int .i64 0, .slice none 0 0, .slice none 0 0, .slice none 0 0, .slice none 0 0, .bool false, .int .i64 0], .int .i64 0], []⟩ 8 (by kernel_rfl) (by kernel_rfl) (by kernel_rfl) (by kernel_rfl)) ?_
  intro W base args ds gs before hval0 hW hcnd _
  have hval : ∀ (j : Nat) t v, Try.f5.params[j]? = some t → args[j]? = some v → Value.okWide Try.prog W .any base t v := hval0
  refine law_post enc 2 (by kernel_rfl) rfl rfl (by kernel_rfl) (fun ds h => match ds, h with | [_, _], _ => rfl) hW ?_
  obtain ⟨p, q, hA0, hV, rfl, _, _⟩ := hW
  have hA : DataW.TrodAll enc Try.prog W 0 (fun _ => true) true Try.f5.params.toList args.toList ds p := hA0
  rw [Try.params5] at hA hval
  obtain ⟨v0, vs0, d0, ds0, p0, q0, hargs, rfl, rfl, h0, r0⟩ := trodAll_cons hA
  obtain ⟨v1, vs1, d1, ds1, p1, q1, rfl, rfl, rfl, h1, r1⟩ := trodAll_cons r0
  obtain ⟨rfl, rfl, rfl⟩ := trodAll_nil r1
  obtain rfl : args = #[v0, v1] := by cases args; simp_all
  obtain ⟨m0, a0, b0, c0, e0, rfl, l0, w0⟩ := open_Msg (hval 0 27 v0 rfl rfl) h0
  obtain ⟨a1, rfl, rfl, rfl, w1⟩ := open_int Try.underlying3 (hval 1 3 v1 rfl rfl) h1
  exact walk m0 a0 b0 c0 e0 a1 W l0 w0 (fits_of_wf w1)

theorem over : Rows.messageRecordsRow.holds Try.pinned (OpenSpec.ofChange Rows.messageRecordsSpec) :=
  OpenClaim.holds_of_wide 5 Try.f5 rfl rfl rfl rfl rfl rfl rfl ⟨rfl, rfl, rfl, rfl, rfl⟩ rfl rfl rfl rfl rfl (by kernel_rfl) Try.func5 (by kernel_rfl)
    (of_decide_eq_true (by kernel_rfl)) (by unfold Func.isWrapper; first | (rw [if_pos (by decide +kernel)]; kernel_rfl) | (rw [if_neg (by decide +kernel)]; exact ⟨rfl, rfl⟩))
    (fun os started H enc _ => lifted os started H enc)

/-- the statement -/
theorem proved : Rows.MessageRecordsSaid := over
#print axioms proved
end Go.Proofs.Ythfhmbooeemaaaa.messageRecords
