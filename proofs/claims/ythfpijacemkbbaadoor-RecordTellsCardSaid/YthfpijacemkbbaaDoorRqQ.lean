/- The contract of the law package's parts: a range over record.Names whose rounds append. -/
import Derived.Test.YthfpijacemkbbaaDoorRpA
import Derived.Test.YthfpijacemkbbaaDoorRqI
namespace Go.Proofs.YthfpijacemkbbaaDoor
open Go.RowKit Go.Shelf Go.Sq
set_option linter.unusedVariables false

attribute [local go_sem] Oper.semAt_some

theorem run_eql_nilFuncP (f : Fn) (l1 l2 : Array Value) (w : World) : (binOp .eql 55 (.func f l1 l2) .nilFunc).run Tryd.prog w = .ok (.bool false) w := by
  have h : ∀ d : Nat, (Op.equalIn (d + 1) 55 (.func f l1 l2) .nilFunc).run Tryd.prog w = .ok false w := fun d => by
    simp [Op.equalIn, run_underlying Tryd.underlying55]
  simp only [binOp]
  simp [Op.equal, Op.maxDepth, h 9999]
/-- what each round leaves as it was -/
theorem kpt_appP {W w1 : World} {base k B : Nat} {v : Value} {xs : List Value} {tmp : Obj} (hv : Boxed W B 25 v) (hrow : W.ownsRow base 34 2 v k xs) (hg : (W.alloc tmp).grownBy w1 v.ownBlock) (v' : Value) :
    KpT IsPlace W (w1.setCell ⟨B, 0, none⟩ v') := by
  have h1 : Boxed w1 B 25 v := (hv.alloc tmp).kept hg (hv.not_row (by decide) hrow)
  refine (KpT.grown ((KpT.refl W).alloc tmp) hg fun j cs T fr hj hh => ?_).set (a := ⟨B, 0, none⟩) h1 (by decide) _
  rcases (hrow.alloc tmp).2 with ⟨h0, _⟩ | ⟨g, cap, cur, h0, _, hgb, _⟩
  · rw [h0] at hj; simp [Value.ownBlock] at hj
  · rw [h0] at hj
    obtain rfl : g = j := by simpa [Value.ownBlock] using hj
    rw [hgb] at hh
    simp only [Option.some.injEq, Obj.cells.injEq] at hh
    rw [← hh.2.1]
    decide
theorem new_cellsP (W : World) (cs : List Value) (T : TypeId) : ∀ j u, cs[j]? = some u → (W.alloc (.cells cs.toArray T)).cell? ((⟨W.heap.size, 0, none⟩ : Addr).add j) = some u := fun j u h => by
  rw [Addr.add_lit, World.cell?_alloc_at (hn := rfl)]
  simpa using h

/-- what the loop has laid by -/
def PartI (w : World) (pre : List (Nat × Nat)) (W : World) : Prop :=
  (∃ v, Boxed W w.heap.size 25 v ∧ W.ownsRow w.heap.size 34 2 v pre.length (encP pre) ∧ True) ∧ Below w.heap.size w W ∧ w.heap.size + 3 ≤ W.heap.size

abbrev fnN (N : Nat) : Value := .func (.func 60) #[] #[.pointer (some ⟨N + 1, 0, none⟩), .pointer (some ⟨N + 1 + 1, 0, none⟩)]
abbrev frP (t : Int) (s : ByteArray) (N : Nat) (x : Nat × Nat) : Act := { tmps := #[.int .i64 t, .string s, undef, undef, .slice none 0 0, .pointer (some ⟨N, 0, none⟩), fnN N, .int .i64 (x.1 : Int), .int .i64 (x.2 : Int), .int .i64 t, .string s, fnN N, fnN N, .bool false, fnN N,
  .int .i64 (x.1 : Int), .int .i64 (x.2 : Int), undef, undef, undef, undef, undef, undef, undef], defers := [] }
set_option maxRecDepth 100000 in
set_option maxHeartbeats 4000000 in
theorem parts_any (t : Int) (s : ByteArray) (w : World) (hs : s.size ≤ maxLen) :
    Calls Tryd.prog 11 #[.int .i64 t, .string s] w fun e w' => ∃ v, e = .returned v ∧ Pairs w' v ((Rc.partsN t (bl s)).getD []) ∧ Below w.heap.size w w' := by
  have hlen : ((Rc.partsN t (bl s)).getD []).length ≤ 2 := by
    cases h : Rc.partsN t (bl s) with
    | none => simp
    | some l => exact (Rc.partsN_chain h).2
  have hnm := fun w => Names_any t s w
  have HNM := Go.Lib.hid hnm
  clear hnm
  refine (callsIn_wide (n := 6)).1 ?_
  refine callsIn_of_wp_marks Tryd.func11 rfl trivial ?_ rfl
  simp only [Tryd.ntmps11, List.size_toArray, List.length_cons, List.length_nil, Nat.reduceAdd, Nat.reduceSub, Array.replicate_succ, Array.replicate_zero, List.push_toArray, List.append_toArray, List.nil_append, List.cons_append]
  gi_wp2_with fail
  refine ⟨trivial, (callsIn_wide.2 (HNM.out _)).mono ?_⟩
  rintro e w2 ⟨rfl, hw2⟩
  have hnil := run_eql_nilFuncP (.func 60) #[] #[.pointer (some ⟨w.heap.size + 1, 0, none⟩), .pointer (some ⟨w.heap.size + 1 + 1, 0, none⟩)]
  have hsz2 : w2.heap.size = w.heap.size + 3 := by rw [hw2]; simp
  have hb2 : Below w.heap.size w w2 := by
    rw [hw2]
    exact ((((Below.refl _ w).alloc (Nat.le_refl _) _).alloc (by simp) _).alloc (by simp; omega) _)
  have x1 : Boxed w2 w.heap.size 25 (.slice none 0 0) := by
    rw [hw2]; exact ((Boxed.new w _ _).alloc _).alloc _
  have x4 : Boxed w2 (w.heap.size + 1) 3 (.int .i64 t) := by
    rw [hw2]
    have := Boxed.new (w.alloc (.cells #[.slice none 0 0] 25)) 3 (.int .i64 t)
    rw [World.size_alloc] at this
    exact this.alloc _
  have x5 : Boxed w2 (w.heap.size + 1 + 1) 9 (.string s) := by
    rw [hw2]
    have := Boxed.new ((w.alloc (.cells #[.slice none 0 0] 25)).alloc (.cells #[.int .i64 t] 3)) 9 (.string s)
    rw [World.size_alloc, World.size_alloc] at this
    exact this
  have hseq := names_seq 5 (by omega) _ _ t s hs w2 (by rw [hsz2]; omega) (by rw [hsz2]; omega) x4.cell x5.cell
  have h0 : PartI w [] w2 := ⟨⟨_, x1, World.ownsRow_nil _ _ _ _, trivial⟩, hb2, by omega⟩
  have HSEQ := Go.Lib.hid hseq
  have H0 := Go.Lib.hid h0
  clear hseq h0
  clear x1 x4 x5 hw2
  have HSZ2 := Go.Lib.hid hsz2
  have HB2 := Go.Lib.hid hb2
  clear hsz2 hb2
  gi_wp2_with fail
  refine wpIn_rangeFunc_ok rfl (by omega) (gf := 60) (lb := #[.pointer (some ⟨w.heap.size + 1, 0, none⟩), .pointer (some ⟨w.heap.size + 1 + 1, 0, none⟩)]) rfl trivial (enters_of Tryd.func60 (by kernel_rfl) rfl)
    HSEQ.out KpT.trans (fun W l o o' _ h1 h2 _ => KpT.put W l o o' h1 h2) (Below.refl _ _) (fun _ => rfl)
    (PartI w) (fun _ _ _ => False)
    (OwnFrom.and (Own.from (holdsRow_own _ _ _ _ _ (fun pre : List (Nat × Nat) => pre.length) encP (fun _ _ => True)) _) (OwnFrom.and (ownFrom_below (Nat.le_refl _) (by rw [HSZ2.out]; omega)) (fun _ _ _ _ hs hg _ => Nat.le_trans hs hg.size)))
    (fun _ _ _ _ _ h _ _ => h) H0.out (fun x a' _ => a' = frP t s w.heap.size x) (fun _ _ _ _ _ _ hs _ _ => hs) ?assign ?body ?done ?stop
  case assign =>
    intro l pre x W K hi hok hK
    have HK := Go.Lib.hid hK
    have HI := Go.Lib.hid hi
    clear hK hi
    unfold encPair
    gi_wp2
    exact HK.out _ _ (KeepsFrom.refl _ _) (KpT.refl _) HI.out rfl
  case body =>
    rintro l pre x a' W ⟨⟨v, hv, hrow, _⟩, hbw, hsw⟩ hok rfl
    have hpl : pre.length < 2 := by
      have h1 := hok.length_le
      simp at h1
      omega
    have hc := hv.cell
    obtain ⟨xa, xn⟩ := x
    obtain ⟨i0, z0, q1, q2, q3, q4, q5, q6, q7⟩ := eiPt
    have HONE := Go.Lib.hid (one_pair xa xn)
    have HV := Go.Lib.hid hv
    have HROW := Go.Lib.hid hrow
    have HBW := Go.Lib.hid hbw
    have HOK := Go.Lib.hid hok
    clear hv hrow hbw hok
    gi_wp2_with (gi_at_builtin; refine wpListIn_append_own _ rfl _ _ 25 rfl w.heap.size 34 i0 z0 2 16 q1 q2 q3 q4 q5 q6 q7 _ _ _ rfl (HROW.out.alloc _) ⟨W.heap.size, 0, none⟩ 1 1 [.int .i64 (xa : Int), .int .i64 (xn : Int)] rfl rfl (new_cellsP _ _ _) HONE.out (by unfold maxLen; omega) (by omega) (by simp; omega) ?_; intro v' w1 hown' hgrow _; obtain ⟨g', cap', rfl⟩ := ownsRow_succ hown'; obtain ⟨hv1, hv2, hr2, hk2, hb2⟩ := Boxed.appended HV.out (by decide) HROW.out (show w.heap.size ≤ W.heap.size by omega) (Nat.le_refl _) hown' hgrow; have hc1 := hv1.cell; have hf1 := hv1.frozen; have hc2 := hv2.cell; have hkp2 := kpt_appP HV.out HROW.out hgrow (.slice (some ⟨g', 0, none⟩) (pre.length + 1) cap'); have HR2 := Go.Lib.hid hr2; clear hr2; have HK2 := Go.Lib.hid hk2; clear hk2; have HB3 := Go.Lib.hid hb2; clear hb2; have HKP2 := Go.Lib.hid hkp2; clear hkp2; have HOWN' := Go.Lib.hid hown'; clear hown'; have HGROW := Go.Lib.hid hgrow; clear hgrow; have HV2 := Go.Lib.hid hv2; clear hv2)
    have hlen2 : (pre ++ [(xa, xn)]).length = pre.length + 1 := by simp
    refine ⟨HK2.out.from _, HKP2.out, ⟨_, HV2.out, by rw [hlen2, encP_snoc]; exact HR2.out, trivial⟩, HBW.out.trans HB3.out, Nat.le_trans hsw HB3.out.size⟩
  case done =>
    rintro D ys W hD hys ⟨⟨v, hv, hrow, _⟩, hbw, hsw⟩ hK
    have hc := hv.cell
    have HV := Go.Lib.hid hv
    have HROW := Go.Lib.hid hrow
    have HBW := Go.Lib.hid hbw
    have HK := Go.Lib.hid hK
    have HYS := Go.Lib.hid hys
    have HDD := Go.Lib.hid hD
    clear hv hrow hbw hK hys hD
    gi_wp2_with fail
    refine ⟨by simp, .inl ⟨_, _, rfl, run_takeDeferred HK.out, ?_⟩⟩
    refine ⟨_, results_tmp rfl _ _ _, v, rfl, ?_, HBW.out.trans (belowK_b (w := w) (Nat.le_refl _) W D _ _ (by have := HDD.out; rw [HSZ2.out] at this; omega) HK.out rfl rfl)⟩
    rw [← HYS.out]
    exact SlC.of_owns (ownsRow_putObj HROW.out _ HK.out rfl)
  case stop => exact fun _ _ _ _ _ _ h _ => h.elim
end Go.Proofs.YthfpijacemkbbaaDoor

