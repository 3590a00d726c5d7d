/- match.Sets, and freshetlaw5.groups, which lays by what it gives. -/
import Derived.Test.YtcamopppeanipaaMgC
namespace Go.Proofs.Ytcamopppeanipaa
open Go.RowKit Go.Shelf Go.Sq
set_option linter.unusedVariables false

attribute [local go_sem] Oper.semAt_some

/-- groups with their lists, as cells -/
def encQ (ps : List (Gr × Value)) : List Value := ps.flatMap fun p => [.string (mk p.1.name), .int .i64 p.1.ty, p.2]
theorem encQ_snoc (ps : List (Gr × Value)) (x : Gr × Value) : encQ (ps ++ [x]) = encQ ps ++ [.string (mk x.1.name), .int .i64 x.1.ty, x.2] := by simp [encQ]

/-- a list of groups that can be read -/
def GrpV (w : World) (v : Value) (gs : List Gr) : Prop := ∃ ps : List (Gr × Value), ps.map Prod.fst = gs ∧ SlC w 3 v ps.length (encQ ps) ∧ ∀ x ∈ ps, RRs w x.2 x.1.l
theorem GrpV.below {B : Nat} {w w' : World} {v : Value} {gs : List Gr} (h : GrpV w v gs) (hb : Below B w w') (hB : w.heap.size ≤ B) : GrpV w' v gs := by
  obtain ⟨ps, h1, h2, h3⟩ := h
  exact ⟨ps, h1, h2.below hb hB, fun x hx => (h3 x hx).below hb hB⟩

theorem infoRG : (Try.prog.info? 47).map (fun i => (i.zero, i.size, i.bytes)) = some (some (.agg #[.string ⟨#[]⟩, .int .i64 0, .slice none 0 0]), 3, 48) := by kernel_rfl
theorem eiRG : EI Try.prog 36 47 3 48 := ei_of Try.underlying36 infoRG rfl (by decide)

theorem run_eql_nilFuncS (f : Fn) (l1 l2 : Array Value) (w : World) : (binOp .eql 60 (.func f l1 l2) .nilFunc).run Try.prog w = .ok (.bool false) w := by
  have h : ∀ d : Nat, (Op.equalIn (d + 1) 60 (.func f l1 l2) .nilFunc).run Try.prog w = .ok false w := fun d => by
    simp [Op.equalIn, run_underlying Try.underlying60]
  simp only [binOp]
  simp [Op.equal, Op.maxDepth, h 9999]

theorem Sets_any (a : Option Addr) (n cap : Nat) (w : World) :
    Calls Try.prog 32 #[.slice a n cap] w fun e w' => e = .returned (.func (.func 38) #[] #[.pointer (some ⟨w.heap.size, 0, none⟩)]) ∧ w' = w.alloc (.cells #[.slice a n cap] 25) := by
  go_enter Try.func32, Try.ntmps32
  go_wp2_with fail
  go_ret
  exact ⟨rfl, rfl⟩

/-- the first 'most' of them; below 1: all -/
def walkG (most : Int) (gs : List Gr) : List Gr := if 1 ≤ most ∧ most ≤ gs.length then gs.take most.toNat else gs

/-- what the loop has laid by -/
def GwI (w : World) (most : Int) (pre : List (Gr × Value)) (W : World) : Prop :=
  ((∃ v, Boxed W (w.heap.size + 1) 36 v ∧ W.ownsRow w.heap.size 47 3 v pre.length (encQ pre) ∧ True) ∧ Boxed W w.heap.size 3 (.int .i64 most)) ∧ (∀ x ∈ pre, W.ownsRow w.heap.size 49 5 x.2 x.1.l.length (encR x.1.l)) ∧ Below w.heap.size w W ∧ w.heap.size + 3 ≤ W.heap.size

theorem own_lists {β : Type} (n₀ e size : Nat) (p : β → List (Gr × Value)) : Own (fun s W => ∀ x ∈ p s, W.ownsRow n₀ e size x.2 x.1.l.length (encR x.1.l)) := by
  rintro s X Y row hs hg hrow x hx
  refine (hs x hx).kept hg ?_
  rcases (hs x hx).2 with ⟨h0, _⟩ | ⟨g, cap, cur, h0, _, hgb, _⟩
  · rw [h0]; exact .inl rfl
  · rw [h0]
    refine .inr fun e' => ?_
    obtain ⟨o, ho, hc⟩ := hrow g (by simpa [Value.ownBlock] using e'.symm)
    rw [hgb] at ho; cases ho; cases hc

theorem ownGw (w : World) (most : Int) {B : Nat} (hB : w.heap.size ≤ B) : OwnFrom B (GwI w most) :=
  OwnFrom.and (OwnFrom.and (Own.from (holdsRow_own _ _ _ _ _ (fun pre : List (Gr × Value) => pre.length) encQ (fun _ _ => True)) _) (Own.from (boxed_own _ _ (fun _ => _)) _)) (OwnFrom.and (Own.from (own_lists _ _ _ id) _) (OwnFrom.and (ownFrom_below (Nat.le_refl _) hB) (fun _ _ _ _ hs hg _ => Nat.le_trans hs hg.size)))

/-- the frame and the world behind the loop's assignment -/
def GwA (w : World) (a : Option Addr) (n cap : Nat) (most : Int) (x : Gr × Value) (a' : Act) (W : World) : Prop :=
  ∃ kb, a' = { tmps := #[.slice a n cap, .int .i64 most, undef, .pointer (some ⟨w.heap.size, 0, none⟩), .slice none 0 0, .pointer (some ⟨w.heap.size + 1, 0, none⟩), .func (.func 38) #[] #[.pointer (some ⟨w.heap.size + 1 + 1, 0, none⟩)], .pointer (some ⟨kb, 0, none⟩), x.2, .slice a n cap,
        .func (.func 38) #[] #[.pointer (some ⟨w.heap.size + 1 + 1, 0, none⟩)], .func (.func 38) #[] #[.pointer (some ⟨w.heap.size + 1 + 1, 0, none⟩)], .bool false, .func (.func 38) #[] #[.pointer (some ⟨w.heap.size + 1 + 1, 0, none⟩)], .agg #[.string (mk x.1.name), .int .i64 x.1.ty], x.2, undef, undef, undef, undef, undef, undef, undef, undef, undef, undef, undef], defers := [] } ∧
    W.heap[kb]? = some (.cells #[.string (mk x.1.name), .int .i64 x.1.ty] 45 (0, 0)) ∧ W.ownsRow w.heap.size 49 5 x.2 x.1.l.length (encR x.1.l)
theorem ownGa (w : World) (a : Option Addr) (n cap : Nat) (most : Int) (x : Gr × Value) (a' : Act) (B : Nat) : OwnFrom B (fun (_ : Unit) W => GwA w a n cap most x a' W) := by
  rintro s X Y row ⟨kb, h1, h2, h3⟩ hg hr
  refine ⟨kb, h1, (hg.block kb (Array.getElem?_eq_some_iff.1 h2).1 fun e => ?_).trans h2, ?_⟩
  · obtain ⟨_, o, ho, hc⟩ := hr kb e.symm
    rw [h2] at ho; cases ho; cases hc
  · have := own_lists (β := Unit) w.heap.size 49 5 (fun _ => [x]) () X Y row (by simpa using h3) hg (fun r e => (hr r e).2)
    simpa using this

theorem one_grpS (n : List UInt8) (t : Int) (a : Option Addr) (m c : Nat) : ∀ u ∈ [Value.string (mk n), .int .i64 t, .slice a m c], u.oneCell' = true := by
  intro u hu
  simp at hu
  rcases hu with rfl | rfl | rfl <;> rfl
/-- the lists, behind 'out = append(out, ..)' -/
theorem lists_app {W w1 : World} {base k : Nat} {pre : List (Gr × Value)} {x : Gr × Value} {v u : Value} {xs : List Value} {tmp : Obj} (h : ∀ x ∈ pre, W.ownsRow base 49 5 x.2 x.1.l.length (encR x.1.l)) (hx : W.ownsRow base 49 5 x.2 x.1.l.length (encR x.1.l))
    (hrow : W.ownsRow base 47 3 v k xs) (hg : (W.alloc tmp).grownBy w1 v.ownBlock) (B' : Nat) (v' : Value) (hb : Boxed w1 B' 36 u) :
    ∀ y ∈ pre ++ [x], (w1.setCell ⟨B', 0, none⟩ v').ownsRow base 49 5 y.2 y.1.l.length (encR y.1.l) := by
  intro y hy
  have hy2 : W.ownsRow base 49 5 y.2 y.1.l.length (encR y.1.l) := by
    rcases List.mem_append.1 hy with h1 | h1
    · exact h y h1
    · simp at h1; rw [h1]; exact hx
  have h1 := (hy2.alloc tmp).kept hg (rows_apart hy2 hrow (by decide))
  exact h1.kept (grownBy_setCell' w1 B' v') (.inr (hb.not_row (by decide) h1).symm)
theorem kpt_app {W w1 : World} {base k B : Nat} {v : Value} {xs : List Value} {tmp : Obj} (hv : Boxed W B 36 v) (hrow : W.ownsRow base 47 3 v k xs) (hg : (W.alloc tmp).grownBy w1 v.ownBlock) (v' : Value) :
    KpT IsGrp W (w1.setCell ⟨B, 0, none⟩ v') := by
  have h1 : Boxed w1 B 36 v := (hv.alloc tmp).kept hg (hv.not_row (by decide) hrow)
  refine (KpT.grown ((KpT.refl W).alloc tmp) hg fun j cs T fr hj hh => ?_).set (a := ⟨B, 0, none⟩) h1 (by decide) _
  rcases (hrow.alloc tmp).2 with ⟨h0, _⟩ | ⟨g, cap, cur, h0, _, hgb, _⟩
  · rw [h0] at hj; simp [Value.ownBlock] at hj
  · rw [h0] at hj
    obtain rfl : g = j := by simpa [Value.ownBlock] using hj
    rw [hgb] at hh
    simp only [Option.some.injEq, Obj.cells.injEq] at hh
    rw [← hh.2.1]
    decide

set_option maxRecDepth 100000 in
set_option maxHeartbeats 4000000 in
theorem lawGroups_any (a : Option Addr) (cap : Nat) (l : List Rc.RR) (most : Int) (w : World) (hst : RRs w (.slice a l.length cap) l) (hl : l.length ≤ 1000000) (hok : ∀ r ∈ l, RROk r) :
    Calls Try.prog 21 #[.slice a l.length cap, .int .i64 most] w fun e w' => ∃ v, e = .returned v ∧ GrpV w' v (walkG most (groupsN l)) ∧ Below w.heap.size w w' := by
  have hsets := fun w => Sets_any a l.length cap w
  have hglen := Nat.le_trans (groupsN_length l) hl
  have HSETS := Go.Lib.hid hsets
  clear hsets
  refine (callsIn_wide (n := 6)).1 ?_
  refine callsIn_of_wp_marks Try.func21 rfl trivial ?_ rfl
  simp only [Try.ntmps21, List.size_toArray, List.length_cons, List.length_nil, Nat.reduceAdd, Nat.reduceSub, Array.replicate_succ, Array.replicate_zero, List.push_toArray, List.append_toArray, List.nil_append, List.cons_append]
  gi_wp2_with fail
  refine ⟨trivial, (callsIn_wide.2 (HSETS.out _)).mono ?_⟩
  rintro e w2 ⟨rfl, hw2⟩
  have hnil := run_eql_nilFuncS (.func 38) #[] #[.pointer (some ⟨w.heap.size + 1 + 1, 0, none⟩)]
  have hsz2 : w2.heap.size = w.heap.size + 3 := by rw [hw2]; simp
  have hb2 : Below w.heap.size w w2 := by
    rw [hw2]
    exact (((Below.refl _ w).alloc (Nat.le_refl _) _).alloc (by simp) _).alloc (by simp; omega) _
  have x1 : Boxed w2 w.heap.size 3 (.int .i64 most) := by
    rw [hw2]; exact ((Boxed.new w _ _).alloc _).alloc _
  have x2 : Boxed w2 (w.heap.size + 1) 36 (.slice none 0 0) := by
    rw [hw2]
    have := Boxed.new (w.alloc (.cells #[.int .i64 most] 3)) 36 (.slice none 0 0)
    rw [World.size_alloc] at this
    exact this.alloc _
  have x3 : Boxed w2 (w.heap.size + 1 + 1) 25 (.slice a l.length cap) := by
    rw [hw2]
    have := Boxed.new ((w.alloc (.cells #[.int .i64 most] 3)).alloc (.cells #[.slice none 0 0] 36)) 25 (.slice a l.length cap)
    rw [World.size_alloc, World.size_alloc] at this
    exact this
  have hseq := sets_seq 5 (by omega) _ a cap l w2 (hst.below hb2 (Nat.le_refl _)) hl hok (by rw [hsz2]; omega) x3.cell
  have h0 : GwI w most [] w2 := ⟨⟨⟨_, x2, World.ownsRow_nil _ _ _ _, trivial⟩, x1⟩, by simp, hb2, by omega⟩
  have HSEQ := Go.Lib.hid hseq
  have H0 := Go.Lib.hid h0
  clear hseq h0
  clear x1 x2 x3 hw2 hst
  have HSZ2 := Go.Lib.hid hsz2
  have HB2 := Go.Lib.hid hb2
  have HOK := Go.Lib.hid hok
  clear hsz2 hb2 hok
  gi_wp2_with fail
  refine wpIn_rangeFunc_r rfl (by omega) (gf := 38) (lb := #[.pointer (some ⟨w.heap.size + 1 + 1, 0, none⟩)]) rfl trivial (enters_of Try.func38 (by kernel_rfl) rfl)
    HSEQ.out KpT.trans (fun W l o o' _ h1 h2 _ => KpT.put W l o o' h1 h2) (Below.refl _ _) (fun _ => rfl)
    (fun pre W => GwI w most pre W ∧ (∀ k : Nat, 1 ≤ k → k ≤ pre.length → (k : Int) ≠ most)) (fun c pre W => GwI w most pre W ∧ (c = .exit 0 ∧ 1 ≤ pre.length ∧ (pre.length : Int) = most))
    (OwnFrom.and (ownGw w most (by rw [HSZ2.out]; omega)) (ownFrom_pure _ _))
    (fun _ => OwnFrom.and (ownGw w most (by rw [HSZ2.out]; omega)) (ownFrom_pure _ _))
    ⟨H0.out, fun k h1 h2 => by simp at h2; omega⟩ (GwA w a l.length cap most) (fun x a' => ownGa w a l.length cap most x a' _) ?assign ?body ?done ?stop
  case assign =>
    intro lp pre x W K hi hok hrd hK
    have HK := Go.Lib.hid hK
    clear hK
    have hi1 := (OwnFrom.and (ownGw w most (show w.heap.size ≤ w2.heap.size by rw [HSZ2.out]; omega)) (ownFrom_pure _ (fun pre : List (Gr × Value) => ∀ k : Nat, 1 ≤ k → k ≤ pre.length → (k : Int) ≠ most))).alloc (.cells #[.string (mk x.1.name), .int .i64 x.1.ty] 45) hi
    have hk1 : KeepsFrom w2.heap.size W (W.alloc (.cells #[.string (mk x.1.name), .int .i64 x.1.ty] 45)) := keepsFrom_below ((Below.refl _ W).alloc (Nat.le_refl _) _)
    have hp1 : KpT IsGrp W (W.alloc (.cells #[.string (mk x.1.name), .int .i64 x.1.ty] 45)) := KpT.alloc (KpT.refl W) _
    have ha1 := World.alloc_heap_new W (.cells #[.string (mk x.1.name), .int .i64 x.1.ty] 45)
    have hr1 := World.ownsRow.alloc (owns_base hrd HB2.out.size) (.cells #[.string (mk x.1.name), .int .i64 x.1.ty] 45)
    have HI := Go.Lib.hid hi1
    have HK1 := Go.Lib.hid hk1
    have HP1 := Go.Lib.hid hp1
    have HA1 := Go.Lib.hid ha1
    have HR1 := Go.Lib.hid hr1
    clear hi1 hk1 hp1 ha1 hr1
    clear hi hrd
    unfold encGV
    gi_wp2
    exact HK.out _ _ HK1.out HP1.out HI.out ⟨W.heap.size, rfl, HA1.out, HR1.out⟩
  case body =>
    rintro lp pre x a' W ⟨⟨⟨⟨v, hv, hrow, _⟩, hbm⟩, hls, hbw, hsw⟩, hne⟩ hok ⟨kb, rfl, hkb, hxr⟩
    have hpl : pre.length < 1000000 := by
      have h1 := hok.length_le
      simp at h1
      omega
    have hc := hv.cell
    have hcm := hbm.cell
    have hvl := hv.lt
    have hml := hbm.lt
    have k0 : W.cell? ⟨kb, 0, none⟩ = some (.string (mk x.1.name)) := cell_of_heap hkb 0
    have k1 : W.cell? ⟨kb, 1, none⟩ = some (.int .i64 x.1.ty) := cell_of_heap hkb 1
    have hxk : some kb ≠ v.ownBlock := by
      rcases hrow.2 with ⟨h0, _⟩ | ⟨g, cp, cur, h0, _, hgb, _⟩
      · rw [h0]; simp [Value.ownBlock]
      · rw [h0]
        intro e
        obtain rfl : kb = g := by simpa [Value.ownBlock] using e
        rw [hkb] at hgb
        simp only [Option.some.injEq, Obj.cells.injEq] at hgb
        exact absurd hgb.2.1 (by decide)
    obtain ⟨ax, cx, hxv, _, _⟩ := (SlC.of_owns hxr).slice
    have HV := Go.Lib.hid hv
    have HROW := Go.Lib.hid hrow
    have HBM := Go.Lib.hid hbm
    have HLS := Go.Lib.hid hls
    have HBW := Go.Lib.hid hbw
    have HNE := Go.Lib.hid hne
    have HKB := Go.Lib.hid hkb
    have HXR := Go.Lib.hid hxr
    have HOK2 := Go.Lib.hid hok
    clear hv hrow hbm hls hbw hne hkb hxr hok
    obtain ⟨⟨xn, xt, xl⟩, xv⟩ := x
    simp only at hxv
    subst hxv
    obtain ⟨i0, z0, q1, q2, q3, q4, q5, q6, q7⟩ := eiRG
    have HONE := Go.Lib.hid (one_grpS xn xt ax xl.length cx)
    by_cases hbr : ((pre.length + 1 : Nat) : Int) = most
    · have e1 : (((pre.length : Int) + 1) == most) = true := by rw [beq_iff_eq]; omega
      gi_wp2_with (gi_at_builtin; refine wpListIn_append_own _ rfl _ _ 36 rfl w.heap.size 47 i0 z0 3 48 q1 q2 q3 q4 q5 q6 q7 _ _ _ rfl (HROW.out.alloc _) ⟨W.heap.size, 0, none⟩ 1 1 [.string (mk xn), .int .i64 xt, .slice ax xl.length cx] rfl rfl (new_cells _ _ _) HONE.out (by unfold maxLen; omega) (by omega) (by simp; omega) ?_; intro v' w1 hown' hgrow _; obtain ⟨g', cap', rfl⟩ := ownsRow_succ hown'; obtain ⟨hv1, hv2, hr2, hk2, hb2⟩ := Boxed.appended HV.out (by decide) HROW.out (show w.heap.size ≤ W.heap.size by omega) (Nat.le_succ _) hown' hgrow; have hc1 := hv1.cell; have hf1 := hv1.frozen; have hc2 := hv2.cell; have hm2 := boxed_app_other HBM.out (by decide) (by omega) HROW.out hgrow (B := w.heap.size + 1) (v' := .slice (some ⟨g', 0, none⟩) (pre.length + 1) cap'); have hm3 := hm2.cell; have hls2 := lists_app (x := (⟨xn, xt, xl⟩, .slice ax xl.length cx)) HLS.out HXR.out HROW.out hgrow (w.heap.size + 1) (.slice (some ⟨g', 0, none⟩) (pre.length + 1) cap') hv1; have hkp2 := kpt_app HV.out HROW.out hgrow (.slice (some ⟨g', 0, none⟩) (pre.length + 1) cap'); have HR2 := Go.Lib.hid hr2; clear hr2; have HK2 := Go.Lib.hid hk2; clear hk2; have HB3 := Go.Lib.hid hb2; clear hb2; have HM2 := Go.Lib.hid hm2; clear hm2; have HLS2 := Go.Lib.hid hls2; clear hls2; have HKP2 := Go.Lib.hid hkp2; clear hkp2; have HOWN' := Go.Lib.hid hown'; clear hown'; have HGROW := Go.Lib.hid hgrow; clear hgrow; have HV2 := Go.Lib.hid hv2; clear hv2)
      have hlen2 : (pre ++ [((⟨xn, xt, xl⟩ : Gr), Value.slice ax xl.length cx)]).length = pre.length + 1 := by simp
      refine ⟨HK2.out.from _, ⟨⟨⟨_, HV2.out, by rw [hlen2, encQ_snoc]; exact HR2.out, trivial⟩, HM2.out⟩, HLS2.out, HBW.out.trans HB3.out, Nat.le_trans hsw HB3.out.size⟩, rfl, by omega, by rw [hlen2]; exact hbr⟩
    · have e1 : (((pre.length : Int) + 1) == most) = false := by rw [beq_eq_false_iff_ne]; omega
      gi_wp2_with (gi_at_builtin; refine wpListIn_append_own _ rfl _ _ 36 rfl w.heap.size 47 i0 z0 3 48 q1 q2 q3 q4 q5 q6 q7 _ _ _ rfl (HROW.out.alloc _) ⟨W.heap.size, 0, none⟩ 1 1 [.string (mk xn), .int .i64 xt, .slice ax xl.length cx] rfl rfl (new_cells _ _ _) HONE.out (by unfold maxLen; omega) (by omega) (by simp; omega) ?_; intro v' w1 hown' hgrow _; obtain ⟨g', cap', rfl⟩ := ownsRow_succ hown'; obtain ⟨hv1, hv2, hr2, hk2, hb2⟩ := Boxed.appended HV.out (by decide) HROW.out (show w.heap.size ≤ W.heap.size by omega) (Nat.le_succ _) hown' hgrow; have hc1 := hv1.cell; have hf1 := hv1.frozen; have hc2 := hv2.cell; have hm2 := boxed_app_other HBM.out (by decide) (by omega) HROW.out hgrow (B := w.heap.size + 1) (v' := .slice (some ⟨g', 0, none⟩) (pre.length + 1) cap'); have hm3 := hm2.cell; have hls2 := lists_app (x := (⟨xn, xt, xl⟩, .slice ax xl.length cx)) HLS.out HXR.out HROW.out hgrow (w.heap.size + 1) (.slice (some ⟨g', 0, none⟩) (pre.length + 1) cap') hv1; have hkp2 := kpt_app HV.out HROW.out hgrow (.slice (some ⟨g', 0, none⟩) (pre.length + 1) cap'); have HR2 := Go.Lib.hid hr2; clear hr2; have HK2 := Go.Lib.hid hk2; clear hk2; have HB3 := Go.Lib.hid hb2; clear hb2; have HM2 := Go.Lib.hid hm2; clear hm2; have HLS2 := Go.Lib.hid hls2; clear hls2; have HKP2 := Go.Lib.hid hkp2; clear hkp2; have HOWN' := Go.Lib.hid hown'; clear hown'; have HGROW := Go.Lib.hid hgrow; clear hgrow; have HV2 := Go.Lib.hid hv2; clear hv2)
      have hlen2 : (pre ++ [((⟨xn, xt, xl⟩ : Gr), Value.slice ax xl.length cx)]).length = pre.length + 1 := by simp
      refine ⟨HK2.out.from _, HKP2.out, ⟨⟨⟨_, HV2.out, by rw [hlen2, encQ_snoc]; exact HR2.out, trivial⟩, HM2.out⟩, HLS2.out, HBW.out.trans HB3.out, Nat.le_trans hsw HB3.out.size⟩, fun k h1 h2 => ?_⟩
      rw [hlen2] at h2
      rcases Nat.lt_or_ge k (pre.length + 1) with h3 | h3
      · exact HNE.out k h1 (by omega)
      · obtain rfl : k = pre.length + 1 := by omega
        exact hbr
  case done =>
    rintro D ys W hD hys ⟨⟨⟨⟨v, hv, hrow, _⟩, hbm⟩, hls, hbw, hsw⟩, hne⟩ hK
    have hc := hv.cell
    have hyl : ys.length = (groupsN l).length := by rw [← hys, List.length_map]
    have HV := Go.Lib.hid hv
    have HROW := Go.Lib.hid hrow
    have HBM := Go.Lib.hid hbm
    have HLS := Go.Lib.hid hls
    have HBW := Go.Lib.hid hbw
    have HNE := Go.Lib.hid hne
    have HK := Go.Lib.hid hK
    have HYS := Go.Lib.hid hys
    have HDD := Go.Lib.hid hD
    clear hv hrow hbm hls hbw hne hK hys hD
    gi_wp2_with fail
    refine ⟨by simp, .inl ⟨_, _, rfl, run_takeDeferred HK.out, ?_⟩⟩
    refine ⟨_, results_tmp rfl _ _ _, v, rfl, ?_, HBW.out.trans (belowK_b (w := w) (Nat.le_refl _) W D _ _ (by have := HDD.out; rw [HSZ2.out] at this; omega) HK.out rfl rfl)⟩
    have he : walkG most (groupsN l) = groupsN l := by
      unfold walkG
      rw [if_neg]
      rintro ⟨h1, h2⟩
      exact HNE.out most.toNat (by omega) (by omega) (by omega)
    rw [he]
    exact ⟨ys, HYS.out, SlC.of_owns (ownsRow_putObj HROW.out _ HK.out rfl), fun x hx => SlC.of_owns (ownsRow_putObj (HLS.out x hx) _ HK.out rfl)⟩
  case stop =>
    rintro D c pre W hD hpre ⟨⟨⟨⟨v, hv, hrow, _⟩, hbm⟩, hls, hbw, hsw⟩, rfl, hp1, hpm⟩ hK
    have hc := hv.cell
    have HV := Go.Lib.hid hv
    have HROW := Go.Lib.hid hrow
    have HBM := Go.Lib.hid hbm
    have HLS := Go.Lib.hid hls
    have HBW := Go.Lib.hid hbw
    have HK := Go.Lib.hid hK
    have HPRE := Go.Lib.hid hpre
    have HPM := Go.Lib.hid hpm
    have HDD := Go.Lib.hid hD
    clear hv hrow hbm hls hbw hK hpre hpm hD
    gi_wp2_with fail
    refine ⟨by simp, .inl ⟨_, _, rfl, run_takeDeferred HK.out, ?_⟩⟩
    refine ⟨_, results_tmp rfl _ _ _, v, rfl, ?_, HBW.out.trans (belowK_b (w := w) (Nat.le_refl _) W D _ _ (by have := HDD.out; rw [HSZ2.out] at this; omega) HK.out rfl rfl)⟩
    have he : walkG most (groupsN l) = pre.map Prod.fst := by
      have h1 := HPRE.out.length_le
      have h2 := HPM.out
      rw [List.length_map] at h1
      unfold walkG
      rw [if_pos ⟨by omega, by omega⟩, ← h2]
      have := (List.prefix_iff_eq_take.1 HPRE.out).symm
      rw [List.length_map] at this
      exact this
    rw [he]
    exact ⟨pre, rfl, SlC.of_owns (ownsRow_putObj HROW.out _ HK.out rfl), fun x hx => SlC.of_owns (ownsRow_putObj (HLS.out x hx) _ HK.out rfl)⟩
end Go.Proofs.Ytcamopppeanipaa

