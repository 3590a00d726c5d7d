/- The contracts of name.Labels and of freshetlaw1.walk: a name's first labels. -/
import Derived.Test.YtfmhmhekildfbaaSeqS
import Derived.Test.YtfmhmhekildfbaaNameI
namespace Go.Proofs.Ytfmhmhekildfbaa
open Go.RowKit Go.Shelf

attribute [local go_sem] Oper.semAt_some

/-- an iterator over texts, behind a call of world w -/
def SeqStrs (w : World) (ls : List (List UInt8)) (e : Ending) (w' : World) : Prop :=
  ∃ Bs sv, e = .returned (.func (.func 57) #[] #[.pointer (some ⟨Bs, 0, none⟩)]) ∧ Bs < w'.heap.size ∧ w'.cell? ⟨Bs, 0, none⟩ = some sv ∧ StrsIn w.heap.size w'.heap.size w' sv ls ∧ Below w.heap.size w w'

theorem strsIn_owns {w : World} {lo e : Nat} {v : Value} {ls : List (List UInt8)} (h : w.ownsRow lo e 1 v ls.length (encS ls)) : StrsIn lo w.heap.size w v ls := by
  have hs := SlC.of_owns h
  rcases h.2 with ⟨rfl, h0⟩ | ⟨g, cap, cur, rfl, hb, hg, _⟩
  · exact .inl ⟨rfl, List.eq_nil_of_length_eq_zero h0⟩
  · refine .inr ⟨g, 0, cap, rfl, hb, (Array.getElem?_eq_some_iff.1 hg).1, fun j hj => ?_⟩
    obtain ⟨_, a, c, he, _, _, _, hc⟩ := hs
    rcases hc with h0 | ⟨b, off, hx, _, hcell⟩
    · omega
    · simp only [Value.slice.injEq] at he
      obtain ⟨he1, _, _⟩ := he
      rw [hx] at he1
      simp only [Option.some.injEq, Addr.mk.injEq] at he1
      obtain ⟨rfl, rfl, _⟩ := he1
      have := hcell j (by simpa using hj)
      rw [this]
      simp [encS, hj]

set_option maxRecDepth 100000 in
theorem Labels_seq (s : ByteArray) (w : World) (hs : s.size ≤ maxLen) :
    Calls Try.prog 40 #[.string s] w (SeqStrs w (Nm.labs (bl s))) := by
  have hl := labels_own s w hs
  have HL := Go.Lib.hid hl
  clear hl hs
  generalize Nm.labs (bl s) = ls at *
  go_enter Try.func40, Try.ntmps40
  go_wp2_with fail
  refine HL.out.mono ?_
  rintro e w1 ⟨v, rfl, hown, hb⟩
  obtain ⟨a, cap, rfl, _, _⟩ := (strs_owned hown).slice
  have HS := Go.Lib.hid (strsIn_owns hown)
  have HB := Go.Lib.hid hb
  clear hown hb
  go_wp2_with fail
  refine (valuesS_any _ _ _ _).mono ?_
  rintro e w2 ⟨rfl, rfl⟩
  go_wp2_with fail
  go_ret
  refine ⟨_, _, rfl, by simp, (Boxed.new w1 _ _).cell, ?_, HB.out.alloc HB.out.size _⟩
  rcases HS.out with h | ⟨b, off, c, h1, h2, h3, h4⟩
  · exact .inl h
  · refine .inr ⟨b, off, c, h1, h2, by simp; omega, fun j hj => ?_⟩
    rw [((Below.refl w1.heap.size w1).alloc (Nat.le_refl _) _).cell (p := ⟨b, off + j, none⟩) h3]
    exact h4 j hj

theorem run_eql_nilFunc (f : Fn) (l1 l2 : Array Value) (w : World) : (binOp .eql 55 (.func f l1 l2) .nilFunc).run Try.prog w = .ok (.bool false) w := by
  have h : ∀ d : Nat, (Op.equalIn (d + 1) 55 (.func f l1 l2) .nilFunc).run Try.prog w = .ok false w := fun d => by
    simp [Op.equalIn, run_underlying Try.underlying55]
  simp only [binOp]
  simp [Op.equal, Op.maxDepth, h 9999]

/-- the first 'most' of them; below 1: all -/
def walkL (most : Int) (ls : List (List UInt8)) : List (List UInt8) := if 1 ≤ most ∧ most ≤ ls.length then ls.take most.toNat else ls

set_option maxRecDepth 100000 in
set_option maxHeartbeats 4000000 in
theorem walk_any (s : ByteArray) (most : Int) (w : World) (hs : s.size ≤ maxLen) :
    Calls Try.prog 17 #[.string s, .int .i64 most] w (RetStrs w (walkL most (Nm.labs (bl s)))) := by
  have hl := fun w => Labels_seq s w hs
  have hle := labs_le (bl s)
  have HL := Go.Lib.hid hl
  clear hl hs
  generalize Nm.labs (bl s) = ls at *
  refine (callsIn_wide (n := 5)).1 ?_
  refine callsIn_of_wp_marks Try.func17 rfl trivial ?_ rfl
  simp only [Try.ntmps17, List.size_toArray, List.length_cons, List.length_nil, Nat.reduceAdd, Nat.reduceSub, Array.replicate_succ, Array.replicate_zero, List.push_toArray, List.append_toArray, List.nil_append, List.cons_append]
  gi_wp2_with fail
  refine ⟨trivial, (callsIn_wide.2 (HL.out _)).mono ?_⟩
  rintro e w2 ⟨Bs, sv, rfl, hBs, hcs, hst, hb⟩
  have HCS := Go.Lib.hid hcs
  have HST := Go.Lib.hid hst
  have HB := Go.Lib.hid hb
  clear hcs hst hb
  have hnil := run_eql_nilFunc (.func 57) #[] #[.pointer (some ⟨Bs, 0, none⟩)]
  gi_wp2_with fail
  have hsz := HB.out.size
  simp only [World.size_alloc] at hsz
  have bO := Boxed.new (w.alloc (.cells #[.int .i64 most] 3)) 23 (.slice none 0 0)
  rw [World.size_alloc] at bO
  have bM := (Boxed.new w 3 (.int .i64 most)).alloc (.cells #[.slice none 0 0] 23)
  have bO2 : Boxed w2 (w.heap.size + 1) 23 (.slice none 0 0) := (HB.out.block _ (by simp)).trans bO
  have bM2 : Boxed w2 w.heap.size 3 (.int .i64 most) := (HB.out.block _ (by simp; omega)).trans bM
  have hB0 : Below w.heap.size w w2 := (((Below.refl _ w).alloc (Nat.le_refl _) _).alloc (by simp) _).trans (HB.out.mono (by simp; omega))
  have BO2 := Go.Lib.hid bO2
  have BM2 := Go.Lib.hid bM2
  have HB0 := Go.Lib.hid hB0
  clear bO bM bO2 bM2 hB0
  have hst2 : StrsIn (w.heap.size + 1 + 1) w2.heap.size w2 sv ls := by simpa using HST.out
  refine wpIn_rangeFunc_ownG rfl (by omega) (gf := 57) (lb := #[.pointer (some ⟨Bs, 0, none⟩)]) rfl trivial (enters_of Try.func57 (by kernel_rfl) rfl)
    (valuesS_stops 4 (by omega) Bs (w.heap.size + 1 + 1) w2.heap.size sv ls (by omega) w2 hBs (Nat.le_refl _) HCS.out hst2) Kr.trans (Kr.put (Nat.le_refl _)) (Below.refl _ _) (fun _ => rfl)
    (fun pre W => ((∃ v, Boxed W (w.heap.size + 1) 23 v ∧ W.ownsRow w2.heap.size 9 1 v pre.length (encS pre) ∧ True) ∧ Boxed W w.heap.size 3 (.int .i64 most)) ∧ (∀ k : Nat, 1 ≤ k → k ≤ pre.length → (k : Int) ≠ most) ∧ Below w.heap.size w W ∧ w2.heap.size ≤ W.heap.size)
    (fun c pre W => (∃ v, Boxed W (w.heap.size + 1) 23 v ∧ W.ownsRow w2.heap.size 9 1 v pre.length (encS pre) ∧ True) ∧ (c = .exit 0 ∧ 1 ≤ pre.length ∧ (pre.length : Int) = most) ∧ Below w.heap.size w W)
    (OwnFrom.and (OwnFrom.and (Own.from (holdsRow_own _ _ _ _ _ (fun pre : List (List UInt8) => pre.length) encS (fun _ _ => True)) _) (Own.from (boxed_own _ _ (fun _ => _)) _)) (OwnFrom.and (ownFrom_pure _ _) (OwnFrom.and (ownFrom_below (Nat.le_refl _) HB0.out.size) (fun s A B row hs hg _ => Nat.le_trans hs hg.size))))
    (fun c => OwnFrom.and (Own.from (holdsRow_own _ _ _ _ _ (fun pre : List (List UInt8) => pre.length) encS (fun _ _ => True)) _) (OwnFrom.and (ownFrom_pure _ _) (ownFrom_below (Nat.le_refl _) HB0.out.size)))
    ⟨⟨⟨_, BO2.out, World.ownsRow_nil _ _ _ _, trivial⟩, BM2.out⟩, fun k h1 h2 => by simp at h2; omega, HB0.out, Nat.le_refl _⟩
    (fun x => { tmps := #[.string s, .int .i64 most, undef, .pointer (some ⟨w.heap.size, 0, none⟩), .slice none 0 0, .pointer (some ⟨w.heap.size + 1, 0, none⟩), .func (.func 57) #[] #[.pointer (some ⟨Bs, 0, none⟩)], .string (mk x), .string s,
        .func (.func 57) #[] #[.pointer (some ⟨Bs, 0, none⟩)], .func (.func 57) #[] #[.pointer (some ⟨Bs, 0, none⟩)], .bool false, .func (.func 57) #[] #[.pointer (some ⟨Bs, 0, none⟩)], .string (mk x), undef, undef, undef, undef, undef, undef, undef, undef, undef], defers := [] }) ?assign ?body ?done ?stop
  case assign =>
    intro l x W K hK
    gi_wp2
    exact hK
  case body =>
    rintro l pre x W ⟨⟨⟨v, hv, hrow, _⟩, hbm⟩, hne, hbw, hsw⟩ hlt
    have hc := hv.cell
    have HV := Go.Lib.hid hv
    have HROW := Go.Lib.hid hrow
    have HBM := Go.Lib.hid hbm
    have HNE := Go.Lib.hid hne
    have HBW := Go.Lib.hid hbw
    clear hv hrow hbm hne hbw
    obtain ⟨i0, hi, hz0, hz1, hz2⟩ := info_parts infoS
    have hpl : pre.length < 255 := by omega
    by_cases hbr : ((pre.length + 1 : Nat) : Int) = most
    · have e1 : (((pre.length : Int) + 1) == most) = true := by rw [beq_iff_eq]; omega
      gi_wp2_with (gi_at_builtin; refine wpListIn_append_own _ rfl _ _ 23 rfl w2.heap.size 9 i0 _ 1 16 Try.underlying23 hi hz0 hz1 hz2 rfl (by decide) _ _ _ rfl (HROW.out.alloc _) ⟨W.heap.size, 0, none⟩ 1 1 [.string (mk x)] rfl rfl (cell_one_new _ _ _) (by simp [Value.oneCell']) (by unfold maxLen; omega) (by omega) (by simp; omega) ?_; intro v' w1 hown' hgrow _; obtain ⟨g', cap', rfl⟩ := ownsRow_succ hown'; obtain ⟨hv1, hv2, hr2, hk2, hb2, hkr⟩ := boxed_app (lo := w.heap.size + 1 + 1) HV.out (by decide) HROW.out hsw (Nat.le_trans (by omega) hsz) (Nat.le_succ _) (Nat.lt_succ_self _) hown' hgrow; have hc1 := hv1.cell; have hf1 := hv1.frozen; have hc2 := hv2.cell; have hm2 := (boxed_app_other HBM.out (by decide) (by omega) HROW.out hgrow (B := w.heap.size + 1) (v' := .slice (some ⟨g', 0, none⟩) (pre.length + 1) cap')).cell)
      have hlen2 : (pre ++ [x]).length = pre.length + 1 := by simp
      refine ⟨hk2.from _, ⟨_, hv2, by rw [hlen2, encS_snoc]; exact hr2, trivial⟩, ⟨rfl, by omega, by rw [hlen2]; exact hbr⟩, HBW.out.trans hb2⟩
    · have e1 : (((pre.length : Int) + 1) == most) = false := by rw [beq_eq_false_iff_ne]; omega
      gi_wp2_with (gi_at_builtin; refine wpListIn_append_own _ rfl _ _ 23 rfl w2.heap.size 9 i0 _ 1 16 Try.underlying23 hi hz0 hz1 hz2 rfl (by decide) _ _ _ rfl (HROW.out.alloc _) ⟨W.heap.size, 0, none⟩ 1 1 [.string (mk x)] rfl rfl (cell_one_new _ _ _) (by simp [Value.oneCell']) (by unfold maxLen; omega) (by omega) (by simp; omega) ?_; intro v' w1 hown' hgrow _; obtain ⟨g', cap', rfl⟩ := ownsRow_succ hown'; obtain ⟨hv1, hv2, hr2, hk2, hb2, hkr⟩ := boxed_app (lo := w.heap.size + 1 + 1) HV.out (by decide) HROW.out hsw (Nat.le_trans (by omega) hsz) (Nat.le_succ _) (Nat.lt_succ_self _) hown' hgrow; have hc1 := hv1.cell; have hf1 := hv1.frozen; have hc2 := hv2.cell; have hm2 := (boxed_app_other HBM.out (by decide) (by omega) HROW.out hgrow (B := w.heap.size + 1) (v' := .slice (some ⟨g', 0, none⟩) (pre.length + 1) cap')).cell)
      have hlen2 : (pre ++ [x]).length = pre.length + 1 := by simp
      refine ⟨hk2.from _, hkr, ⟨⟨⟨_, hv2, by rw [hlen2, encS_snoc]; exact hr2, trivial⟩, boxed_app_other HBM.out (by decide) (by omega) HROW.out hgrow⟩, fun k h1 h2 => ?_, HBW.out.trans hb2, Nat.le_trans hsw hb2.size⟩⟩
      rw [hlen2] at h2
      rcases Nat.lt_or_ge k (pre.length + 1) with h3 | h3
      · exact HNE.out k h1 (by omega)
      · obtain rfl : k = pre.length + 1 := by omega
        exact hbr
  case done =>
    rintro D ys W hD rfl ⟨⟨⟨v, hv, hrow, _⟩, hbm⟩, hne, hbw, hsw⟩ hK
    have hc := hv.cell
    have HV := Go.Lib.hid hv
    have HROW := Go.Lib.hid hrow
    have HBW := Go.Lib.hid hbw
    have HNE := Go.Lib.hid hne
    have HK := Go.Lib.hid hK
    clear hv hrow hbm hbw hne hK
    gi_wp2_with fail
    refine ⟨by simp, .inl ⟨_, _, rfl, run_takeDeferred HK.out, ?_⟩⟩
    refine ⟨_, results_tmp rfl _ _ _, v, rfl, ?_, HBW.out.trans (belowK_b (w := w) (Nat.le_refl _) W D _ _ (by omega) HK.out rfl rfl)⟩
    have he : walkL most ys = ys := by
      unfold walkL
      rw [if_neg]
      rintro ⟨h1, h2⟩
      exact HNE.out most.toNat (by omega) (by omega) (by omega)
    rw [he]
    exact strs_owned (ownsRow_putObj HROW.out _ HK.out rfl)
  case stop =>
    rintro D c pre W hD hpre ⟨⟨v, hv, hrow, _⟩, ⟨rfl, hp1, hpm⟩, hbw⟩ hK
    have hc := hv.cell
    have HV := Go.Lib.hid hv
    have HROW := Go.Lib.hid hrow
    have HBW := Go.Lib.hid hbw
    have HK := Go.Lib.hid hK
    have HPRE := Go.Lib.hid hpre
    have HPM := Go.Lib.hid hpm
    clear hv hrow hbw hK hpre hpm
    gi_wp2_with fail
    refine ⟨by simp, .inl ⟨_, _, rfl, run_takeDeferred HK.out, ?_⟩⟩
    refine ⟨_, results_tmp rfl _ _ _, v, rfl, ?_, HBW.out.trans (belowK_b (w := w) (Nat.le_refl _) W D _ _ (by omega) HK.out rfl rfl)⟩
    have he : walkL most ls = pre := by
      have h1 := HPRE.out.length_le
      have h2 := HPM.out
      unfold walkL
      rw [if_pos ⟨by omega, by omega⟩, ← h2]
      exact (List.prefix_iff_eq_take.1 HPRE.out).symm
    rw [he]
    exact strs_owned (ownsRow_putObj HROW.out _ HK.out rfl)
end Go.Proofs.Ytfmhmhekildfbaa

