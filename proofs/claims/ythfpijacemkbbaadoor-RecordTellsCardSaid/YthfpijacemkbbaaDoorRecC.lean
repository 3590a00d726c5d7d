/- The contracts of record.Fold and record.Same: data with its names folded, and whether two records are alike. -/
import Derived.Test.YthfpijacemkbbaaDoorRecB
import Derived.Test.YthfpijacemkbbaaDoorOrdI
namespace Go.Proofs.YthfpijacemkbbaaDoor
open Go.RowKit Go.Shelf Go.Sq
set_option linter.unusedVariables false

attribute [local go_sem] Oper.semAt_some

theorem BelowC.cell {W : World} {p : Addr} {v : Value} (h : W.cell? p = some v) (hp : p.block < W.heap.size) (w3 : Subtype (Below W.heap.size W)) : w3.1.cell? p = some v := (w3.2.cell hp).trans h
theorem foldD_run (t : Int) (d : List UInt8) : Rc.foldD t d = (Rc.runF d ((Rc.partsN t d).getD [])).1 ++ d.drop (Rc.runF d ((Rc.partsN t d).getD [])).2 := by
  unfold Rc.foldD
  cases h : Rc.partsN t d with
  | none => rfl
  | some l => exact (Rc.runF_fold (Rc.partsN_chain h).1).1
theorem parts_chain (t : Int) (d : List UInt8) : Rc.Chain d 0 ((Rc.partsN t d).getD []) := by
  cases h : Rc.partsN t d with
  | none => exact Nat.zero_le _
  | some l => exact (Rc.partsN_chain h).1

theorem keepsFrom_below {B : Nat} {W W' : World} (h : Below W.heap.size W W') : KeepsFrom B W W' := KeepsFrom.of_grownBy (row := none) ⟨h.os, h.tape, h.output, h.size, fun k hk _ => h.block k hk⟩ (fun j e => by cases e)

abbrev fr50 (t : Int) (s : ByteArray) (N : Nat) (x : Nat × Nat) : Act := { tmps := #[.int .i64 t, .string s, undef, .pointer (some ⟨N, 0, none⟩), .string ⟨#[]⟩, .pointer (some ⟨N + 1, 0, none⟩), .pointer (some ⟨N + 1 + 1, 0, none⟩), .int .i64 (x.1 : Int), .int .i64 (x.2 : Int), .int .i64 t, .string s,
  .func (.func 60) #[] #[.pointer (some ⟨N + 1 + 1 + 1, 0, none⟩), .pointer (some ⟨N + 1 + 1 + 1 + 1, 0, none⟩)], .int .i64 (x.1 : Int), .int .i64 (x.2 : Int), undef, undef, undef, undef, undef, undef, undef, undef, undef, undef, undef, undef, undef, undef, undef, undef, undef, undef, undef, undef, undef, undef], defers := [] }

/-- what the loop has laid by -/
def FoldI (w : World) (s : ByteArray) (t : Int) (pre : List (Nat × Nat)) (W : World) : Prop :=
  ((Boxed W w.heap.size 9 (.string s) ∧ Boxed W (w.heap.size + 1) 9 (.string (mk (Rc.runF (bl s) pre).1)) ∧ Boxed W (w.heap.size + 1 + 1) 3 (.int .i64 ((Rc.runF (bl s) pre).2 : Int))) ∧ Below w.heap.size w W) ∧ w.heap.size + 5 ≤ W.heap.size

set_option maxRecDepth 100000 in
set_option maxHeartbeats 4000000 in
theorem recFold_any (t : Int) (s : ByteArray) (w : World) (hs : s.size ≤ maxLen) :
    Calls Tryd.prog 50 #[.int .i64 t, .string s] w fun e w' => e = .returned (.string (mk (Rc.foldD t (bl s)))) ∧ Below w.heap.size w w' := by
  have hfin := Go.Lib.hid (foldD_run t (bl s))
  have hch := Go.Lib.hid (parts_chain t (bl s))
  have hnm := fun w => Names_any t s w
  have HNM := Go.Lib.hid hnm
  clear hnm
  refine (callsIn_wide (n := 6)).1 ?_
  refine callsIn_of_wp_marks Tryd.func50 rfl trivial ?_ rfl
  simp only [Tryd.ntmps50, List.size_toArray, List.length_cons, List.length_nil, Nat.reduceAdd, Nat.reduceSub, Array.replicate_succ, Array.replicate_zero, List.push_toArray, List.append_toArray, List.nil_append, List.cons_append]
  gi_wp2_with fail
  refine ⟨trivial, (callsIn_wide.2 (HNM.out _)).mono ?_⟩
  rintro e w2 ⟨rfl, hw2⟩
  have hsz2 : w2.heap.size = w.heap.size + 5 := by rw [hw2]; simp
  have hb2 : Below w.heap.size w w2 := by
    rw [hw2]
    exact ((((((Below.refl _ w).alloc (Nat.le_refl _) _).alloc (by simp) _).alloc (by simp; omega) _).alloc (by simp; omega) _).alloc (by simp; omega) _)
  have x1 : Boxed w2 w.heap.size 9 (.string s) := by
    rw [hw2]; exact ((((Boxed.new w _ _).alloc _).alloc _).alloc _).alloc _
  have x2 : Boxed w2 (w.heap.size + 1) 9 (.string ⟨#[]⟩) := by
    rw [hw2]
    have := Boxed.new (w.alloc (.cells #[.string s] 9)) 9 (.string ⟨#[]⟩)
    rw [World.size_alloc] at this
    exact ((this.alloc _).alloc _).alloc _
  have x3 : Boxed w2 (w.heap.size + 1 + 1) 3 (.int .i64 0) := by
    rw [hw2]
    have := Boxed.new ((w.alloc (.cells #[.string s] 9)).alloc (.cells #[.string ⟨#[]⟩] 9)) 3 (.int .i64 0)
    rw [World.size_alloc, World.size_alloc] at this
    exact (this.alloc _).alloc _
  have x4 : Boxed w2 (w.heap.size + 1 + 1 + 1) 3 (.int .i64 t) := by
    rw [hw2]
    have := Boxed.new (((w.alloc (.cells #[.string s] 9)).alloc (.cells #[.string ⟨#[]⟩] 9)).alloc (.cells #[.int .i64 0] 3)) 3 (.int .i64 t)
    rw [World.size_alloc, World.size_alloc, World.size_alloc] at this
    exact this.alloc _
  have x5 : Boxed w2 (w.heap.size + 1 + 1 + 1 + 1) 9 (.string s) := by
    rw [hw2]
    have := Boxed.new ((((w.alloc (.cells #[.string s] 9)).alloc (.cells #[.string ⟨#[]⟩] 9)).alloc (.cells #[.int .i64 0] 3)).alloc (.cells #[.int .i64 t] 3)) 9 (.string s)
    rw [World.size_alloc, World.size_alloc, World.size_alloc, World.size_alloc] at this
    exact this
  have hseq := names_seq 5 (by omega) _ _ t s hs w2 (by rw [hsz2]; omega) (by rw [hsz2]; omega) x4.cell x5.cell
  have h0 : FoldI w s t [] w2 := ⟨⟨⟨x1, x2, x3⟩, hb2⟩, by omega⟩
  have HSEQ := Go.Lib.hid hseq
  have H0 := Go.Lib.hid h0
  clear hseq h0
  clear x1 x2 x3 x4 x5 hw2
  have HSZ2 := Go.Lib.hid hsz2
  have HB2 := Go.Lib.hid hb2
  clear hsz2 hb2
  have HSM := Go.Lib.hid hs
  clear hs
  gi_wp2_with fail
  refine wpIn_rangeFunc_ok rfl (by omega) (gf := 60) (lb := #[.pointer (some ⟨w.heap.size + 1 + 1 + 1, 0, none⟩), .pointer (some ⟨w.heap.size + 1 + 1 + 1 + 1, 0, none⟩)]) rfl trivial (enters_of Tryd.func60 (by kernel_rfl) rfl)
    HSEQ.out KpT.trans (fun W l o o' _ h1 h2 _ => KpT.put W l o o' h1 h2) (Below.refl _ _) (fun _ => rfl)
    (FoldI w s t) (fun _ _ _ => False)
    (OwnFrom.and (OwnFrom.and (OwnFrom.and (Own.from (boxed_own _ _ (fun _ => _)) _) (OwnFrom.and (Own.from (boxed_own _ _ (fun pre => .string (mk (Rc.runF (bl s) pre).1))) _) (Own.from (boxed_own _ _ (fun pre => .int .i64 ((Rc.runF (bl s) pre).2 : Int))) _))) (ownFrom_below (Nat.le_refl _) (by rw [HSZ2.out]; omega))) (fun _ _ _ _ hs hg _ => Nat.le_trans hs hg.size))
    (fun _ _ _ _ _ h _ _ => h) H0.out (fun x a' _ => a' = fr50 t s w.heap.size x) (fun _ _ _ _ _ _ hs _ _ => hs) ?assign ?body ?done ?stop
  case assign =>
    intro l pre x W K hi hok hK
    have HK := Go.Lib.hid hK
    have HI := Go.Lib.hid hi
    clear hK hi
    unfold encPair
    gi_wp2
    exact HK.out _ _ (KeepsFrom.refl _ _) (KpT.refl _) HI.out rfl
  case body =>
    rintro l pre x a' W ⟨⟨⟨b1, b2, b3⟩, hb⟩, hz⟩ hok rfl
    have hnx := Rc.runF_next (d := bl s) (l := pre) (p := x) (by
      obtain ⟨m, hm⟩ := hok
      have := hch.out
      rw [← hm] at this
      exact Rc.chain_prefix _ _ _ this)
    obtain ⟨xa, xn⟩ := x
    simp only at hnx
    obtain ⟨n1, n2, n3⟩ := hnx
    have hrl := Rc.runF_fold (d := bl s) (l := pre) (by
      obtain ⟨m, hm⟩ := hok
      have := hch.out
      rw [← hm] at this
      exact Rc.chain_prefix _ _ _ (Rc.chain_prefix _ _ _ this))
    obtain ⟨_, r2, r3⟩ := hrl
    have hrun := Rc.runF_snoc (bl s) pre (xa, xn)
    generalize Rc.runF (bl s) pre = st at *
    obtain ⟨out, fr⟩ := st
    simp only at n1 r2 r3 b2 b3
    unfold Rc.runStep at hrun
    simp only at hrun
    have HB := Go.Lib.hid hb
    have HRUN := Go.Lib.hid hrun
    clear hb hrun
    clear hok
    have c1 := BelowC.cell (W := W) b1.cell b1.lt
    have c2 := BelowC.cell (W := W) b2.cell b2.lt
    have c3 := BelowC.cell (W := W) b3.cell b3.lt
    have k1 := b1.lt
    have k2 := b2.lt
    have hsz := size_bl s
    have hsm := HSM.out
    unfold maxLen at hsm
    have hx1 : s.extract fr xa = mk (((bl s).drop fr).take (xa - fr)) := by rw [← bl_extract, mk_bl]
    have hx2 : s.extract xa (xa + xn) = mk (((bl s).drop xa).take xn) := by
      have := bl_extract s xa (xa + xn)
      rw [show xa + xn - xa = xn by omega] at this
      rw [← this, mk_bl]
    have l1 : (((bl s).drop fr).take (xa - fr)).length = xa - fr := by rw [List.length_take, List.length_drop]; omega
    have l2 : (((bl s).drop xa).take xn).length = xn := by rw [List.length_take, List.length_drop]; omega
    have hfo := fun w => Fold_any (mk (((bl s).drop xa).take xn)) w (by rw [size_mk, l2]; unfold maxLen; omega)
    rw [bl_mk] at hfo
    have l3 : (Nm.foldN (((bl s).drop xa).take xn)).length = xn := by rw [Nm.foldN_length, l2]
    generalize ((bl s).drop fr).take (xa - fr) = p1 at *
    generalize ((bl s).drop xa).take xn = p2 at *
    generalize Nm.foldN p2 = p3 at *
    have s1 : (mk p1).size = xa - fr := by rw [size_mk, l1]
    have s3 : (mk p3).size = xn := by rw [size_mk, l3]
    have s4 : (mk (p1 ++ p3)).size = xa - fr + xn := by rw [size_mk, List.length_append, l1, l3]
    have s5 : (mk out).size = fr := by rw [size_mk, r2]
    have e1 : mk p1 ++ mk p3 = mk (p1 ++ p3) := by apply bl_inj; rw [bl_append, bl_mk, bl_mk, bl_mk]
    have e2 : mk out ++ mk (p1 ++ p3) = mk (out ++ (p1 ++ p3)) := by apply bl_inj; rw [bl_append, bl_mk, bl_mk, bl_mk]
    have q1 : ¬ 9223372036854775807 < xa - fr + xn := by omega
    have q2 : ¬ 9223372036854775807 < fr + (xa - fr + xn) := by omega
    have w1 : IntKind.i64.wrap ((xa : Int) + (xn : Int)) = (xa : Int) + (xn : Int) := by rw [IntKind.wrap_i64]; omega
    have w2' : ((xa : Int) + (xn : Int)).toNat = xa + xn := by omega
    have i1 : (fr : Int) ≤ (xa : Int) := by omega
    have i2 : (xa : Int) ≤ (s.size : Int) := by omega
    have i3 : (xa : Int) + (xn : Int) ≤ (s.size : Int) := by omega
    have i4 : (xa : Int) ≤ (xa : Int) + (xn : Int) := by omega
    have i5 : (0 : Int) ≤ (xa : Int) + (xn : Int) := by omega
    have i6 : xa + xn ≤ s.size := by omega
    have i7 : xa ≤ s.size := by omega
    have HFO := Go.Lib.hid hfo
    have HSZ := Go.Lib.hid hsz
    have HSM2 := Go.Lib.hid hsm
    have HR3 := Go.Lib.hid r3
    have HL1 := Go.Lib.hid l1
    have HL2 := Go.Lib.hid l2
    have HL3 := Go.Lib.hid l3
    have HN2 := Go.Lib.hid n2
    clear hfo hsz hsm r3 l1 l2 l3 n2
    have hne : Nonempty (Subtype (Below W.heap.size W)) := ⟨⟨W, Below.refl _ _⟩⟩
    gi_wp2_with fail
    refine Go.Mix.wpIn_region_mixT (Es := [11]) 14 (Below W.heap.size W) mixed (by kernel_rfl) (Below.refl _ _).drew ?_
    iterate 11 (refine Go.Mix.mixT_step rfl (fun K hK => ?_); have HKK := Go.Lib.hid hK; clear hK; go_simp; refine HKK.out _ _ ?_; clear HKK K)
    refine Go.Mix.mixT_eff rfl (fun K hK => ?_)
    have HKK := Go.Lib.hid hK
    clear hK
    go_simp
    refine (HFO.out _).mono ?_; rintro e W7 ⟨rfl, hx⟩
    have hb7 : Below W.heap.size W W7 := ((Below.refl W.heap.size W).drew).trans hx
    have y2 : Boxed W7 (w.heap.size + 1) 9 (.string (mk out)) := (hb7.block _ b2.lt).trans b2
    have y1 : Boxed W7 w.heap.size 9 (.string s) := (hb7.block _ b1.lt).trans b1
    have y3 : Boxed W7 (w.heap.size + 1 + 1) 3 (.int .i64 fr) := (hb7.block _ b3.lt).trans b3
    have hz7 := hb7.size
    have HX := Go.Lib.hid hx
    have HB7 := Go.Lib.hid hb7
    clear hx hb7
    go_simp
    refine HKK.out _ _ HB7.out ?_
    clear HKK K c1 c2 c3
    iterate 2 (refine Go.Mix.mixT_step rfl (fun K hK => ?_); have HKK := Go.Lib.hid hK; clear hK; go_simp; refine HKK.out _ _ ?_; clear HKK K)
    have z2 := y2.cell
    have z3 := y2.frozen
    refine Go.Mix.mixT_last rfl (fun K hK => ?_)
    have HKK := Go.Lib.hid hK
    clear hK
    go_simp
    refine HKK.out _ _ ?_
    clear HKK K z2 z3
    have u2 := y2.set (.string (mk (out ++ (p1 ++ p3))))
    have u1 := y1.other (B' := w.heap.size + 1) (by omega) (.string (mk (out ++ (p1 ++ p3))))
    have u3 := y3.other (B' := w.heap.size + 1) (by omega) (.string (mk (out ++ (p1 ++ p3))))
    have hk8 : KeepsFrom w2.heap.size W (W7.setCell ⟨w.heap.size + 1, 0, none⟩ (.string (mk (out ++ (p1 ++ p3))))) := (keepsFrom_below HB7.out).trans ((KeepsOthers.setCell _ _ _).from _)
    have hp8 : KpT IsPlace W (W7.setCell ⟨w.heap.size + 1, 0, none⟩ (.string (mk (out ++ (p1 ++ p3))))) := (KpT.of_below HB7.out).set (a := ⟨w.heap.size + 1, 0, none⟩) y2 (by decide) _
    have hb8 : Below w.heap.size w (W7.setCell ⟨w.heap.size + 1, 0, none⟩ (.string (mk (out ++ (p1 ++ p3))))) := (HB.out.trans (HB7.out.mono HB.out.size)).setCell (p := ⟨w.heap.size + 1, 0, none⟩) (by simp) _
    have hz8 : w.heap.size + 5 ≤ (W7.setCell ⟨w.heap.size + 1, 0, none⟩ (.string (mk (out ++ (p1 ++ p3))))).heap.size := by simp; omega
    clear y1 y2 y3
    generalize W7.setCell ⟨w.heap.size + 1, 0, none⟩ (.string (mk (out ++ (p1 ++ p3)))) = W8 at *
    have z4 := u3.cell
    have z5 := u3.frozen
    have z6 := u3.lt
    have HK8 := Go.Lib.hid hk8
    have HP8 := Go.Lib.hid hp8
    have HB8 := Go.Lib.hid hb8
    clear hk8 hp8 hb8
    gi_wp2_with fail
    refine ⟨HK8.out.trans ((KeepsOthers.setCell _ _ _).from _), HP8.out.set (a := ⟨w.heap.size + 1 + 1, 0, none⟩) u3 (by decide) _, ⟨⟨?_, ?_, ?_⟩, HB8.out.setCell (p := ⟨w.heap.size + 1 + 1, 0, none⟩) (by simp; omega) _⟩, ?_⟩
    · exact u1.other (by omega) _
    · rw [HRUN.out]; exact u2.other (by omega) _
    · rw [HRUN.out]
      have := u3.set (.int .i64 ((xa + xn : Nat) : Int))
      exact this
    · simp; omega
  case done =>
    rintro D ys W hD hys ⟨⟨⟨b1, b2, b3⟩, hb⟩, hz⟩ hK
    have hrl := Rc.runF_fold (d := bl s) (l := ys) (by rw [hys]; exact hch.out)
    have hres : Hid (Rc.foldD t (bl s) = (Rc.runF (bl s) ys).1 ++ (bl s).drop (Rc.runF (bl s) ys).2) := Go.Lib.hid (by rw [hys]; exact hfin.out)
    obtain ⟨_, r2, r3⟩ := hrl
    generalize Rc.runF (bl s) ys = st at *
    obtain ⟨out, fr⟩ := st
    simp only at r2 r3 b2 b3 hres
    have c1 := BelowC.cell (W := W) b1.cell b1.lt
    have c2 := BelowC.cell (W := W) b2.cell b2.lt
    have c3 := BelowC.cell (W := W) b3.cell b3.lt
    have hsz := size_bl s
    have hsm := HSM.out
    unfold maxLen at hsm
    have hx1 : s.extract fr s.size = mk ((bl s).drop fr) := by
      apply bl_inj
      rw [bl_extract, bl_mk]
      exact List.take_of_length_le (by rw [List.length_drop, hsz]; exact Nat.le_refl _)
    have l1 : ((bl s).drop fr).length = s.size - fr := by rw [List.length_drop, hsz]
    generalize (bl s).drop fr = p1 at *
    have s1 : (mk p1).size = s.size - fr := by rw [size_mk, l1]
    have s5 : (mk out).size = fr := by rw [size_mk, r2]
    have e2 : mk out ++ mk p1 = mk (out ++ p1) := by apply bl_inj; rw [bl_append, bl_mk, bl_mk, bl_mk]
    have q2 : ¬ 9223372036854775807 < fr + (s.size - fr) := by omega
    have q3 : ¬ 9223372036854775807 < s.size := by omega
    have i1 : (fr : Int) ≤ (s.size : Int) := by omega
    have i7 : fr ≤ s.size := by omega
    have HB := Go.Lib.hid hb
    have HK := Go.Lib.hid hK
    have HSZ := Go.Lib.hid hsz
    have HSM2 := Go.Lib.hid hsm
    have HR3 := Go.Lib.hid r3
    have HL1 := Go.Lib.hid l1
    have HYS := Go.Lib.hid hys
    have HDD := Go.Lib.hid hD
    clear hb hK hsz hsm r3 l1 hys hD
    clear b1 b2 b3
    gi_wp2_with fail
    refine wpIn_wide.2 (Go.Mix.wp_region_mix (Es := []) (Below W.heap.size W) mixed (by kernel_rfl) (Below.refl _ _).drew (fun _ => ?_))
    iterate 6 (refine Go.Mix.mix_step rfl (fun K hK => ?_); have HKK := Go.Lib.hid hK; clear hK; go_simp; refine HKK.out _ _ ?_; clear HKK K)
    refine Go.Mix.mix_nil ?_
    gi_wp2_with fail
    refine ⟨by simp, .inl ⟨_, _, rfl, run_takeDeferred HK.out, ?_⟩⟩
    refine ⟨_, results_tmp rfl _ _ _, ?_⟩
    refine ⟨by rw [hres.out]; rfl, HB.out.trans ((Below.refl _ W).drew.trans (belowK_b (w := w) (Nat.le_refl _) W.drew D _ _ (by have := HDD.out; rw [HSZ2.out] at this; omega) HK.out rfl rfl))⟩
  case stop => exact fun _ _ _ _ _ _ h _ => h.elim
end Go.Proofs.YthfpijacemkbbaaDoor

