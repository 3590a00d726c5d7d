/- The contract of record.Target. -/
import Derived.Test.YthfpijacemkbbaaDoorRqF
namespace Go.Proofs.YthfpijacemkbbaaDoor
open Go.RowKit Go.Shelf Go.Sq
set_option linter.unusedVariables false

attribute [local go_sem] Oper.semAt_some

theorem results_boxes2 {fn : Func} {p q : Tmp} {t u : TypeId} (h : fn.results = #[.cell p t, .cell q u]) (tmps : Array Value) (w : World) (a b : Nat) (x y : Value) {T U : TypeId}
    (hp : tmps.getD p undef = .pointer (some ⟨a, 0, none⟩)) (hq : tmps.getD q undef = .pointer (some ⟨b, 0, none⟩)) (hx : Boxed w a T x) (hy : Boxed w b U y)
    (ht : ∀ w, (isAgg t).run Tryd.prog w = .ok false w) (hu : ∀ w, (isAgg u).run Tryd.prog w = .ok false w) : (results fn tmps).run Tryd.prog w = .ok (.tuple #[x, y]) w := by
  have hp' : tmps[p]?.getD undef = .pointer (some ⟨a, 0, none⟩) := by simpa using hp
  have hq' : tmps[q]?.getD undef = .pointer (some ⟨b, 0, none⟩) := by simpa using hq
  have hx' := hx.cell
  have hy' := hy.cell
  simp [results, h, hp', hq', asAddr, loadVar, load, Sem.run_bind, ht, hu, Result.andThen, go_sem]
  simp [Sem.run, hx', hy']

theorem boxed_put {W : World} {B D : Nat} {t : TypeId} {v : Value} (h : Boxed W B t v) (hne : B ≠ D) (o : Obj) : Boxed (W.putObj D o) B t v := (World.putObj_heap_other hne).trans h
/-- what a target is told as -/
def targP (ty : Int) (d : List UInt8) : List UInt8 × Bool := if ty = 6 then ([], false) else match (Rc.partsN ty d).getD [] with
  | [] => ([], false)
  | x :: _ => ((d.drop x.1).take x.2, true)
def targV (ty : Int) (d : List UInt8) : Value := .tuple #[.string (mk (targP ty d).1), .bool (targP ty d).2]
/-- until a name has come nothing is laid by -/
def TargI (wA : World) (N : Nat) (pre : List (Nat × Nat)) (W : World) : Prop := (Boxed W (N + 1) 9 (.string ⟨#[]⟩) ∧ Boxed W (N + 1 + 1) 4 (.bool false)) ∧ Below wA.heap.size wA W ∧ pre = []
/-- when one has come it is laid by -/
def TargX (wA : World) (N : Nat) (d : List UInt8) (c : Code) (pre : List (Nat × Nat)) (W : World) : Prop := (Boxed W (N + 1) 9 (.string (mk ((d.drop (pre.getD 0 (0, 0)).1).take (pre.getD 0 (0, 0)).2))) ∧ Boxed W (N + 1 + 1) 4 (.bool true)) ∧ Below wA.heap.size wA W ∧ c = .ret ∧ pre.length = 1
abbrev fr14 (rn rd : List UInt8) (t cl tl : Int) (N M : Nat) (x : Nat × Nat) : Act := { tmps := #[.agg #[.string (mk rn), .int .i64 t, .int .i64 cl, .int .i64 tl, .string (mk rd)], .pointer (some ⟨N, 0, none⟩), .pointer (some ⟨N + 1, 0, none⟩), .pointer (some ⟨N + 1 + 1, 0, none⟩), .int .i64 (x.1 : Int), .int .i64 (x.2 : Int),
  .pointer (some ⟨N, 1, none⟩), .int .i64 t, .bool false, .pointer (some ⟨N, 1, none⟩), .int .i64 t, .pointer (some ⟨N, 4, none⟩), .string (mk rd), .func (.func 60) #[] #[.pointer (some ⟨M + 1 + 1, 0, none⟩), .pointer (some ⟨M + 1 + 1 + 1, 0, none⟩)],
  .int .i64 (x.1 : Int), .int .i64 (x.2 : Int), undef, undef, undef, undef, undef, undef, undef], defers := [] }
theorem notAgg_s (w : World) : (isAgg 9).run Tryd.prog w = .ok false w := by simp [isAgg, go_sem]
theorem notAgg_b (w : World) : (isAgg 4).run Tryd.prog w = .ok false w := by simp [isAgg, go_sem]
set_option maxRecDepth 100000 in
set_option maxHeartbeats 4000000 in
theorem Target_any (r : Rc.RR) (w : World) (hr : RROk r) :
    Calls Tryd.prog 19 #[rrV r] w fun e w' => e = .returned (targV r.ty r.data) ∧ Below w.heap.size w w' := by
  obtain ⟨rn, t, cl, tl, rd⟩ := r
  obtain ⟨_, hs⟩ := hr
  simp only at hs
  simp only [rrV]
  have hH := World.alloc_heap_new w (.cells #[.string (mk rn), .int .i64 t, .int .i64 cl, .int .i64 tl, .string (mk rd)] 23)
  have hbA : Below w.heap.size w (w.alloc (.cells #[.string (mk rn), .int .i64 t, .int .i64 cl, .int .i64 tl, .string (mk rd)] 23)) := (Below.refl _ w).alloc (Nat.le_refl _) _
  have hsA : (w.alloc (.cells #[.string (mk rn), .int .i64 t, .int .i64 cl, .int .i64 tl, .string (mk rd)] 23)).heap.size = w.heap.size + 1 := World.size_alloc _ _
  have hg := cell_of_heap hH
  have g4 : (w.alloc (.cells #[.string (mk rn), .int .i64 t, .int .i64 cl, .int .i64 tl, .string (mk rd)] 23)).cell? ⟨w.heap.size, 4, none⟩ = some (.string (mk rd)) := hg 4
  clear hg
  by_cases ht : t = 6
  · subst ht
    have hv : Hid (targV 6 rd = .tuple #[.string ⟨#[]⟩, .bool false]) := Go.Lib.hid rfl
    have HH := Go.Lib.hid hH
    have HBA := Go.Lib.hid hbA
    have HSA := Go.Lib.hid hsA
    have G4 := Go.Lib.hid g4
    clear hH hbA hsA g4
    go_enter Tryd.func19, Tryd.ntmps19
    go_wp2_with fail
    have y1 := Boxed.new (w.alloc (.cells #[.string (mk rn), .int .i64 6, .int .i64 cl, .int .i64 tl, .string (mk rd)] 23)) 9 (.string ⟨#[]⟩)
    have y2 := Boxed.new ((w.alloc (.cells #[.string (mk rn), .int .i64 6, .int .i64 cl, .int .i64 tl, .string (mk rd)] 23)).alloc (.cells #[.string ⟨#[]⟩] 9)) 4 (.bool false)
    rw [World.size_alloc] at y1
    rw [World.size_alloc, World.size_alloc] at y2
    have x1 := y1.alloc (.cells #[.bool false] 4)
    refine bodyPost_ret (results_boxes2 rfl _ _ _ _ _ _ rfl rfl x1 y2 notAgg_s notAgg_b) rfl ⟨by rw [hv.out], ?_⟩
    exact (HBA.out.alloc (by simp) _).alloc (by simp; omega) _
  · have e1 : (t == 6) = false := beq_eq_false_iff_ne.2 ht
    have hnm := fun w => Names_any t (mk rd) w
    have hch := Go.Lib.hid (parts_chain t rd)
    have HNM := Go.Lib.hid hnm
    have HH := Go.Lib.hid hH
    have HBA := Go.Lib.hid hbA
    have HSA := Go.Lib.hid hsA
    have G4 := Go.Lib.hid g4
    clear hnm hH hbA hsA g4
    refine (callsIn_wide (n := 6)).1 ?_
    refine callsIn_of_wp_marks Tryd.func19 rfl trivial ?_ rfl
    simp only [Tryd.ntmps19, List.size_toArray, List.length_cons, List.length_nil, Nat.reduceAdd, Nat.reduceSub, Array.replicate_succ, Array.replicate_zero, List.push_toArray, List.append_toArray, List.nil_append, List.cons_append]
    gi_wp2_with fail
    refine ⟨trivial, (callsIn_wide.2 (HNM.out _)).mono ?_⟩
    rintro e w2 ⟨rfl, hw2⟩
    have hsz2 : w2.heap.size = w.heap.size + 5 := by rw [hw2]; simp
    generalize hwA : w.alloc (.cells #[.string (mk rn), .int .i64 t, .int .i64 cl, .int .i64 tl, .string (mk rd)] 23) = wA at *
    have hb2 : Below wA.heap.size wA w2 := by
      rw [hw2]
      exact (((((Below.refl _ wA).alloc (Nat.le_refl _) _).alloc (by simp) _).alloc (by simp; omega) _).alloc (by simp; omega) _)
    have x1 : Boxed w2 (w.heap.size + 1) 9 (.string ⟨#[]⟩) := by
      rw [hw2]
      have := Boxed.new wA 9 (.string ⟨#[]⟩)
      rw [HSA.out] at this
      exact ((this.alloc _).alloc _).alloc _
    have x2 : Boxed w2 (w.heap.size + 1 + 1) 4 (.bool false) := by
      rw [hw2]
      have := Boxed.new (wA.alloc (.cells #[.string ⟨#[]⟩] 9)) 4 (.bool false)
      rw [World.size_alloc, HSA.out] at this
      exact (this.alloc _).alloc _
    have x4 : Boxed w2 (wA.heap.size + 1 + 1) 3 (.int .i64 t) := by
      rw [hw2]
      have := Boxed.new ((wA.alloc (.cells #[.string ⟨#[]⟩] 9)).alloc (.cells #[.bool false] 4)) 3 (.int .i64 t)
      rw [World.size_alloc, World.size_alloc] at this
      exact this.alloc _
    have x5 : Boxed w2 (wA.heap.size + 1 + 1 + 1) 9 (.string (mk rd)) := by
      rw [hw2]
      have := Boxed.new (((wA.alloc (.cells #[.string ⟨#[]⟩] 9)).alloc (.cells #[.bool false] 4)).alloc (.cells #[.int .i64 t] 3)) 9 (.string (mk rd))
      rw [World.size_alloc, World.size_alloc, World.size_alloc] at this
      exact this
    have hseq := names_seq 5 (by omega) _ _ t (mk rd) (by rw [size_mk]; exact hs) w2 (by rw [hsz2, HSA.out]; omega) (by rw [hsz2, HSA.out]; omega) x4.cell x5.cell
    rw [bl_mk] at hseq
    have h0 : TargI wA w.heap.size [] w2 := ⟨⟨x1, x2⟩, hb2, rfl⟩
    have HSEQ := Go.Lib.hid hseq
    have H0 := Go.Lib.hid h0
    clear hseq h0
    clear x1 x2 x4 x5 hw2
    have HSZ2 := Go.Lib.hid hsz2
    have HB2 := Go.Lib.hid hb2
    clear hsz2 hb2
    gi_wp2_with fail
    refine wpIn_rangeFunc_ok rfl (by omega) (gf := 60) (lb := #[.pointer (some ⟨wA.heap.size + 1 + 1, 0, none⟩), .pointer (some ⟨wA.heap.size + 1 + 1 + 1, 0, none⟩)]) rfl trivial (enters_of Tryd.func60 (by kernel_rfl) rfl)
      HSEQ.out KpT.trans (fun W l o o' _ h1 h2 _ => KpT.put W l o o' h1 h2) (Below.refl _ _) (fun _ => rfl)
      (TargI wA w.heap.size) (TargX wA w.heap.size rd)
      (OwnFrom.and (OwnFrom.and (Own.from (boxed_own _ _ (fun _ => _)) _) (Own.from (boxed_own _ _ (fun _ => _)) _)) (OwnFrom.and (ownFrom_below (Nat.le_refl _) (by rw [HSZ2.out, HSA.out]; omega)) (ownFrom_pure _ _)))
      (fun c => OwnFrom.and (OwnFrom.and (Own.from (boxed_own _ _ (fun pre : List (Nat × Nat) => .string (mk ((rd.drop (pre.getD 0 (0, 0)).1).take (pre.getD 0 (0, 0)).2)))) _) (Own.from (boxed_own _ _ (fun _ => _)) _)) (OwnFrom.and (ownFrom_below (Nat.le_refl _) (by rw [HSZ2.out, HSA.out]; omega)) (ownFrom_pure _ _)))
      H0.out (fun x a' _ => a' = fr14 rn rd t cl tl w.heap.size wA.heap.size x) (fun _ _ _ _ _ _ hs _ _ => hs) ?assign ?body ?done ?stop
    case assign =>
      intro l pre x W K hi hok hK
      have HK := Go.Lib.hid hK
      have HI := Go.Lib.hid hi
      clear hK hi
      unfold encPair
      gi_wp2
      exact HK.out _ _ (KeepsFrom.refl _ _) (KpT.refl _) HI.out rfl
    case body =>
      rintro l pre x a' W ⟨⟨b1, b2⟩, hb, rfl⟩ hok rfl
      have hpr := hok
      rw [List.nil_append] at hok
      obtain ⟨m, hm⟩ := hok
      have hmem := Rc.chain_mem _ _ hch.out x (by rw [← hm]; simp)
      obtain ⟨xa, xn⟩ := x
      simp only at hmem
      obtain ⟨_, n2, n3⟩ := hmem
      have c4 : W.cell? ⟨w.heap.size, 4, none⟩ = some (.string (mk rd)) := (hb.cell (p := ⟨w.heap.size, 4, none⟩) (by rw [HSA.out]; exact Nat.lt_succ_self _)).trans G4.out
      have hx2 : (mk rd).extract xa (xa + xn) = mk ((rd.drop xa).take xn) := by
        apply bl_inj
        rw [bl_extract, bl_mk, bl_mk, show xa + xn - xa = xn by omega]
      have hsz : (mk rd).size = rd.length := size_mk _
      unfold maxLen at hs
      have w1 : IntKind.i64.wrap ((xa : Int) + (xn : Int)) = (xa : Int) + (xn : Int) := by rw [IntKind.wrap_i64]; omega
      have w2' : ((xa : Int) + (xn : Int)).toNat = xa + xn := by omega
      have i3 : (xa : Int) + (xn : Int) ≤ ((mk rd).size : Int) := by rw [hsz]; omega
      have i4 : (xa : Int) ≤ (xa : Int) + (xn : Int) := by omega
      have i5 : (0 : Int) ≤ (xa : Int) + (xn : Int) := by omega
      have i6 : xa + xn ≤ (mk rd).size := by rw [hsz]; omega
      generalize hpart : mk ((rd.drop xa).take xn) = part at *
      generalize mk rd = sd at *
      have HPART := Go.Lib.hid hpart
      clear hpart
      have k1 := b1.lt
      have k2 := b2.lt
      have f1 := b1.frozen
      have f2 := (b2.other (B' := w.heap.size + 1) (by omega) (.string part)).frozen
      have cc1 := b1.cell
      have cc2 := (b2.other (B' := w.heap.size + 1) (by omega) (.string part)).cell
      have k3 := (b2.other (B' := w.heap.size + 1) (by omega) (.string part)).lt
      have HB := Go.Lib.hid hb
      clear hb
      clear hsz
      gi_wp2_with fail
      have u1 := (b1.set (.string part)).other (B' := w.heap.size + 1 + 1) (by omega) (.bool true)
      have u2 := (b2.other (B' := w.heap.size + 1) (by omega) (.string part)).set (.bool true)
      refine ⟨((KeepsOthers.setCell _ _ _).from _).trans ((KeepsOthers.setCell _ _ _).from _), ⟨by show Boxed _ _ _ (.string (mk ((rd.drop xa).take xn))); rw [HPART.out]; exact u1, u2⟩, ?_, rfl, rfl⟩
      exact (HB.out.setCell (p := ⟨w.heap.size + 1, 0, none⟩) (by rw [HSA.out]; exact Nat.le_refl _) _).setCell (p := ⟨w.heap.size + 1 + 1, 0, none⟩) (by rw [HSA.out]; exact Nat.le_succ _) _
    case done =>
      rintro D ys W hD hys ⟨⟨b1, b2⟩, hb, rfl⟩ hK
      have hv : Hid (targV t rd = .tuple #[.string ⟨#[]⟩, .bool false]) := Go.Lib.hid (by unfold targV targP; rw [if_neg ht, ← hys]; rfl)
      have k1 := b1.lt
      have k2 := b2.lt
      have f1 := b1.frozen
      have f2 := (b2.other (B' := w.heap.size + 1) (by omega) (.string ⟨#[]⟩)).frozen
      have cc1 := b1.cell
      have cc2 := (b2.other (B' := w.heap.size + 1) (by omega) (.string ⟨#[]⟩)).cell
      have k3 := (b2.other (B' := w.heap.size + 1) (by omega) (.string ⟨#[]⟩)).lt
      have HB := Go.Lib.hid hb
      have HYS := Go.Lib.hid hys
      have HDD := Go.Lib.hid hD
      have HK := Go.Lib.hid hK
      clear hb hys hD hK
      gi_wp2_with fail
      have v1 := (b1.set (.string ⟨#[]⟩)).other (B' := w.heap.size + 1 + 1) (by omega) (.bool false)
      have v2 := (b2.other (B' := w.heap.size + 1) (by omega) (.string ⟨#[]⟩)).set (.bool false)
      have hD' := HDD.out
      rw [HSZ2.out] at hD'
      have hK' : ((W.setCell ⟨w.heap.size + 1, 0, none⟩ (.string ⟨#[]⟩)).setCell ⟨w.heap.size + 1 + 1, 0, none⟩ (.bool false)).heap[D]? = some (.deferred (some [])) :=
        (Below.heap_setCell _ ⟨w.heap.size + 1 + 1, 0, none⟩ _ _ (by show D ≠ w.heap.size + 1 + 1; omega)).trans ((Below.heap_setCell _ ⟨w.heap.size + 1, 0, none⟩ _ _ (by show D ≠ w.heap.size + 1; omega)).trans HK.out)
      have hbz := (HB.out.setCell (p := ⟨w.heap.size + 1, 0, none⟩) (by rw [HSA.out]; exact Nat.le_refl _) (.string ⟨#[]⟩)).setCell (p := ⟨w.heap.size + 1 + 1, 0, none⟩) (by rw [HSA.out]; exact Nat.le_succ _) (.bool false)
      generalize (W.setCell ⟨w.heap.size + 1, 0, none⟩ (.string ⟨#[]⟩)).setCell ⟨w.heap.size + 1 + 1, 0, none⟩ (.bool false) = Z at *
      refine ⟨by simp, .inl ⟨_, _, rfl, run_takeDeferred hK', ?_⟩⟩
      refine ⟨_, results_boxes2 rfl _ _ _ _ _ _ rfl rfl (boxed_put v1 (by omega) _) (boxed_put v2 (by omega) _) notAgg_s notAgg_b, ?_⟩
      exact ⟨by rw [hv.out], HBA.out.trans ((hbz.mono (by rw [HSA.out]; omega)).trans (belowK_b (w := w) (Nat.le_refl _) Z D _ _ (by omega) hK' rfl rfl))⟩
    case stop =>
      rintro D c pre W hD hpre ⟨⟨b1, b2⟩, hb, rfl, hl1⟩ hK
      have hv : Hid (targV t rd = .tuple #[.string (mk ((rd.drop (pre.getD 0 (0, 0)).1).take (pre.getD 0 (0, 0)).2)), .bool true]) := Go.Lib.hid (by
        obtain ⟨m, hm⟩ := hpre
        match pre, hl1, hm with
        | [x], _, hm => unfold targV targP; rw [if_neg ht, ← hm]; rfl)
      generalize mk ((rd.drop (pre.getD 0 (0, 0)).1).take (pre.getD 0 (0, 0)).2) = part at *
      have HB := Go.Lib.hid hb
      have HYS := Go.Lib.hid hpre
      have HDD := Go.Lib.hid hD
      have HK := Go.Lib.hid hK
      clear hb hpre hD hK
      gi_wp2_with fail
      have hD' := HDD.out
      rw [HSZ2.out] at hD'
      refine ⟨by simp, .inl ⟨_, _, rfl, run_takeDeferred HK.out, ?_⟩⟩
      refine ⟨_, results_boxes2 rfl _ _ _ _ _ _ rfl rfl (boxed_put b1 (by omega) _) (boxed_put b2 (by omega) _) notAgg_s notAgg_b, ?_⟩
      exact ⟨by rw [hv.out], HBA.out.trans ((HB.out.mono (by rw [HSA.out]; omega)).trans (belowK_b (w := w) (Nat.le_refl _) W D _ _ (by omega) HK.out rfl rfl))⟩
end Go.Proofs.YthfpijacemkbbaaDoor

