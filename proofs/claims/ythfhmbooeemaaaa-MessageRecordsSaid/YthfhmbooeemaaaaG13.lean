/- Merged texts of the seat, in their order: Rcd. -/
import Derived.Test.YthfhmbooeemaaaaG6
import Derived.Test.YthfhmbooeemaaaaG7
import Derived.Test.YthfhmbooeemaaaaG8
/- Message: the walk over a message's records as a caller sees it: where the next one stands, the caller's boxes; what Same is asked. -/
namespace Go.Proofs.Ythfhmbooeemaaaa
open Go.RowKit Go.Lib Go.Sq
set_option maxRecDepth 100000
set_option linter.unusedVariables false

/-! ### lists alone -/
theorem rec_next {m : Msg} {pre : List (Nat × Rc.RR)} {x : Nat × Rc.RR} {t k : Nat} (hp : pre = preS m t k) (ht : t < 3) (hk : k < (secL m t).length) (hok : pre ++ [x] <+: allR m) : x = (t, (secL m t).getD k r0) ∧ pre ++ [x] = preS m t (k + 1) := by
  have h1 := preS_pre m t (k + 1) ht
  have h2 := preS_step m t k hk
  rw [h2, ← hp] at h1
  have h3 : pre ++ [x] = pre ++ [(t, (secL m t).getD k r0)] := (List.prefix_of_prefix_length_le hok h1 (by simp)).eq_of_length (by simp)
  have h4 := List.append_cancel_left h3
  simp only [List.cons.injEq, and_true] at h4
  exact ⟨h4, by rw [h2, ← hp, h4]⟩
theorem rec_turn (m : Msg) (t : Nat) : preS m t (secL m t).length = preS m (t + 1) 0 := by rw [preS_full, preS_zero]
theorem rec_end {m : Msg} {pre : List (Nat × Rc.RR)} {x : Nat × Rc.RR} (hp : pre = preS m 3 0) (hok : pre ++ [x] <+: allR m) : False := by
  have h1 := hok.length_le
  have h2 : pre = allR m := by rw [hp, preS_zero]; rfl
  rw [List.length_append, h2] at h1
  simp only [List.length_singleton] at h1
  omega
def foldQ (q : Qn) : Qn := { q with name := Nm.foldN q.name }
theorem foldN_foldN (s : List UInt8) : Nm.foldN (Nm.foldN s) = Nm.foldN s := by
  by_cases h : Nm.valid s = true
  · rw [Nm.foldN_valid h, Nm.foldN_foldB h]
  · have : Nm.foldN s = s := by unfold Nm.foldN; rw [if_neg h]
    rw [this, this]
theorem eqQ_fold : ∀ l : List Qn, eqL qSame l (l.map foldQ) = true
  | [] => rfl
  | q :: l => by
    rw [List.map_cons, eqL, eqQ_fold l, Bool.and_true]
    unfold qSame foldQ
    simp [foldN_foldN]
theorem rSame_refl (r : Rc.RR) : rSame r r = true := by
  unfold rSame Rc.sameRR
  simp
theorem eqR_refl : ∀ l : List Rc.RR, eqL rSame l l = true
  | [] => rfl
  | r :: l => by rw [eqL, eqR_refl l, Bool.and_true, rSame_refl]
theorem wrap_next (c : Int) : c ≠ IntKind.i64.wrap (c + 1) := by
  intro h
  have := h
  simp only [IntKind.wrap, IntKind.signed, IntKind.bits] at this
  simp at this
  omega
/-- a number's box -/
def boxNat (w : World) (b : Nat) : Nat := match w.cell? ⟨b, 0, none⟩ with
  | some (.int _ i) => i.toNat
  | _ => 0
theorem boxNat_of {w : World} {b : Nat} {k : IntKind} {n : Nat} (h : w.cell? ⟨b, 0, none⟩ = some (.int k (n : Int))) : boxNat w b = n := by
  unfold boxNat
  rw [h]
  exact Int.toNat_natCast n
/-- the caller's boxes: the message, where to stop, the answer; the three lists, how many were met, and where the next one stands -/
structure RI (m : Msg) (q a s d : Value) (stop : Int) (w0 : World) (b c T : Nat) (n t k : Nat) (W : World) : Prop where
  hb : Below b w0 W
  m : W.heap[b]? = some (.cells (MC m q a s d) 27 (0, 0))
  st : W.heap[b + 1]? = some (.cells #[.int .i64 stop] 3 (0, 0))
  an : W.heap[b + 2]? = some (.cells #[.bool false] 4 (0, 0))
  l0 : W.heap[c]? = some (.cells #[a, s, d] 25 (0, 0))
  l : W.heap[c + 1]? = some (.cells #[.slice (some ⟨c, 0, none⟩) 3 3] 41 (0, 0))
  n : W.heap[c + 2]? = some (.cells #[.int .i64 (n : Int)] 3 (0, 0))
  t : W.heap[T]? = some (.cells #[.int .i64 (t : Int)] 3 (0, 0))
  k : W.heap[T + 1]? = some (.cells #[.int .i64 (k : Int)] 3 (0, 0))
theorem RI.below {m : Msg} {q a s d : Value} {stop : Int} {w0 W W' : World} {b c T n t k : Nat} (h : RI m q a s d stop w0 b c T n t k W) (hb0 : b ≤ w0.heap.size) (hx : Below W.heap.size W W') : RI m q a s d stop w0 b c T n t k W' := by
  have f : ∀ {j : Nat} {o : Obj}, W.heap[j]? = some o → W'.heap[j]? = some o := fun hj => (hx.block _ (Array.getElem?_eq_some_iff.1 hj).1).trans hj
  exact ⟨h.hb.trans (hx.mono (Nat.le_trans hb0 h.hb.size)), f h.m, f h.st, f h.an, f h.l0, f h.l, f h.n, f h.t, f h.k⟩
theorem RI.own (m : Msg) (q a s d : Value) (stop : Int) (w0 : World) (b c T n t k B : Nat) (h0 : b ≤ w0.heap.size) (hB : b ≤ B) {W W' : World} {row : Option Nat} (h : RI m q a s d stop w0 b c T n t k W) (hg : W.grownBy W' row) (hr : ∀ r, row = some r → B ≤ r ∧ ∃ o : Obj, W.heap[r]? = some o ∧ o.isCells = false) : RI m q a s d stop w0 b c T n t k W' := by
  have f : ∀ {j : Nat} {cs : Array Value} {ty : TypeId} {fr : Nat × Nat}, W.heap[j]? = some (.cells cs ty fr) → W'.heap[j]? = some (.cells cs ty fr) := fun {j cs ty fr} hj => by
    refine (hg.block j (Array.getElem?_eq_some_iff.1 hj).1 fun e => ?_).trans hj
    obtain ⟨_, o, ho, hc⟩ := hr j e.symm
    rw [hj] at ho
    cases ho
    cases hc
  exact ⟨h.hb.grown hg (Nat.le_trans h0 h.hb.size) (fun r e => Nat.le_trans hB (hr r e).1), f h.m, f h.st, f h.an, f h.l0, f h.l, f h.n, f h.t, f h.k⟩
theorem RI.setT {m : Msg} {q a s d : Value} {stop : Int} {w0 W : World} {b c T n t k : Nat} (h : RI m q a s d stop w0 b c T n t k W) (hbc : b + 3 ≤ c) (hcT : c + 3 ≤ T) (v : Nat) : RI m q a s d stop w0 b c T n v k (W.setCell ⟨T, 0, none⟩ (.int .i64 (v : Int))) := by
  have f : ∀ {j : Nat} {o : Obj}, j ≠ T → W.heap[j]? = some o → (W.setCell ⟨T, 0, none⟩ (.int .i64 (v : Int))).heap[j]? = some o := fun hj ho => (heap_set_other h.t hj).trans ho
  exact ⟨h.hb.setCell (p := ⟨T, 0, none⟩) (by show b ≤ T; omega) _, f (by omega) h.m, f (by omega) h.st, f (by omega) h.an, f (by omega) h.l0, f (by omega) h.l, f (by omega) h.n, heap_set h.t, f (by omega) h.k⟩
theorem RI.setK {m : Msg} {q a s d : Value} {stop : Int} {w0 W : World} {b c T n t k : Nat} (h : RI m q a s d stop w0 b c T n t k W) (hbc : b + 3 ≤ c) (hcT : c + 3 ≤ T) (v : Nat) : RI m q a s d stop w0 b c T n t v (W.setCell ⟨T + 1, 0, none⟩ (.int .i64 (v : Int))) := by
  have f : ∀ {j : Nat} {o : Obj}, j ≠ T + 1 → W.heap[j]? = some o → (W.setCell ⟨T + 1, 0, none⟩ (.int .i64 (v : Int))).heap[j]? = some o := fun hj ho => (heap_set_other h.k hj).trans ho
  exact ⟨h.hb.setCell (p := ⟨T + 1, 0, none⟩) (by show b ≤ T + 1; omega) _, f (by omega) h.m, f (by omega) h.st, f (by omega) h.an, f (by omega) h.l0, f (by omega) h.l, f (by omega) h.n, f (by omega) h.t, heap_set h.k⟩
theorem RI.setN {m : Msg} {q a s d : Value} {stop : Int} {w0 W : World} {b c T n t k : Nat} (h : RI m q a s d stop w0 b c T n t k W) (hbc : b + 3 ≤ c) (hcT : c + 3 ≤ T) (v : Nat) : RI m q a s d stop w0 b c T v t k (W.setCell ⟨c + 2, 0, none⟩ (.int .i64 (v : Int))) := by
  have f : ∀ {j : Nat} {o : Obj}, j ≠ c + 2 → W.heap[j]? = some o → (W.setCell ⟨c + 2, 0, none⟩ (.int .i64 (v : Int))).heap[j]? = some o := fun hj ho => (heap_set_other h.n hj).trans ho
  exact ⟨h.hb.setCell (p := ⟨c + 2, 0, none⟩) (by show b ≤ c + 2; omega) _, f (by omega) h.m, f (by omega) h.st, f (by omega) h.an, f (by omega) h.l0, f (by omega) h.l, heap_set h.n, f (by omega) h.t, f (by omega) h.k⟩
theorem RI.setSt {m : Msg} {q a s d : Value} {stop : Int} {w0 W : World} {b c T n t k : Nat} (h : RI m q a s d stop w0 b c T n t k W) (hbc : b + 3 ≤ c) (hcT : c + 3 ≤ T) (v : Int) : RI m q a s d v w0 b c T n t k (W.setCell ⟨b + 1, 0, none⟩ (.int .i64 v)) := by
  have f : ∀ {j : Nat} {o : Obj}, j ≠ b + 1 → W.heap[j]? = some o → (W.setCell ⟨b + 1, 0, none⟩ (.int .i64 v)).heap[j]? = some o := fun hj ho => (heap_set_other h.st hj).trans ho
  exact ⟨h.hb.setCell (p := ⟨b + 1, 0, none⟩) (by show b ≤ b + 1; omega) _, f (by omega) h.m, heap_set h.st, f (by omega) h.an, f (by omega) h.l0, f (by omega) h.l, f (by omega) h.n, f (by omega) h.t, f (by omega) h.k⟩
/-- what a round keeps of the world it began in -/
structure RK (b B : Nat) (A W : World) : Prop where
  kf : KeepsFrom B A W
  kn : KN b A W
theorem RK.refl (b B : Nat) (A : World) : RK b B A A := ⟨KeepsFrom.refl _ _, KN.refl _ _⟩
theorem RK.drew {b B : Nat} {A W : World} (h : RK b B A W) : RK b B A W.drew := ⟨h.kf.trans ((KeepsOthers.drew W).from _), h.kn.1, h.kn.2⟩
theorem RK.set {b B g : Nat} {A W : World} (h : RK b B A W) {cs : Array Value} {fr : Nat × Nat} (hg : W.heap[g]? = some (.cells cs 3 fr)) (hb : b ≤ g) (v : Value) : RK b B A (W.setCell ⟨g, 0, none⟩ v) :=
  ⟨h.kf.trans ((KeepsOthers.setCell _ _ _).from _), fun j hj => (heap_set_other hg (by omega)).trans (h.kn.1 j hj), h.kn.2.set (a := ⟨g, 0, none⟩) hg (by decide) v⟩
/-- both ways out of a range over a function lead on to one place -/
theorem range_join {F : Fence} {n : Nat} {P : Program} {g : Operand} {ps : Array Tmp} {assign body : Code} {K : Act → World → Prop} {Q : Exit → Act → World → Prop} {a : Act} {w : World} (R : Act → Act → World → Prop)
    (hrest : ∀ a' W', R a a' W' → K a' W') (hmain : (∀ a' W', R a a' W' → K a' W') → (Code.rangeFunc g ps assign body).wpIn F n P (Exit.inBlock 0 (Exit.then K Q)) a w) : (Code.rangeFunc g ps assign body).wpIn F n P (Exit.inBlock 0 (Exit.then K Q)) a w := hmain hrest
/-- a struct loaded whole, inside a fence -/
theorem wpListIn_load_rowG {F : Fence} {n : Nat} {P : Program} {ops : Array Oper} {rest : List Oper} {o : Oper} {a : Act} {w : World} {Q : Exit → Act → World → Prop} (hgd : Region.wanted o (yielded ops a.tmps) = true) (ty : TypeId) (x : Operand) (ho : o.op = .load ty x)
    (g : Nat) (hx : a.eval x = .pointer (some ⟨g, 0, none⟩)) (t : TypeId) (cs : Array Value) (fr : Nat × Nat) (d : TypeDesc) (hg : w.heap[g]? = some (.cells cs t fr))
    (hu : P.underlying ty = some d) (hd : (match d with | .struct _ | .array _ _ => true | _ => false) = true) (hi : (P.info? ty).map (·.size) = some cs.size)
    (h : wpListIn F n P ops Q rest (a.put o.dst (.agg cs)) w) : wpListIn F n P ops Q (o :: rest) a w := by
  refine wpListIn_step fun K hK => ?_
  rw [if_pos hgd]
  unfold Oper.wpIn
  refine ⟨?_, ?_⟩
  · simp [Oper.about, ho]
  · rw [Oper.semAt_plain F _ _ (by rw [ho]; intro c hc'; cases hc')]
    unfold execOp
    simp only [ho, hx, Instr.loadAt, Instr.sureAddr, Sem.run_bind, Sem.run_pure, Result.andThen_ok, run_loadVar_row w g t ty cs fr d hg hu hd hi]
    exact hK _ _ h
/-- one element, of a slice that was built just now, appended, inside a fence -/
theorem wpListIn_app1 {F : Fence} {n' : Nat} {P : Program} {t e sz bytes : Nat} (ei : EI P t e sz bytes) {w : World} {ops : Array Oper} {rest : List Oper} {o : Oper} {a : Act} {Q : Exit → Act → World → Prop} (s x : Operand)
    (hgd : Region.wanted o (yielded ops a.tmps) = true)
    (ho : o.op = .call { callee := .builtin .append, args := #[s, x], argTypes := #[t, t] }) (base : Nat) {v : Value} {n c : Nat} {ad : Addr} {xs news : List Value} (hs : a.eval s = v) (hx : a.eval x = .slice (some ad) 1 c)
    (hown : w.ownsRow base e sz v n xs) (hl : news.length = sz) (hc : ∀ j u, news[j]? = some u → w.cell? (ad.add j) = some u) (h1 : ∀ u ∈ news, u.oneCell' = true) (h63 : n + 1 ≤ maxLen) (hbytes : (n + 1) * bytes ≤ 140737488355328) (hbase : base ≤ w.heap.size)
    (h : ∀ v' w', w'.ownsRow base e sz v' (n + 1) (xs ++ news) → w.grownBy w' v.ownBlock → wpListIn F n' P ops Q rest (a.put o.dst v') w') : wpListIn F n' P ops Q (o :: rest) a w := by
  refine wpListIn_step fun K hK => ?_
  rw [if_pos hgd]
  obtain ⟨v', w', hrun, ho1, hg1, _⟩ := run_app2 (c := c) ei w o.type base hown (by rw [Nat.one_mul]; exact hl) hc h1 (by omega) h63 hbytes hbase
  unfold Oper.wpIn
  refine ⟨?_, ?_⟩
  · simp [Oper.about, ho, resolve, Target.leads, Sem.run_pure]
  · rw [Oper.semAt_plain F _ _ (by rw [ho]; intro c hc'; cases hc')]
    unfold execOp
    simp only [ho, resolve, invoke, builtin, Sem.run_bind, Sem.run_pure, Result.andThen_ok, List.map_toArray, List.map_cons, List.map_nil, hs, hx, hrun]
    exact hK _ _ (h v' w' ho1 hg1)
theorem RI.setOther {m : Msg} {q a s d : Value} {stop : Int} {w0 W : World} {b c T n t k g i : Nat} {cs : Array Value} {ty : TypeId} {fr : Nat × Nat} (h : RI m q a s d stop w0 b c T n t k W) (hbc : b + 3 ≤ c) (hcT : c + 3 ≤ T) (hg : W.heap[g]? = some (.cells cs ty fr)) (hT : T + 2 ≤ g) (v : Value) : RI m q a s d stop w0 b c T n t k (W.setCell ⟨g, i, none⟩ v) := by
  have f : ∀ {j : Nat} {o : Obj}, j ≠ g → W.heap[j]? = some o → (W.setCell ⟨g, i, none⟩ v).heap[j]? = some o := fun hj ho => (heap_set_other hg hj).trans ho
  exact ⟨h.hb.setCell (p := ⟨g, i, none⟩) (by show b ≤ g; omega) _, f (by omega) h.m, f (by omega) h.st, f (by omega) h.an, f (by omega) h.l0, f (by omega) h.l, f (by omega) h.n, f (by omega) h.t, f (by omega) h.k⟩
/-- the copy whose questions' names are folded, while it is filled -/
structure OQ (m : Msg) (q a s d : Value) (stop : Int) (w0 : World) (b c T n t k D o : Nat) (qv : Value) (i : Nat) (W : World) : Prop where
  ri : RI m q a s d stop w0 b c T n t k W
  dd : W.heap[D]? = some (.deferred (some []))
  row : W.heap[o]? = some (.cells (MC m qv a s d) 27 (0, 0))
  own : W.ownsRow (o + 1) 47 3 qv i (encQn ((m.qs.take i).map foldQ))
theorem ownsRow_below {w w' : World} {base e sz n : Nat} {v : Value} {xs : List Value} (h : w.ownsRow base e sz v n xs) (hb : Below w.heap.size w w') : w'.ownsRow base e sz v n xs := by
  refine ⟨h.1, ?_⟩
  rcases h.2 with h2 | ⟨g, cap, cur, h1, h2, h3, h4⟩
  · exact .inl h2
  · exact .inr ⟨g, cap, cur, h1, h2, (hb.block _ (Array.getElem?_eq_some_iff.1 h3).1).trans h3, h4⟩
theorem OQ.below {m : Msg} {q a s d : Value} {stop : Int} {w0 W W' : World} {b c T n t k D o : Nat} {qv : Value} {i : Nat} (h : OQ m q a s d stop w0 b c T n t k D o qv i W) (hb0 : b ≤ w0.heap.size) (hx : Below W.heap.size W W') : OQ m q a s d stop w0 b c T n t k D o qv i W' :=
  ⟨h.ri.below hb0 hx, (hx.block _ (Array.getElem?_eq_some_iff.1 h.dd).1).trans h.dd, (hx.block _ (Array.getElem?_eq_some_iff.1 h.row).1).trans h.row, ownsRow_below h.own hx⟩
theorem OQ.row2 {m : Msg} {q a s d : Value} {stop : Int} {w0 W W1 : World} {b c T n t k D o : Nat} {qv : Value} {i : Nat} (h : OQ m q a s d stop w0 b c T n t k D o qv i W) (hg : W.grownBy W1 qv.ownBlock) : ∀ j, j ≤ o → ∀ ob, W.heap[j]? = some ob → W1.heap[j]? = some ob := fun j hj ob hob =>
  (hg.block j (Array.getElem?_eq_some_iff.1 hob).1 (fun e => by have := (h.own.lt j e.symm).1; omega)).trans hob
theorem OQ_app {m : Msg} {q a s d : Value} {stop : Int} {w0 W W1 : World} {b c T n t k D o : Nat} {qv v1 : Value} {i : Nat} (h : OQ m q a s d stop w0 b c T n t k D o qv i W) (hb0 : b ≤ w0.heap.size) (hbc : b + 3 ≤ c) (hcT : c + 3 ≤ T) (hTo : T + 2 ≤ o) (hDo : D < o) (hi : i < m.qs.length) (hg : W.grownBy W1 qv.ownBlock)
    (hown : W1.ownsRow (o + 1) 47 3 v1 (i + 1) (encQn ((m.qs.take i).map foldQ) ++ [.string (mk (Nm.foldN (m.qs.getD i q0).name)), .int .i64 (m.qs.getD i q0).ty, .int .i64 (m.qs.getD i q0).cl])) :
    OQ m q a s d stop w0 b c T n t k D o v1 (i + 1) (W1.setCell ⟨o, 8, none⟩ v1) := by
  have f := h.row2 hg
  have hr1 := f o (Nat.le_refl _) _ h.row
  have hri : RI m q a s d stop w0 b c T n t k W1 := ⟨h.ri.hb.grown hg (Nat.le_trans hb0 h.ri.hb.size) (fun g e => by have := (h.own.lt g e).1; omega), f _ (by omega) _ h.ri.m, f _ (by omega) _ h.ri.st, f _ (by omega) _ h.ri.an, f _ (by omega) _ h.ri.l0, f _ (by omega) _ h.ri.l, f _ (by omega) _ h.ri.n, f _ (by omega) _ h.ri.t, f _ (by omega) _ h.ri.k⟩
  refine ⟨hri.setOther hbc hcT hr1 hTo _, (heap_set_other hr1 (by omega)).trans (f _ (by omega) _ h.dd), heap_set hr1, ?_⟩
  rw [(qn_step rfl hi).1, List.map_append]
  have : encQn ((m.qs.take i).map foldQ ++ [m.qs.getD i q0].map foldQ) = encQn ((m.qs.take i).map foldQ) ++ [.string (mk (Nm.foldN (m.qs.getD i q0).name)), .int .i64 (m.qs.getD i q0).ty, .int .i64 (m.qs.getD i q0).cl] := by
    unfold encQn
    rw [List.flatMap_append]
    rfl
  rw [this]
  exact World.ownsRow.setCellOther hown hr1 (by decide) _ _
end Go.Proofs.Ythfhmbooeemaaaa

