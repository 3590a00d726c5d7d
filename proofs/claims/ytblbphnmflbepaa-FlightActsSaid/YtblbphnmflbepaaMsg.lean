/- Messages in memory; the contracts of slices.Clone, match.Ask, Reply, Refuse, and of the reference's. -/
import Derived.Test.YtblbphnmflbepaaOpn
import Derived.Test.YtblbphnmflbepaaMgB
import Derived.Test.YtblbphnmflbepaaSm
import Derived.Laws.Rows
import Derived.Laws.Tables
import Derived.Laws.CopyOwn
namespace Go.Proofs.Ytblbphnmflbepaa
open Go.RowKit Go.Shelf Go.Sq
set_option linter.unusedVariables false

/-- a question -/
structure Qn where
  name : List UInt8
  ty : Int
  cl : Int
deriving DecidableEq
def en3 (q : Qn) : List Value := [.string (mk q.name), .int .i64 q.ty, .int .i64 q.cl]
def encQn (l : List Qn) : List Value := l.flatMap en3
theorem encQn_length (l : List Qn) : (encQn l).length = l.length * 3 := by
  induction l with
  | nil => rfl
  | cons q l ih =>
    have : encQn (q :: l) = en3 q ++ encQn l := rfl
    rw [this, List.length_append, ih]
    simp [en3]
    omega
def Qns (w : World) (v : Value) (l : List Qn) : Prop := SlC w 3 v l.length (encQn l)
theorem Qns.below {B : Nat} {w w' : World} {v : Value} {l : List Qn} (h : Qns w v l) (hb : Below B w w') (hB : w.heap.size ≤ B) : Qns w' v l := SlC.below h hb hB
def q0 : Qn := ⟨[], 0, 0⟩
theorem one_qs (l : List Qn) : ∀ u ∈ encQn l, u.oneCell' = true := by
  intro u hu
  obtain ⟨r, _, h⟩ := List.mem_flatMap.1 hu
  simp [en3] at h
  rcases h with rfl | rfl | rfl <;> rfl
theorem encQn_get : ∀ (l : List Qn) (j : Nat), j < l.length → (encQn l)[j * 3]? = some (.string (mk (l.getD j q0).name)) ∧ (encQn l)[j * 3 + 1]? = some (.int .i64 (l.getD j q0).ty) ∧ (encQn l)[j * 3 + 2]? = some (.int .i64 (l.getD j q0).cl)
  | [], j, h => by simp at h
  | p :: l, 0, _ => ⟨rfl, rfl, rfl⟩
  | p :: l, j + 1, h => by
    have := encQn_get l j (by simpa using h)
    have e : encQn (p :: l) = en3 p ++ encQn l := rfl
    have key : ∀ i, (encQn (p :: l))[(j + 1) * 3 + i]? = (encQn l)[j * 3 + i]? := fun i => by
      rw [e, List.getElem?_append_right (by simp [en3]; omega)]
      congr 1
      simp [en3]
      omega
    have k0 := key 0
    simp only [Nat.add_zero] at k0
    rw [k0, key 1, key 2]
    simpa using this
/-- the three cells of an element -/
def QnAt (w : World) (b off : Nat) (q : Qn) : Prop := w.cell? ⟨b, off, none⟩ = some (.string (mk q.name)) ∧ w.cell? ⟨b, off + 1, none⟩ = some (.int .i64 q.ty) ∧ w.cell? ⟨b, off + 2, none⟩ = some (.int .i64 q.cl)
theorem Qns.at {w : World} {a : Option Addr} {m cap : Nat} {l : List Qn} (h : Qns w (.slice a m cap) l) (hn : 0 < l.length) :
    ∃ b off, a = some ⟨b, off, none⟩ ∧ b < w.heap.size ∧ ∀ j, j < l.length → QnAt w b (off + j * 3) (l.getD j q0) := by
  obtain ⟨_, b, off, ha, hlt, h4⟩ := SlC.at h hn
  refine ⟨b, off, ha, hlt, fun j hj => ?_⟩
  obtain ⟨e0, e1, e2⟩ := encQn_get l j hj
  refine ⟨by rw [h4 (j * 3) (by omega), e0], ?_, ?_⟩
  · rw [Nat.add_assoc, h4 (j * 3 + 1) (by omega), e1]
  · rw [Nat.add_assoc, h4 (j * 3 + 2) (by omega), e2]

/-! ### a slice, and the type of its block -/
def SlT (w : World) (e sz : Nat) (v : Value) (n : Nat) (cs : List Value) : Prop := SlC w sz v n cs ∧ ∀ a m c, v = .slice (some a) m c → 0 < m → ∃ xs fr, w.heap[a.block]? = some (.cells xs e fr)
theorem SlT.below {w w' : World} {e sz n : Nat} {v : Value} {cs : List Value} (h : SlT w e sz v n cs) (hb : Below w.heap.size w w') : SlT w' e sz v n cs :=
  ⟨h.1.below hb (Nat.le_refl _), fun a m c hv hm => by
    obtain ⟨xs, fr, hx⟩ := h.2 a m c hv hm
    exact ⟨xs, fr, (hb.block _ (Array.getElem?_eq_some_iff.1 hx).1).trans hx⟩⟩
theorem SlT.nil (w : World) (e sz : Nat) : SlT w e sz (.slice none 0 0) 0 [] := ⟨SlC.nil _ _, fun a m c h => by cases h⟩
theorem SlT.of_owns {w : World} {base e sz n : Nat} {v : Value} {cs : List Value} (h : w.ownsRow base e sz v n cs) : SlT w e sz v n cs := by
  refine ⟨SlC.of_owns h, fun a m c hv hm => ?_⟩
  rcases h.2 with ⟨h1, _⟩ | ⟨g, cap, cur, h1, _, hg, _⟩
  · rw [hv] at h1; cases h1
  · rw [hv] at h1
    simp only [Value.slice.injEq, Option.some.injEq] at h1
    obtain ⟨rfl, _, _⟩ := h1
    exact ⟨_, _, hg⟩
theorem SlT.setRow {w : World} {e sz n g T : Nat} {v : Value} {cs : List Value} {old new : Array Value} {fr : Nat × Nat} (h : SlT w e sz v n cs) (hg : w.heap[g]? = some (.cells old T fr)) (hT : T ≠ e) : SlT (w.setRow g new) e sz v n cs := by
  obtain ⟨⟨h1, a, cap, rfl, h2, h3, hz, h4⟩, h5⟩ := h
  have key : ∀ x, a = some x → 0 < n → x.block ≠ g := fun x hx hn e' => by
    obtain ⟨xs, fr', hh⟩ := h5 x n cap (by rw [hx]) hn
    rw [e', hg] at hh
    simp only [Option.some.injEq, Obj.cells.injEq] at hh
    exact hT hh.2.1
  refine ⟨⟨h1, a, cap, rfl, h2, h3, hz, ?_⟩, fun x m c hv hm => ?_⟩
  · rcases h4 with h4 | ⟨b, off, ha, hlt, h4⟩
    · exact .inl h4
    · by_cases hn : n = 0
      · exact .inl hn
      · refine .inr ⟨b, off, ha, by simpa using hlt, fun j hj => ?_⟩
        rw [cell_setRow_other _ _ _ ⟨b, off + j, none⟩ (show b ≠ g from key _ ha (by omega))]
        exact h4 j hj
  · obtain ⟨xs, fr', hh⟩ := h5 x m c hv hm
    simp only [Value.slice.injEq] at hv
    obtain ⟨rfl, rfl, rfl⟩ := hv
    exact ⟨xs, fr', (setRow_other _ _ _ _ (key _ rfl hm)).trans hh⟩
theorem SlT.setCell {w : World} {e sz n g i T : Nat} {v u : Value} {cs : List Value} {old : Array Value} {fr : Nat × Nat} (h : SlT w e sz v n cs) (hg : w.heap[g]? = some (.cells old T fr)) (hT : T ≠ e) : SlT (w.setCell ⟨g, i, none⟩ u) e sz v n cs := by
  rw [setCell_eq_setRow w g i old T fr u hg]
  exact h.setRow hg hT
theorem slt_new (w : World) (sz n e : Nat) (cs : List Value) (h : cs.length = n * sz) (hn : n ≤ maxLen) : SlT (w.alloc (.cells cs.toArray e)) e sz (.slice (some ⟨w.heap.size, 0, none⟩) n n) n cs :=
  ⟨slc_new w sz n e cs h hn, fun a m c hv hm => by
    simp only [Value.slice.injEq, Option.some.injEq] at hv
    obtain ⟨rfl, _, _⟩ := hv
    exact ⟨_, _, World.alloc_heap_new _ _⟩⟩

/-- a message -/
structure Msg where
  id : Int
  resp : Bool
  op : Int
  auth : Bool
  cut : Bool
  des : Bool
  avail : Bool
  code : Int
  qs : List Qn
  an : List Rc.RR
  sv : List Rc.RR
  ad : List Rc.RR
  edns : Bool
  size : Int
/-- as cells, with the places of its lists -/
abbrev MC (m : Msg) (q a s d : Value) : Array Value := #[.int .i64 m.id, .bool m.resp, .int .i64 m.op, .bool m.auth, .bool m.cut, .bool m.des, .bool m.avail, .int .i64 m.code, q, a, s, d, .bool m.edns, .int .i64 m.size]
abbrev MV (m : Msg) (q a s d : Value) : Value := .agg (MC m q a s d)
structure MsgL (w : World) (m : Msg) (q a s d : Value) : Prop where
  qs : Qns w q m.qs
  an : RRs w a m.an
  sv : RRs w s m.sv
  ad : RRs w d m.ad
theorem MsgL.below {B : Nat} {w w' : World} {m : Msg} {q a s d : Value} (h : MsgL w m q a s d) (hb : Below B w w') (hB : w.heap.size ≤ B) : MsgL w' m q a s d := ⟨h.qs.below hb hB, h.an.below hb hB, h.sv.below hb hB, h.ad.below hb hB⟩
/-- the same, with the types of the lists' blocks -/
structure MsgT (w : World) (m : Msg) (q a s d : Value) : Prop where
  qs : SlT w 34 3 q m.qs.length (encQn m.qs)
  an : SlT w 90 5 a m.an.length (encR m.an)
  sv : SlT w 90 5 s m.sv.length (encR m.sv)
  ad : SlT w 90 5 d m.ad.length (encR m.ad)
theorem MsgT.lies {w : World} {m : Msg} {q a s d : Value} (h : MsgT w m q a s d) : MsgL w m q a s d := ⟨h.qs.1, h.an.1, h.sv.1, h.ad.1⟩
theorem MsgT.below {w w' : World} {m : Msg} {q a s d : Value} (h : MsgT w m q a s d) (hb : Below w.heap.size w w') : MsgT w' m q a s d := ⟨h.qs.below hb, h.an.below hb, h.sv.below hb, h.ad.below hb⟩
theorem MsgT.setRow {w : World} {m : Msg} {q a s d : Value} {g : Nat} {old new : Array Value} {fr : Nat × Nat} (h : MsgT w m q a s d) (hg : w.heap[g]? = some (.cells old 40 fr)) : MsgT (w.setRow g new) m q a s d :=
  ⟨h.qs.setRow hg (by decide), h.an.setRow hg (by decide), h.sv.setRow hg (by decide), h.ad.setRow hg (by decide)⟩
/-- it returns a message, in new memory -/
def RetM (w : World) (m : Msg) (e : Ending) (w' : World) : Prop := ∃ q a s d, e = .returned (MV m q a s d) ∧ MsgT w' m q a s d ∧ Below w.heap.size w w'

def askN (id : Int) (q : Qn) : Msg := ⟨id, false, 0, false, false, false, false, 0, [q], [], [], [], true, 1232⟩

theorem undMsg : ∃ fs, Try.prog.underlying 40 = some (.struct fs) := ⟨_, Try.underlying40⟩
theorem infoMsg : (Try.prog.info? 40).map (·.size) = some 14 := by kernel_rfl
/-- where a function's result lies in a variable of its own -/
theorem ret_msg {fn : Func} {p : Tmp} {a : Act} {W : World} {R : Ending → World → Prop} {m : Msg} {q an s d : Value} {g : Nat} (hr : fn.results = #[.cell p 40]) (hp : a.tmps.getD p undef = .pointer (some ⟨g, 0, none⟩)) (hd : a.defers = [])
    (hg : W.heap[g]? = some (.cells (MC m q an s d) 40 (0, 0))) (h : R (.returned (MV m q an s d)) W) : bodyPost Try.prog fn R Exit.ret a W := by
  obtain ⟨fs, hu⟩ := undMsg
  exact bodyPost_ret (results_cell_row hr _ _ g _ _ (0, 0) _ hp hg hu rfl infoMsg) hd h
theorem heap_new1 (w : World) (o1 o2 : Obj) : ((w.alloc o1).alloc o2).heap[w.heap.size + 1]? = some o2 := by
  have := World.alloc_heap_new (w.alloc o1) o2
  rwa [World.size_alloc] at this

set_option maxRecDepth 100000 in
set_option maxHeartbeats 1000000 in
theorem Ask_any (id : Int) (q : Qn) (w : World) :
    Calls Try.prog 31 #[.int .i64 id, .agg #[.string (mk q.name), .int .i64 q.ty, .int .i64 q.cl]] w (RetM w (askN (bits .and .i64 id 65535) q)) := by
  obtain ⟨qn, qt, qc⟩ := q
  generalize hid : bits .and .i64 id 65535 = i2
  go_enter Try.func31, Try.ntmps31
  go_wp2_with fail
  refine ret_msg (m := askN i2 ⟨qn, qt, qc⟩) rfl rfl rfl (heap_old (heap_new1 _ _ _) _) ⟨_, _, _, _, rfl, ⟨?_, SlT.nil _ _ _, SlT.nil _ _ _, SlT.nil _ _ _⟩, ?_⟩
  · have := slt_new ((w.alloc (.cells #[.string (mk qn), .int .i64 qt, .int .i64 qc] 34)).alloc (.cells (MC (askN i2 ⟨qn, qt, qc⟩) (.slice (some ⟨w.heap.size + 1 + 1, 0, none⟩) 1 1) (.slice none 0 0) (.slice none 0 0) (.slice none 0 0)) 40)) 3 1 34 (en3 ⟨qn, qt, qc⟩) rfl (by decide)
    rw [World.size_alloc, World.size_alloc] at this
    exact this
  · exact (((Below.refl _ w).alloc (Nat.le_refl _) _).alloc (by simp) _).alloc (by simp; omega) _
set_option maxRecDepth 100000 in
set_option maxHeartbeats 1000000 in
theorem refAsk_any (id : Int) (q : Qn) (w : World) :
    Calls Try.prog 23 #[.int .i64 id, .agg #[.string (mk q.name), .int .i64 q.ty, .int .i64 q.cl]] w (RetM w (askN (bits .and .i64 id 65535) q)) := by
  obtain ⟨qn, qt, qc⟩ := q
  generalize hid : bits .and .i64 id 65535 = i2
  go_enter Try.func23, Try.ntmps23
  go_wp2_with fail
  refine ret_msg (m := askN i2 ⟨qn, qt, qc⟩) rfl rfl rfl (heap_old (heap_new1 _ _ _) _) ⟨_, _, _, _, rfl, ⟨?_, SlT.nil _ _ _, SlT.nil _ _ _, SlT.nil _ _ _⟩, ?_⟩
  · have := slt_new ((w.alloc (.cells #[.string (mk qn), .int .i64 qt, .int .i64 qc] 34)).alloc (.cells (MC (askN i2 ⟨qn, qt, qc⟩) (.slice (some ⟨w.heap.size + 1 + 1, 0, none⟩) 1 1) (.slice none 0 0) (.slice none 0 0) (.slice none 0 0)) 40)) 3 1 34 (en3 ⟨qn, qt, qc⟩) rfl (by decide)
    rw [World.size_alloc, World.size_alloc] at this
    exact this
  · exact (((Below.refl _ w).alloc (Nat.le_refl _) _).alloc (by simp) _).alloc (by simp; omega) _

/-! ### append to an empty slice that was built just now -/
theorem run_app0 {P : Program} {t e sz bytes : Nat} (ei : EI P t e sz bytes) (w : World) (ty g : Nat) {src : Value} {m : Nat} {news : List Value}
    (hsrc : SlC w sz src m news) (h1 : ∀ u ∈ news, u.oneCell' = true) (h63 : m ≤ maxLen) (hbytes : m * bytes ≤ 140737488355328) :
    ∃ v' w', (Builtin.append_ #[t, t] ty #[.slice (some ⟨g, 0, none⟩) 0 0, src]).run P w = .ok v' w' ∧ (∃ a c, v' = .slice a m c) ∧ SlT w' e sz v' m news ∧ Below w.heap.size w w' := by
  obtain ⟨i, z, ht, hi, hz, hsz, hby, hzs, hpos⟩ := ei
  obtain ⟨hl, a, cap, rfl, hm, hcm, hz0, hc⟩ := hsrc
  by_cases h0 : m = 0
  · subst h0
    have hn : news = [] := List.eq_nil_of_length_eq_zero (by simpa using hl)
    subst hn
    have hrun : (Builtin.append_ #[t, t] ty #[.slice (some ⟨g, 0, none⟩) 0 0, .slice a 0 cap]).run P w = .ok (.slice (some ⟨g, 0, none⟩) 0 0) w := by
      cases a with
      | some x =>
        have hfc := run_firstCells_some (P := P) w i.size 0 x 0 cap [] (by simp) (fun j u h => by simp at h)
        simp [Builtin.append_, run_underlying ht, sizeOf, typeInfo, hi, Builtin.lenOf, hfc, storeCells]
      | none =>
        obtain rfl := hz0 rfl
        have hfc : (Builtin.firstCells i.size 0 (.slice none 0 0)).run P w = .ok #[] w := by simp [Builtin.firstCells]
        simp [Builtin.append_, run_underlying ht, sizeOf, typeInfo, hi, Builtin.lenOf, hfc, storeCells]
    exact ⟨_, _, hrun, ⟨_, _, rfl⟩, ⟨(show SlC w sz _ 0 [] from ⟨by simp, some ⟨g, 0, none⟩, 0, rfl, Nat.le_refl _, Nat.zero_le _, fun h => (by cases h), Or.inl rfl⟩), fun a m c hv hm => by cases hv; omega⟩, Below.refl _ _⟩
  · cases a with
    | none => have := hz0 rfl; omega
    | some x =>
      have hnews : ∀ j u, news[j]? = some u → w.cell? (x.add j) = some u := by
        intro j u hu
        have hj : j < news.length := (List.getElem?_eq_some_iff.1 hu).1
        rcases hc with rfl | ⟨b, off, hx, _, hcell⟩
        · omega
        · simp only [Option.some.injEq] at hx
          subst hx
          rw [Addr.add_lit, hcell j (by omega)]
          exact hu
      obtain ⟨v', w', hrun, ho, hg⟩ := run_append_arg_grows (P := P) (w := w) t ty e i z sz bytes ht hi hz hsz hby hzs hpos ⟨g, 0, none⟩ 0 0 [] (by simp) (fun j u h => by simp at h) x m cap news hl hnews (by omega) (by omega) (by rw [Nat.zero_add]; exact hbytes)
      have hs := SlT.of_owns ho
      rw [Nat.zero_add, List.nil_append] at hs
      obtain ⟨a', c', hv', _, _⟩ := hs.1.slice
      exact ⟨v', w', hrun, ⟨a', c', hv'⟩, hs, ⟨hg.os, hg.tape, hg.output, hg.size, fun k hk => hg.block k hk (by simp)⟩⟩
theorem wp_app0 {P : Program} {t e sz bytes : Nat} (ei : EI P t e sz bytes) {w : World} {ops : Array Oper} {rest : List Oper} {o : Oper} {a : Act} {Q : Exit → Act → World → Prop} (s x : Operand) (hgd : o.guard = none)
    (ho : o.op = .call { callee := .builtin .append, args := #[s, x], argTypes := #[t, t] }) (g : Nat) {src : Value} {m : Nat} {news : List Value} (hs : a.eval s = .slice (some ⟨g, 0, none⟩) 0 0) (hx : a.eval x = src)
    (hsrc : SlC w sz src m news) (h1 : ∀ u ∈ news, u.oneCell' = true) (h63 : m ≤ maxLen) (hbytes : m * bytes ≤ 140737488355328)
    (h : ∀ a' c' w', SlT w' e sz (.slice a' m c') m news → Below w.heap.size w w' → wpList P ops Q rest (a.put o.dst (.slice a' m c')) w') : wpList P ops Q (o :: rest) a w :=
  wpList_plain hgd fun K hK => by
    obtain ⟨v', w', hr, ⟨a', c', rfl⟩, h2, h3⟩ := run_app0 ei w o.type g hsrc h1 h63 hbytes
    unfold Oper.wp execOp
    simp only [ho, resolve, invoke, builtin, Sem.run_bind, Sem.run_pure, Result.andThen_ok, List.map_toArray, List.map_cons, List.map_nil, hs, hx, hr]
    exact hK _ _ (h a' c' w' h2 h3)

theorem infoQn : (Try.prog.info? 34).map (fun i => (i.zero, i.size, i.bytes)) = some (some (.agg #[.string ⟨#[]⟩, .int .i64 0, .int .i64 0]), 3, 32) := by kernel_rfl
theorem eiQn : EI Try.prog 37 34 3 32 := ei_of Try.underlying37 infoQn rfl (by decide)

/-! ### slices.Clone -/
theorem run_eql_sliceNil {P : Program} (t e : TypeId) (a : Option Addr) (l c : Nat) (h : P.underlying t = some (.slice e)) (w : World) : (binOp .eql t (.slice a l c) (.slice none 0 0)).run P w = .ok (.bool a.isNone) w := by
  have h1 : ∀ d : Nat, (Op.equalIn (d + 1) t (.slice a l c) (.slice none 0 0)).run P w = .ok a.isNone w := fun d => by
    cases a <;> simp [Op.equalIn, run_underlying h]
  simp only [binOp]
  simp [Op.equal, Op.maxDepth, h1 9999]
end Go.Proofs.Ytblbphnmflbepaa

