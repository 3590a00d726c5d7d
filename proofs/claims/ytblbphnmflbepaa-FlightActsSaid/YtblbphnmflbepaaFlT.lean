/- Flight: the reference's table: what the appends of its Add leave, in whatever order. -/
import Derived.Test.YtblbphnmflbepaaFlR
import Derived.Test.YtblbphnmflbepaaOrdD
namespace Go.Proofs.Ytblbphnmflbepaa
open Go.RowKit Go.Lib
set_option linter.unusedVariables false

/-- what each effect keeps: all below yb; of each row from yb on: its length, what of it is the whole list's head, and what is the one's -/
structure GA (yb : Nat) (Fl sC : List Value) (w w' : World) : Prop where
  bl : Below yb w w'
  ro : ∀ b cs, yb ≤ b → w.heap[b]? = some (.cells cs 46 (0, 0)) → ∃ cs' : Array Value, w'.heap[b]? = some (.cells cs' 46 (0, 0)) ∧ cs'.size = cs.size ∧
    (∀ m, m ≤ Fl.length → cs.toList.take m = Fl.take m → cs'.toList.take m = Fl.take m) ∧ (cs.toList.take 9 = sC → cs'.toList.take 9 = sC)
theorem GA.refl (yb : Nat) (Fl sC : List Value) (w : World) : GA yb Fl sC w w := ⟨Below.refl _ _, fun b cs _ h => ⟨cs, h, rfl, fun _ _ h => h, fun h => h⟩⟩
theorem GA.trans {yb : Nat} {Fl sC : List Value} {A B C : World} (h : GA yb Fl sC A B) (k : GA yb Fl sC B C) : GA yb Fl sC A C :=
  ⟨h.bl.trans k.bl, fun b cs hb hh => by
    obtain ⟨c1, e1, e2, e3, e4⟩ := h.ro b cs hb hh
    obtain ⟨c2, f1, f2, f3, f4⟩ := k.ro b c1 hb e1
    exact ⟨c2, f1, f2.trans e2, fun m hm hx => f3 m hm (e3 m hm hx), fun hx => f4 (e4 hx)⟩⟩
theorem GA.of_below {yb : Nat} {Fl sC : List Value} {w w' : World} (h : Below w.heap.size w w') (hy : yb ≤ w.heap.size) : GA yb Fl sC w w' :=
  ⟨h.mono hy, fun b cs _ hh => ⟨cs, (h.block b (Array.getElem?_eq_some_iff.1 hh).1).trans hh, rfl, fun _ _ h => h, fun h => h⟩⟩
/-- the list's head as an owned slice -/
def FOwn (yb : Nat) (Fl : List Value) (n : Nat) (v : Value) (w : World) : Prop := w.ownsRow yb 46 9 v n (Fl.take (n * 9)) ∧ (n = 0 → ∃ a, v = .slice a 0 0)
def FNew (yb : Nat) (sC : List Value) (v : Value) (w : World) : Prop := ∃ g, v = .slice (some ⟨g, 0, none⟩) 1 1 ∧ yb ≤ g ∧ ∃ cs : Array Value, w.heap[g]? = some (.cells cs 46 (0, 0)) ∧ cs.size = 9 ∧ cs.toList.take 9 = sC
theorem FOwn.stable {yb n : Nat} {Fl sC : List Value} {v : Value} {w w' : World} (h : FOwn yb Fl n v w) (hn : n * 9 ≤ Fl.length) (hg : GA yb Fl sC w w') : FOwn yb Fl n v w' := by
  refine ⟨⟨h.1.1, ?_⟩, h.2⟩
  rcases h.1.2 with h1 | ⟨g, cap, cur, e1, e2, e3, e4, e5, e6, e7⟩
  · exact .inl h1
  · obtain ⟨c2, f1, f2, f3, _⟩ := hg.ro g cur e2 e3
    exact .inr ⟨g, cap, c2, e1, e2, f1, e4, e5, f2.trans e6, f3 _ hn e7⟩
theorem FNew.stable {yb : Nat} {Fl sC : List Value} {v : Value} {w w' : World} (h : FNew yb sC v w) (hg : GA yb Fl sC w w') : FNew yb sC v w' := by
  obtain ⟨g, e1, e2, cs, e3, e4, e5⟩ := h
  obtain ⟨c2, f1, f2, _, f4⟩ := hg.ro g cs e2 e3
  exact ⟨g, e1, e2, c2, f1, f2.trans e4, f4 e5⟩
theorem FNew.slc {yb : Nat} {sC : List Value} {v : Value} {w : World} (h : FNew yb sC v w) (hs : sC.length = 9) : SlC w 9 v 1 sC := by
  obtain ⟨g, rfl, _, cs, e3, e4, e5⟩ := h
  have e6 : cs.toList = sC := by rw [← e5, List.take_of_length_le (by simp; omega)]
  refine SlC.of_owns (base := 0) (e := 46) (sz := 9) ⟨by rw [hs], .inr ⟨g, 1, cs, rfl, Nat.zero_le _, e3, Nat.le_refl _, by decide, e4, ?_⟩⟩
  rw [Nat.one_mul, e5]

/-- one append of the list's next part -/
theorem app_effect {yb n m : Nat} {Fl sC news : List Value} {v src : Value} {w : World} (h : FOwn yb Fl n v w) (hyb : yb ≤ w.heap.size) (hsrc : SlC w 9 src m news) (h1 : ∀ u ∈ news, u.oneCell' = true) (hfl : Fl.take (n * 9) ++ news = Fl.take ((n + m) * 9)) (hn : (n + m) * 9 ≤ Fl.length)
    (hbig : n + m ≤ 200000) (ty : TypeId) : ∃ v' w', (Builtin.append_ #[28, 28] ty #[v, src]).run Try.prog w = .ok v' w' ∧ GA yb Fl sC w w' ∧ FOwn yb Fl (n + m) v' w' ∧ ∃ a c, v' = .slice a (n + m) c := by
  obtain ⟨i, z, ht, hi, hz, hsz, hby, hzs, hpos⟩ := eiRS
  have hml : n + m ≤ maxLen := by unfold maxLen; omega
  have hmb : (n + m) * 96 ≤ 140737488355328 := by omega
  obtain ⟨hl, sa, scap, rfl, hm1, hm2, hz0, hc⟩ := hsrc
  -- a new row
  have fresh : ∀ {v' : Value} {w' : World}, w'.ownsRow w.heap.size 46 9 v' (n + m) (Fl.take (n * 9) ++ news) → w.grownBy w' none → (n + m = 0 → ∃ a, v' = .slice a 0 0) → GA yb Fl sC w w' ∧ FOwn yb Fl (n + m) v' w' ∧ ∃ a c, v' = .slice a (n + m) c := by
    intro v' w' ho hg h0
    have hb : Below w.heap.size w w' := ⟨hg.os, hg.tape, hg.output, hg.size, fun k hk => hg.block k hk (fun e => by cases e)⟩
    obtain ⟨a, c, e, _, _⟩ := (SlC.of_owns ho).slice
    rw [hfl] at ho
    exact ⟨GA.of_below hb hyb, ⟨owns_base ho hyb, h0⟩, a, c, e⟩
  cases sa with
  | none =>
    have hno : news = [] := by
      rcases hc with rfl | ⟨b, off, hno, _⟩
      · exact List.eq_nil_of_length_eq_zero (by simpa using hl)
      · cases hno
    subst hno
    have hm0 : m = 0 := by simp at hl; omega
    subst hm0
    obtain rfl := hz0 rfl
    have hrun := run_append_owned_none (P := Try.prog) (w := w) yb 28 ty 46 i 9 ht hi v n _ h.1
    obtain ⟨a, c, e, _, _⟩ := (SlC.of_owns h.1).slice
    exact ⟨v, w, hrun, GA.refl _ _ _ _, h, a, c, e⟩
  | some x =>
    have hnews : ∀ j u, news[j]? = some u → w.cell? (x.add j) = some u := by
      intro j u hu
      have hj : j < news.length := (List.getElem?_eq_some_iff.1 hu).1
      rcases hc with rfl | ⟨b, off, hx, _, hcell⟩
      · simp at hl
        rw [hl] at hj
        simp at hj
      · simp only [Option.some.injEq] at hx
        subst hx
        rw [Addr.add_lit, hcell j (by omega)]
        exact hu
    rcases h.1.2 with ⟨rfl, hn0⟩ | ⟨g, cap, cur, rfl, hbg, hg, hnc, hcm, hcz, htk⟩
    · subst hn0
      obtain ⟨v', w', hr, h2, h3, h4⟩ := run_append_own (P := Try.prog) w w.heap.size 28 ty 46 i z 9 96 ht hi hz hsz hby hzs hpos _ 0 [] (World.ownsRow_nil _ _ _ _) x m scap news hl hnews h1 (by omega) (by omega) (Nat.le_refl _)
      have h5 := fresh (v' := v') (w' := w') (by simpa using h2) (by simpa [Value.ownBlock] using h3) (fun hm0 => ⟨none, h4.2 ⟨rfl, by omega⟩⟩)
      exact ⟨v', w', hr, h5⟩
    · by_cases hroom : n + m ≤ cap
      · have hfit : n * i.size + news.length ≤ cur.size := by rw [hsz, hl, hcz, ← Nat.add_mul]; exact Nat.mul_le_mul_right _ hroom
        have hr := run_append_room (P := Try.prog) w 28 ty 46 i ht hi g n cap cur hg x m scap news (by rw [hsz]; exact hl) hnews h1 hroom hfit
        rw [hsz] at hr hfit
        refine ⟨_, _, hr, ?_⟩
        have hcl : (cur.toList.take (n * 9)).length = n * 9 := by rw [List.length_take]; simp <;> omega
        have hgl := (Array.getElem?_eq_some_iff.1 hg).1
        generalize hnew : (cur.toList.take (n * 9) ++ news ++ cur.toList.drop (n * 9 + news.length)).toArray = cur2 at *
        have hsz2 : cur2.size = cur.size := by rw [← hnew]; simp <;> omega
        have hpre : cur2.toList.take ((n + m) * 9) = Fl.take ((n + m) * 9) := by
          rw [← hnew, ← hfl]
          have e : (cur.toList.take (n * 9) ++ news).length = (n + m) * 9 := by rw [List.length_append, hcl, hl, ← Nat.add_mul]
          show (cur.toList.take (n * 9) ++ news ++ cur.toList.drop (n * 9 + news.length)).take ((n + m) * 9) = _
          rw [List.take_left' e, htk]
        have hlong : ∀ q, (n + m) * 9 ≤ q → cur2.toList.drop ((n + m) * 9) = cur.toList.drop ((n + m) * 9) := fun q _ => by
          rw [← hnew]
          have e : (cur.toList.take (n * 9) ++ news).length = (n + m) * 9 := by rw [List.length_append, hcl, hl, ← Nat.add_mul]
          show (cur.toList.take (n * 9) ++ news ++ cur.toList.drop (n * 9 + news.length)).drop ((n + m) * 9) = _
          rw [List.drop_left' e, hl, ← Nat.add_mul]
        have h9 : cur.toList.take 9 = sC → cur2.toList.take 9 = sC := fun hs => by
          by_cases hn0 : n = 0
          · obtain ⟨a, ha⟩ := h.2 hn0
            simp only [Value.slice.injEq] at ha
            have hm0 : m = 0 := by omega
            have hnl : news = [] := List.eq_nil_of_length_eq_zero (by rw [hl, hm0])
            rw [← hnew, hnl, hn0]
            simpa using hs
          · have hle : 9 ≤ n * 9 := by omega
            have : cur2.toList.take 9 = cur.toList.take 9 := by
              rw [← hnew]
              show (cur.toList.take (n * 9) ++ news ++ cur.toList.drop (n * 9 + news.length)).take 9 = _
              rw [List.append_assoc, List.take_append_of_le_length (by omega), List.take_take, Nat.min_eq_left hle]
            rw [this, hs]
        have hpref : ∀ q, q ≤ Fl.length → cur.toList.take q = Fl.take q → cur2.toList.take q = Fl.take q := fun q hq hx => by
          by_cases hqm : q ≤ (n + m) * 9
          · have := congrArg (List.take q) hpre
            rwa [List.take_take, List.take_take, Nat.min_eq_left hqm] at this
          · have e1 : cur2.toList.take q = cur2.toList.take ((n + m) * 9) ++ (cur2.toList.drop ((n + m) * 9)).take (q - (n + m) * 9) := by
              rw [← List.take_add, show (n + m) * 9 + (q - (n + m) * 9) = q by omega]
            have e2 : cur.toList.take q = cur.toList.take ((n + m) * 9) ++ (cur.toList.drop ((n + m) * 9)).take (q - (n + m) * 9) := by
              rw [← List.take_add, show (n + m) * 9 + (q - (n + m) * 9) = q by omega]
            have e3 : cur.toList.take ((n + m) * 9) = Fl.take ((n + m) * 9) := by
              have := congrArg (List.take ((n + m) * 9)) hx
              rwa [List.take_take, List.take_take, Nat.min_eq_left (by omega)] at this
            rw [e1, hpre, hlong _ (Nat.le_refl _), ← e3, ← e2, hx]
        refine ⟨⟨⟨rfl, rfl, rfl, by rw [setRow_size]; exact Nat.le_refl _, fun b hb => setRow_other _ _ _ _ (by omega)⟩, fun b cs hb hh => ?_⟩, ⟨⟨?_, .inr ⟨g, cap, cur2, rfl, hbg, heap_row hg, hroom, hcm, by rw [hsz2, hcz], hpre⟩⟩, fun h0 => ?_⟩, _, _, rfl⟩
        · by_cases hbg2 : b = g
          · subst hbg2
            rw [hg] at hh
            simp only [Option.some.injEq, Obj.cells.injEq, and_true] at hh
            subst hh
            exact ⟨cur2, heap_row hg, hsz2, hpref, h9⟩
          · exact ⟨cs, (setRow_other _ _ _ _ hbg2).trans hh, rfl, fun _ _ h => h, fun h => h⟩
        · rw [List.length_take]; omega
        · have hn0 : n = 0 := by omega
          obtain ⟨a, ha⟩ := h.2 hn0
          simp only [Value.slice.injEq] at ha
          obtain ⟨_, _, rfl⟩ := ha
          exact ⟨_, by rw [h0]⟩
      · have holds : ∀ j u, (Fl.take (n * 9))[j]? = some u → w.cell? ((⟨g, 0, none⟩ : Addr).add j) = some u := h.1.cells (g := g) rfl
        obtain ⟨v2, w2, hrun2, ho2, hg2⟩ := run_append_arg_grows (P := Try.prog) (w := w) 28 ty 46 i z 9 96 ht hi hz hsz hby hzs hpos ⟨g, 0, none⟩ n cap (Fl.take (n * 9)) h.1.1 holds x m scap news hl hnews (by omega) hml hmb
        exact ⟨v2, w2, hrun2, fresh ho2 hg2 (fun h0 => by omega)⟩
/-- a row that is owned, one element set -/
theorem owns_setE {e : TypeId} {w : World} {base g n cap k : Nat} {l : List Sn} {s : Sn} (ho : w.ownsRow base e 9 (.slice (some ⟨g, 0, none⟩) n cap) n (encN l)) (hl : l.length = n) (hk : k < n) :
    (w.setCells g (k * 9) (snC s)).ownsRow base e 9 (.slice (some ⟨g, 0, none⟩) n cap) n (encN (l.set k s)) ∧ w.grownBy (w.setCells g (k * 9) (snC s)) (some g) := by
  rcases ho.2 with ⟨h, _⟩ | ⟨g', cap', cur, hv, hbg, hg, hnc, hcm, hcz, htk⟩
  · cases h
  · simp only [Value.slice.injEq, Option.some.injEq, Addr.mk.injEq, and_true, true_and] at hv
    obtain ⟨rfl, rfl⟩ := hv
    obtain ⟨c2, h2, hz2, hgr⟩ := setCells_row (snC s) (k * 9) w cur hg
    have hsz : n * 9 ≤ cap * 9 := Nat.mul_le_mul_right _ hnc
    have hsp : ∀ j, j < n * 9 → (w.cell? ⟨g, j, none⟩).isSome = true := fun j hj => by
      rw [cell_row hg, Array.getElem?_eq_getElem (by omega)]; rfl
    refine ⟨owns_of_cells h2 hbg hnc hcm (by rw [hz2, hcz]) (by rw [encN_length, List.length_set, hl]) ?_, hgr⟩
    intro j hj
    have hset : l.set k s = l.take k ++ [s] ++ l.drop (k + 1) := by
      rw [List.set_eq_take_append_cons_drop, if_pos (by omega)]; simp
    have htl : (encN (l.take k)).length = k * 9 := by rw [encN_length, List.length_take]; omega
    have hone : encN [s] = snC s := by simp [encN]
    have hsl : (snC s).length = 9 := rfl
    have hold : ∀ j, j < n * 9 → w.cell? ⟨g, j, none⟩ = (encN l)[j]? := fun j hj => by
      rw [cell_row hg, ← htk, List.getElem?_take, if_pos hj]; simp
    rw [hset, encN_append, encN_append, hone]
    by_cases h1 : j < k * 9
    · rw [World.cell?_setCells_out g _ _ _ ⟨g, j, none⟩ (fun _ _ => .inl h1), hold j hj, List.append_assoc, List.getElem?_append_left (by omega), encN_take, List.getElem?_take, if_pos h1]
    · by_cases h3 : j < k * 9 + 9
      · have := World.cell?_setCells_in g (snC s) (k * 9) w (fun t ht => hsp _ (by rw [hsl] at ht; omega)) (j - k * 9) (by rw [hsl]; omega)
        rw [show k * 9 + (j - k * 9) = j by omega] at this
        rw [this, List.append_assoc, List.getElem?_append_right (by omega), htl, List.getElem?_append_left (by rw [hsl]; omega), List.getElem?_eq_getElem (by rw [hsl]; omega)]
      · rw [World.cell?_setCells_out g _ _ _ ⟨g, j, none⟩ (fun _ _ => .inr (by rw [hsl]; show _ ≤ j; omega)), hold j hj, List.getElem?_append_right (by rw [List.length_append, htl, hsl]; omega), List.length_append, htl, hsl, encN_drop, List.getElem?_drop, show (k + 1) * 9 + (j - (k * 9 + 9)) = j by omega]
/-- what is known of each effect of the region -/
structure FAdd (yb k N : Nat) (Fl sC : List Value) (i : Nat) (v : Value) (w : World) : Prop where
  f1 : i = 1 → FOwn yb Fl 0 v w
  f8 : i = 8 → FOwn yb Fl k v w
  f10 : i = 10 → FNew yb sC v w
  f11 : i = 11 → FOwn yb Fl (k + 1) v w
  f18 : i = 18 → FOwn yb Fl (k + 1 + (N - k)) v w
theorem FAdd.stable {yb k N : Nat} {Fl sC : List Value} {i : Nat} {v : Value} {w w' : World} (hk : k ≤ N) (hF : Fl.length = (N + 1) * 9) (h : FAdd yb k N Fl sC i v w) (hg : GA yb Fl sC w w') : FAdd yb k N Fl sC i v w' :=
  ⟨fun e => (h.f1 e).stable (by omega) hg, fun e => (h.f8 e).stable (by omega) hg, fun e => (h.f10 e).stable hg, fun e => (h.f11 e).stable (by omega) hg, fun e => (h.f18 e).stable (by omega) hg⟩
def SAdd (_ : Nat) (v : Value) : Prop := ∃ a n c, v = .slice a n c
theorem effR_run {P : Program} {t : TypeId} {w w' : World} {o : Oper} {a : Act} {R : Value → World → Prop} (s x : Operand) (ho : o.op = .call { callee := .builtin .append, args := #[s, x], argTypes := #[t, t] }) {v src v' : Value} (hs : a.eval s = v) (hx : a.eval x = src)
    (hrun : (Builtin.append_ #[t, t] o.type #[v, src]).run P w = .ok v' w') (h : R v' w') : Go.Mix.EffR P R ((execOp a.eval o).run P w) := by
  unfold execOp
  simp only [ho, resolve, invoke, builtin, Sem.run_bind, Sem.run_pure, Result.andThen_ok, List.map_toArray, List.map_cons, List.map_nil, hs, hx, hrun]
  exact h
end Go.Proofs.Ytblbphnmflbepaa

