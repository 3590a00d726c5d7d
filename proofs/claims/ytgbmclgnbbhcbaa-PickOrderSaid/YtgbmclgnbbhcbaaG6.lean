/- Merged texts of the seat, in their order: Opn, OpnS, PkV, PkW, PkX, PkY, PkT. -/
import Derived.Test.YtgbmclgnbbhcbaaG2
import Derived.Test.YtgbmclgnbbhcbaaG3
import Derived.Test.YtgbmclgnbbhcbaaG4
import Derived.Test.YtgbmclgnbbhcbaaG5
import Derived.Deep.Slices
import Derived.Deep.Fields
import Derived.BigQuiet
import Derived.Deep.QuietTactic
/- Arguments opened: records, questions, messages, and slices of structs of one-cell fields. No conditions. -/
namespace Go.Proofs.Ytgbmclgnbbhcbaa
set_option maxRecDepth 100000
open Go.RowKit Go.ChangeShapes Go.WideShapes Go.Deep
set_option linter.unusedVariables false

/-! ### structs of one-cell fields -/
theorem openS {H : Type} {enc : TypeId × Value → H} {P : Program} {w : World} {base b0 : Nat} {spare : Nat → Bool} {held : Bool} {r : Reach} {t : TypeId} {fs : Array Field} {v : Value} {d : DataW H} {p : List MemPlace}
    (hs : P.underlying t = some (.struct fs)) (hone : oneCellFields P fs = true) (hC : P.cellsOf t = fs.size) (hv : Value.okWide P w r b0 t v) (h : DataW.Trod enc P w base spare held t v d p) :
    ∃ cs : List Value, v = .agg cs.toArray ∧ cs.length = fs.size ∧ ∃ n, ∀ (j : Nat) (f : Field), fs[j]? = some f → ∃ u y, cs[j]? = some u ∧ DataW.trod enc P w base spare held n f.type [u] = some y := by
  obtain ⟨cs, rfl, hsz⟩ := okWide_struct hs hv
  obtain ⟨l⟩ := cs
  obtain ⟨fuel, hf⟩ := h
  obtain ⟨xs, n, _, _, hl, hlen, hg⟩ := DataW.trod_struct hs hf
  have hll : l.length = fs.size := by simpa [hC] using hsz
  refine ⟨l, rfl, hll, n, fun j f hj => ?_⟩
  obtain ⟨o, k⟩ := hone_of hone j f hj
  have hjl : j < fs.size := (Array.getElem?_eq_some_iff.1 hj).1
  have h1 := hg j f hj
  rw [o, k] at h1
  have hcells : (Value.agg (Array.mk l)).cells.toList = l := rfl
  rw [hcells] at h1
  have h2 : (l.drop j).take 1 = [l[j]'(by omega)] := by
    rw [List.drop_eq_getElem_cons (by omega)]
    rfl
  rw [h2, List.getElem?_eq_getElem (by omega)] at h1
  exact ⟨_, _, List.getElem?_eq_getElem (by omega), h1⟩

/-- an element's cells, field by field -/
theorem openE {H : Type} {enc : TypeId × Value → H} {P : Program} {w : World} {base : Nat} {spare : Nat → Bool} {held : Bool} {e : TypeId} {fs : Array Field} {fuel : Nat} {cs : List Value} {x : DataW H × List MemPlace}
    (hs : P.underlying e = some (.struct fs)) (hone : oneCellFields P fs = true) (hC : P.cellsOf e = fs.size) (h : DataW.trod enc P w base spare held fuel e cs = some x) :
    cs.length = fs.size ∧ ∃ n, ∀ (j : Nat) (f : Field), fs[j]? = some f → ∃ u y, cs[j]? = some u ∧ DataW.trod enc P w base spare held n f.type [u] = some y := by
  obtain ⟨xs, n, _, _, hl, hlen, hg⟩ := DataW.trod_struct hs h
  rw [hC] at hl
  refine ⟨hl, n, fun j f hj => ?_⟩
  obtain ⟨o, k⟩ := hone_of hone j f hj
  have hjl : j < fs.size := (Array.getElem?_eq_some_iff.1 hj).1
  have h1 := hg j f hj
  rw [o, k] at h1
  have h2 : (cs.drop j).take 1 = [cs[j]'(by omega)] := by
    rw [List.drop_eq_getElem_cons (by omega)]
    rfl
  rw [h2, List.getElem?_eq_getElem (by omega)] at h1
  exact ⟨_, _, List.getElem?_eq_getElem (by omega), h1⟩

theorem list_of_elems {α : Type} (sz : Nat) (enc : α → List Value) (hsz : ∀ a, (enc a).length = sz) (good : α → Prop) (w : World) (x : Addr) : ∀ m : Nat,
    (∀ i, i < m → ∃ a, good a ∧ ∀ j, j < sz → w.cell? (x.add (i * sz + j)) = (enc a)[j]?) →
    ∃ l : List α, l.length = m ∧ (∀ a ∈ l, good a) ∧ (l.flatMap enc).length = m * sz ∧ ∀ j, j < m * sz → w.cell? (x.add j) = (l.flatMap enc)[j]?
  | 0, _ => ⟨[], rfl, by simp, by simp, by intro j hj; omega⟩
  | m + 1, h => by
    obtain ⟨l, h1, h2, h3, h4⟩ := list_of_elems sz enc hsz good w x m (fun i hi => h i (by omega))
    obtain ⟨a, g, hc⟩ := h m (by omega)
    refine ⟨l ++ [a], by simp [h1], fun b hb => ?_, by simp [h3, hsz, Nat.succ_mul], fun j hj => ?_⟩
    · rcases List.mem_append.1 hb with hb | hb
      · exact h2 b hb
      · simp at hb; rw [hb]; exact g
    · rw [List.flatMap_append]
      by_cases hlt : j < m * sz
      · rw [h4 j hlt, List.getElem?_append_left (by omega)]
      · have h5 := hc (j - m * sz) (by rw [Nat.succ_mul] at hj; omega)
        rw [show m * sz + (j - m * sz) = j by omega] at h5
        rw [h5, List.getElem?_append_right (by omega), h3]
        simp

/-- a slice, opened -/
theorem open_slc {α : Type} {H : Type} {enc : TypeId × Value → H} {P : Program} {w : World} {base : Nat} {held : Bool} {t e : TypeId} {fuel : Nat} {v : Value} {y : DataW H × List MemPlace} (sz : Nat) (h0 : 0 < sz) (en : α → List Value) (hen : ∀ a, (en a).length = sz) (good : α → Prop)
    (ht : P.underlying t = some (.slice e)) (hC : P.cellsOf e = sz)
    (hel : ∀ n cs y, DataW.trod enc P w base (fun _ => true) held n e cs = some y → ∃ a, good a ∧ cs = en a)
    (hd : DataW.trod enc P w base (fun _ => true) held fuel t [v] = some y) :
    ∃ a l cap, v = .slice a (l : List α).length cap ∧ SlC w sz v l.length (l.flatMap en) ∧ ∀ x ∈ l, good x := by
  rcases open_slice ht hd with ⟨hcs, _⟩ | ⟨x, len, cap, m, n, D, Pl, hcs, _, hl, hm, hmm, _, hi⟩
  · simp only [List.cons.injEq, and_true] at hcs
    subst hcs
    exact ⟨none, [], 0, rfl, SlC.nil _ _, by simp⟩
  · simp only [List.cons.injEq, and_true] at hcs
    subst hcs
    simp only [if_true] at hmm
    subst hmm
    rw [hC] at hi
    obtain ⟨l, h1, h2, h3, h4⟩ := list_of_elems sz en hen good w x m (fun i him => by
      obtain ⟨cs', hc, hy⟩ := hi i him
      obtain ⟨a, g, rfl⟩ := hel _ _ _ hy
      obtain ⟨_, hcl, hat⟩ := World.cells?_some hc
      refine ⟨a, g, fun j hj => ?_⟩
      rw [← hat j hj, Go.Deep.add_add])
    have hlen : (l.take len).length = len := by rw [List.length_take]; omega
    have htk : ∀ (l : List α) k, (l.take k).flatMap en = (l.flatMap en).take (k * sz) := by
      intro l
      induction l with
      | nil => intro k; simp
      | cons b l ih =>
        intro k
        cases k with
        | zero => simp
        | succ k =>
          simp only [List.take_succ_cons, List.flatMap_cons, ih]
          rw [List.take_append, hen, Nat.succ_mul, List.take_of_length_le (l := en b) (by rw [hen]; omega)]
          congr 2
          omega
    have hle : len * sz ≤ m * sz := Nat.mul_le_mul_right _ hl
    refine ⟨some x, l.take len, m, by rw [hlen], ?_, fun a ha => h2 a (List.mem_of_mem_take ha)⟩
    rw [hlen]
    exact slc_of_cells h0 hl hm (by rw [htk]) (by omega) (fun i hi => h4 i (by omega))

/-! ### records -/
def RRFit (r : Rc.RR) : Prop := RROk r ∧ Fits r.ty ∧ Fits r.cl ∧ Fits r.ttl
def en5 (r : Rc.RR) : List Value := [.string (mk r.name), .int .i64 r.ty, .int .i64 r.cl, .int .i64 r.ttl, .string (mk r.data)]
theorem five {α : Type} {l : List α} (h : l.length = 5) : ∃ a b c d e, l = [a, b, c, d, e] := by
  match l, h with
  | [a, b, c, d, e], _ => exact ⟨a, b, c, d, e, rfl⟩
theorem three {α : Type} {l : List α} (h : l.length = 3) : ∃ a b c, l = [a, b, c] := by
  match l, h with
  | [a, b, c], _ => exact ⟨a, b, c, rfl⟩
theorem mk_of (s : ByteArray) : s = mk (bl s) := (mk_bl s).symm

section
variable {H : Type} {enc : TypeId × Value → H} {w : World} {base b0 : Nat} {spare : Nat → Bool} {held : Bool}
theorem tInt {n : Nat} {u : Value} {y : DataW H × List MemPlace} (h : DataW.trod enc Try.prog w base spare held n 3 [u] = some y) : ∃ a, u = .int .i64 a ∧ Fits a := by
  obtain ⟨a, h1, _, hw⟩ := DataW.trod_int Try.underlying3 h
  simp only [List.cons.injEq, and_true] at h1
  exact ⟨a, h1, fits_of_wf hw⟩
theorem tStr {n : Nat} {u : Value} {y : DataW H × List MemPlace} (h : DataW.trod enc Try.prog w base spare held n 9 [u] = some y) : ∃ s : List UInt8, u = .string (mk s) ∧ s.length ≤ maxLen := by
  obtain ⟨s, h1, _, hw⟩ := DataW.trod_string Try.underlying9 h
  simp only [List.cons.injEq, and_true] at h1
  exact ⟨bl s, by rw [h1, mk_bl], by rw [← size_bl]; exact hw⟩
theorem tBool {n : Nat} {u : Value} {y : DataW H × List MemPlace} (h : DataW.trod enc Try.prog w base spare held n 4 [u] = some y) : ∃ a, u = .bool a := by
  obtain ⟨a, h1, _⟩ := DataW.trod_bool underBool h
  simp only [List.cons.injEq, and_true] at h1
  exact ⟨a, h1⟩

theorem rr_elem {n : Nat} {cs : List Value} {y : DataW H × List MemPlace} (h : DataW.trod enc Try.prog w base spare held n 61 cs = some y) : ∃ r, RRFit r ∧ cs = en5 r := by
  obtain ⟨hl, n, hf⟩ := openE Try.underlying61 (by kernel_rfl) (by kernel_rfl) h
  obtain ⟨u0, y0, e0, h0⟩ := hf 0 _ rfl
  obtain ⟨u1, y1, e1, h1⟩ := hf 1 _ rfl
  obtain ⟨u2, y2, e2, h2⟩ := hf 2 _ rfl
  obtain ⟨u3, y3, e3, h3⟩ := hf 3 _ rfl
  obtain ⟨u4, y4, e4, h4⟩ := hf 4 _ rfl
  obtain ⟨a, b, c, d, e, rfl⟩ := five (show cs.length = 5 from hl)
  obtain rfl : a = u0 := Option.some.inj e0
  obtain rfl : b = u1 := Option.some.inj e1
  obtain rfl : c = u2 := Option.some.inj e2
  obtain rfl : d = u3 := Option.some.inj e3
  obtain rfl : e = u4 := Option.some.inj e4
  obtain ⟨s, rfl, hs⟩ := tStr h0
  obtain ⟨i, rfl, hi⟩ := tInt h1
  obtain ⟨j, rfl, hj⟩ := tInt h2
  obtain ⟨k, rfl, hk⟩ := tInt h3
  obtain ⟨q, rfl, hq⟩ := tStr h4
  exact ⟨⟨s, i, j, k, q⟩, ⟨⟨hs, hq⟩, hi, hj, hk⟩, rfl⟩

/-- a slice of records -/
theorem openRRs {fuel : Nat} {v : Value} {y : DataW H × List MemPlace} (hd : DataW.trod enc Try.prog w base (fun _ => true) held fuel 38 [v] = some y) :
    ∃ a l cap, v = .slice a (l : List Rc.RR).length cap ∧ RRs w v l ∧ ∀ r ∈ l, RRFit r :=
  open_slc 5 (by omega) en5 (fun _ => rfl) RRFit Try.underlying38 (by kernel_rfl) (fun _ _ _ h => rr_elem h) hd
theorem open_RRs {v : Value} {d : DataW H} {p : List MemPlace} (hv : Value.okWide Try.prog w .any b0 38 v) (h : DataW.Trod enc Try.prog w base (fun _ => true) held 38 v d p) :
    ∃ a l cap, v = .slice a (l : List Rc.RR).length cap ∧ RRs w v l ∧ ∀ r ∈ l, RRFit r := by
  obtain ⟨a, len, cap, rfl⟩ := okWide_slice Try.underlying38 hv
  obtain ⟨fuel, hf⟩ := h
  exact openRRs hf
end
theorem open_RR {H : Type} {enc : TypeId × Value → H} {w : World} {base b0 : Nat} {spare : Nat → Bool} {held : Bool} {v : Value} {d : DataW H} {p : List MemPlace} (hv : Value.okWide Try.prog w .any b0 61 v) (h : DataW.Trod enc Try.prog w base spare held 61 v d p) :
    ∃ r, v = rrV r ∧ RRFit r := by
  obtain ⟨cs, rfl, hl, n, hf⟩ := openS Try.underlying61 (by kernel_rfl) (by kernel_rfl) hv h
  obtain ⟨u0, y0, e0, h0⟩ := hf 0 _ rfl
  obtain ⟨u1, y1, e1, h1⟩ := hf 1 _ rfl
  obtain ⟨u2, y2, e2, h2⟩ := hf 2 _ rfl
  obtain ⟨u3, y3, e3, h3⟩ := hf 3 _ rfl
  obtain ⟨u4, y4, e4, h4⟩ := hf 4 _ rfl
  obtain ⟨a, b, c, d, e, rfl⟩ := five (show cs.length = 5 from hl)
  obtain rfl : a = u0 := Option.some.inj e0
  obtain rfl : b = u1 := Option.some.inj e1
  obtain rfl : c = u2 := Option.some.inj e2
  obtain rfl : d = u3 := Option.some.inj e3
  obtain rfl : e = u4 := Option.some.inj e4
  obtain ⟨s, rfl, hs⟩ := tStr h0
  obtain ⟨i, rfl, hi⟩ := tInt h1
  obtain ⟨j, rfl, hj⟩ := tInt h2
  obtain ⟨k, rfl, hk⟩ := tInt h3
  obtain ⟨q, rfl, hq⟩ := tStr h4
  exact ⟨⟨s, i, j, k, q⟩, rfl, ⟨hs, hq⟩, hi, hj, hk⟩
end Go.Proofs.Ytgbmclgnbbhcbaa

/- Arguments opened: servers. No conditions. -/
namespace Go.Proofs.Ytgbmclgnbbhcbaa
set_option maxRecDepth 100000
open Go.RowKit Go.ChangeShapes Go.WideShapes Go.Deep
set_option linter.unusedVariables false

def SvFit (s : Sv) : Prop := s.1.length ≤ maxLen ∧ Fits s.2
def enS (s : Sv) : List Value := [.string (mk s.1), .int .i64 s.2]
theorem two_l {α : Type} {l : List α} (h : l.length = 2) : ∃ a b, l = [a, b] := by
  match l, h with
  | [a, b], _ => exact ⟨a, b, rfl⟩
section
variable {H : Type} {enc : TypeId × Value → H} {w : World} {base b0 : Nat} {spare : Nat → Bool} {held : Bool}
theorem sv_elem {n : Nat} {cs : List Value} {y : DataW H × List MemPlace} (h : DataW.trod enc Try.prog w base spare held n 25 cs = some y) : ∃ r, SvFit r ∧ cs = enS r := by
  obtain ⟨hl, n, hf⟩ := openE Try.underlying25 (by kernel_rfl) (by kernel_rfl) h
  obtain ⟨u0, y0, e0, h0⟩ := hf 0 _ rfl
  obtain ⟨u1, y1, e1, h1⟩ := hf 1 _ rfl
  obtain ⟨a, b, rfl⟩ := two_l (show cs.length = 2 from hl)
  obtain rfl : a = u0 := Option.some.inj e0
  obtain rfl : b = u1 := Option.some.inj e1
  obtain ⟨s, rfl, hs⟩ := tStr h0
  obtain ⟨i, rfl, hi⟩ := tInt h1
  exact ⟨(s, i), ⟨hs, hi⟩, rfl⟩
theorem open_Svs {v : Value} {d : DataW H} {p : List MemPlace} (hv : Value.okWide Try.prog w .any b0 22 v) (h : DataW.Trod enc Try.prog w base (fun _ => true) held 22 v d p) :
    ∃ a l cap, v = .slice a (l : List Sv).length cap ∧ Svs w v l ∧ ∀ s ∈ l, SvFit s := by
  obtain ⟨a, len, cap, rfl⟩ := okWide_slice Try.underlying22 hv
  obtain ⟨fuel, hd⟩ := h
  exact open_slc 2 (by omega) enS (fun _ => rfl) SvFit Try.underlying22 (by kernel_rfl) (fun _ _ _ h => sv_elem h) hd
end
theorem open_Bools {H : Type} {enc : TypeId × Value → H} {w : World} {base b0 : Nat} {held : Bool} {v : Value} {d : DataW H} {p : List MemPlace} (hv : Value.okWide Try.prog w .any b0 47 v) (h : DataW.Trod enc Try.prog w base (fun _ => true) held 47 v d p) :
    ∃ a l cap, v = .slice a (l : List Bool).length cap ∧ SlC w 1 v l.length (l.map Value.bool) := by
  obtain ⟨a, len, cap, rfl⟩ := okWide_slice Try.underlying47 hv
  obtain ⟨fuel, hd⟩ := h
  obtain ⟨a, l, cap, h1, h2, _⟩ := open_slc 1 (by omega) (fun b : Bool => [Value.bool b]) (fun _ => rfl) (fun _ => True) Try.underlying47 (by kernel_rfl) (fun n cs y h => by
    obtain ⟨x, rfl, _⟩ := DataW.trod_bool underBool h
    exact ⟨x, trivial, rfl⟩) hd
  refine ⟨a, l, cap, h1, ?_⟩
  have e : l.flatMap (fun b => [Value.bool b]) = l.map Value.bool := by
    clear h1 h2
    induction l with
    | nil => rfl
    | cons x l ih => rw [List.flatMap_cons, List.map_cons, ih (fun _ _ => trivial)]; rfl
  rw [← e]
  exact h2
end Go.Proofs.Ytgbmclgnbbhcbaa

/- Pick: hints: plain facts of the law. -/
namespace Go.Proofs.Ytgbmclgnbbhcbaa
open Go.RowKit Go.Sort Go.Lib
set_option maxRecDepth 100000
set_option linter.unusedVariables false

theorem hints_asc (l : List Sv) : Asc ltS (hintsN l) := (insAll_asc od_servers (hintL_ps l)).1
theorem hints_ps (l : List Sv) : ∀ x ∈ hintsN l, PS x := fun x hx => hintL_ps l x (((insAll_asc od_servers (hintL_ps l)).2 x).1 hx)
theorem hintL_id : ∀ {l : List Sv}, (∀ x ∈ l, PS x) → hintL l = l
  | [], _ => rfl
  | x :: l, h => by
    have ih := hintL_id (l := l) fun y hy => h y (List.mem_cons_of_mem _ hy)
    obtain ⟨⟨h1, h2⟩, h3, h4⟩ := h x (List.mem_cons_self ..)
    unfold hintL at ih ⊢
    rw [List.filterMap_cons, h1, decide_eq_true h3, decide_eq_true h4, ih]
    have e : Nm.foldN x.1 = x.1 := by unfold Nm.foldN; rw [if_pos h1, h2]
    simp only [Bool.and_self, if_true, e]
theorem insAll_id {l : List Sv} (hp : ∀ x ∈ l, PS x) (ha : Asc ltS l) : insAll ltS l = l := by
  obtain ⟨a1, a2⟩ := insAll_asc od_servers hp
  exact asc_uniq od_servers _ _ a1 ha (fun x hx => hp x ((a2 x).1 hx)) hp a2
theorem hints_idem (l : List Sv) : hintsN (hintsN l) = hintsN l := by
  have e : hintsN (hintsN l) = insAll ltS (hintL (hintsN l)) := rfl
  rw [e, hintL_id (hints_ps l), insAll_id (hints_ps l) (hints_asc l)]
theorem hints_len (l : List Sv) : (hintsN l).length ≤ l.length := Nat.le_trans (insAll_len _) (hintL_len l)
theorem hints_step {l : List Sv} {k : Nat} (h : k + 1 < (hintsN l).length) : Nm.lessN ((hintsN l).getD (k + 1) s0).1 ((hintsN l).getD k s0).1 = false ∧ (hintsN l).getD (k + 1) s0 ≠ (hintsN l).getD k s0 ∧
    ((hintsN l).getD (k + 1) s0).1.length ≤ 255 ∧ ((hintsN l).getD k s0).1.length ≤ 255 := by
  have ha := hints_asc l
  have hp := hints_ps l
  generalize hintsN l = H at *
  have e : ∀ j, j < H.length → H.getD j s0 ∈ H := fun j hj => by rw [List.getD_eq_getElem?_getD, List.getElem?_eq_getElem hj]; exact List.getElem_mem _
  have h1 := hp _ (e (k + 1) h)
  have h0 := hp _ (e k (by omega))
  have hlt : ltS (H.getD k s0) (H.getD (k + 1) s0) = true := by
    have := List.pairwise_iff_getElem.1 ha k (k + 1) (by omega) h (by omega)
    rwa [List.getD_eq_getElem?_getD, List.getD_eq_getElem?_getD, List.getElem?_eq_getElem h, List.getElem?_eq_getElem (show k < H.length by omega)]
  generalize H.getD (k + 1) s0 = y at *
  generalize H.getD k s0 = x at *
  refine ⟨?_, fun e => ?_, pn_len h1.1, pn_len h0.1⟩
  · cases hl : Nm.lessN y.1 x.1 with
    | false => rfl
    | true =>
      unfold ltS at hlt
      rw [hl, Bool.not_true, Bool.false_and, Bool.or_false] at hlt
      have := od_names.tr _ _ _ h0.1 h1.1 h0.1 hlt hl
      rw [od_names.irr _ h0.1] at this
      cases this
  · rw [e, od_servers.irr _ h0] at hlt
    cases hlt
end Go.Proofs.Ytgbmclgnbbhcbaa

/- Pick: PickOrder's plain law: servers of some names of five, in whatever order. -/
namespace Go.Proofs.Ytgbmclgnbbhcbaa
open Go.RowKit Go.Sort Go.Lib
set_option maxRecDepth 100000
set_option linter.unusedVariables false

def nm5 : List (List UInt8) := [[1, 97, 0], [1, 98, 1, 97, 0], [1, 98, 0], [1, 97, 1, 98, 0], [1, 99, 0]]
def nmO (k : Nat) : List UInt8 := nm5.getD k []
/-- names whose target is the whole data -/
def TG (d : List UInt8) : Prop := targP 2 d = (d, true) ∧ Nm.foldN d = d ∧ PN d
instance (d : List UInt8) : Decidable (PN d) := by unfold PN; infer_instance
instance (d : List UInt8) : Decidable (TG d) := by unfold TG; infer_instance
theorem tg5 : ∀ k, k < 5 → TG (nmO k) := by decide +kernel
theorem asc5 : Asc Nm.lessN ((List.range 5).map nmO) := by
  unfold Asc
  decide +kernel
theorem targL_set : ∀ {L : List (List UInt8)}, (∀ d ∈ L, TG d) → targL (setL L) = L
  | [], _ => rfl
  | d :: L, h => by
    obtain ⟨h1, h2, _⟩ := h d (List.mem_cons_self ..)
    have ih := targL_set (L := L) fun x hx => h x (List.mem_cons_of_mem _ hx)
    unfold targL setL at ih ⊢
    rw [List.map_cons, List.filterMap_cons, ih]
    simp only [h1, h2, if_true]
/-- targets of names, of which each stands in a rising list -/
theorem targsN_set {L T : List (List UInt8)} (hL : ∀ d ∈ L, TG d) (hT : Asc Nm.lessN T) (hm : ∀ d, d ∈ T ↔ d ∈ L) : targsN (setL L) = T := by
  unfold targsN
  rw [targL_set hL]
  obtain ⟨a1, a2⟩ := insAll_asc od_names (l := L) fun d hd => (hL d hd).2.2
  exact asc_uniq od_names _ _ a1 hT (fun x hx => (hL x ((a2 x).1 hx)).2.2) (fun x hx => (hL x ((hm x).1 hx)).2.2) fun x => (a2 x).trans (hm x).symm
def inO (ks : List Nat) : List Bool := (List.range 5).map fun j => ks.contains j
theorem inO_get (ks : List Nat) {j : Nat} (h : j < 5) : (inO ks).getD j false = ks.contains j := by
  unfold inO
  rw [List.getD_eq_getElem?_getD, List.getElem?_map, List.getElem?_range h]
  rfl
theorem inO_len (ks : List Nat) : (inO ks).length = 5 := by simp [inO]
theorem inO_set (ks : List Nat) {q : Nat} (hq : q < 5) : (inO ks).set q true = inO (ks ++ [q]) := by
  refine List.ext_getElem (by simp [inO]) fun j h1 h2 => ?_
  rw [List.length_set, inO_len] at h1
  have e1 : (inO (ks ++ [q]))[j] = (inO (ks ++ [q])).getD j false := by rw [List.getD_eq_getElem?_getD, List.getElem?_eq_getElem h2]; rfl
  rw [e1, inO_get _ h1, List.getElem_set]
  split
  · rename_i e; subst e; simp
  · rename_i e
    have e2 : (inO ks)[j]'(by rw [inO_len]; exact h1) = (inO ks).getD j false := by rw [List.getD_eq_getElem?_getD, List.getElem?_eq_getElem (by rw [inO_len]; exact h1)]; rfl
    rw [e2, inO_get _ h1]
    simp [Ne.symm e]
/-- what each name's two servers are -/
def twoO (n : List UInt8) : List Sv := [(n, 2), (n, (n.length : Int))]
def wantO (ks : List Nat) (i : Nat) : List Sv := ((List.range i).filter fun j => ks.contains j).flatMap fun j => twoO (nmO j)
theorem wantO_skip {ks : List Nat} {i : Nat} (h : ks.contains i = false) : wantO ks (i + 1) = wantO ks i := by
  unfold wantO
  rw [List.range_succ, List.filter_append, List.flatMap_append]
  simp only [List.filter_cons, List.filter_nil, h, Bool.false_eq_true, if_false, List.flatMap_nil, List.append_nil]
theorem wantO_put {ks : List Nat} {i : Nat} (h : ks.contains i = true) : wantO ks (i + 1) = wantO ks i ++ twoO (nmO i) := by
  unfold wantO
  rw [List.range_succ, List.filter_append, List.flatMap_append]
  simp only [List.filter_cons, List.filter_nil, h, if_true, List.flatMap_cons, List.flatMap_nil, List.append_nil]
theorem wantO_len (ks : List Nat) : ∀ i, (wantO ks i).length ≤ 2 * i
  | 0 => by simp [wantO]
  | i + 1 => by
    have := wantO_len ks i
    cases h : ks.contains i with
    | true => rw [wantO_put h, List.length_append]; simp [twoO]; omega
    | false => rw [wantO_skip h]; omega
def tellO (n : List UInt8) : List Int := [(n.length : Int), 2, (n.length : Int)]
theorem told5 : ∀ k, k < 5 → (toldN (tellO (nmO k))).map (fun a => (nmO k, a)) = twoO (nmO k) := by decide +kernel
def TO (ks : List Nat) : List (List UInt8) := ((List.range 5).filter fun j => ks.contains j).map nmO
theorem targsO {ks : List Nat} (hk : ∀ k ∈ ks, k < 5) : targsN (setL (ks.map nmO)) = TO ks := by
  refine targsN_set (fun d hd => ?_) ?_ fun d => ?_
  · obtain ⟨k, h1, rfl⟩ := List.mem_map.1 hd
    exact tg5 k (hk k h1)
  · exact List.Pairwise.sublist ((List.filter_sublist).map nmO) asc5
  · unfold TO
    constructor
    · intro h
      obtain ⟨k, h1, rfl⟩ := List.mem_map.1 h
      obtain ⟨_, h2⟩ := List.mem_filter.1 h1
      exact List.mem_map.2 ⟨k, by simpa using h2, rfl⟩
    · intro h
      obtain ⟨k, h1, rfl⟩ := List.mem_map.1 h
      exact List.mem_map.2 ⟨k, List.mem_filter.2 ⟨List.mem_range.2 (hk k h1), by simpa using h1⟩, rfl⟩
theorem servO {ks : List Nat} (hk : ∀ k ∈ ks, k < 5) : servN tellO (setL (ks.map nmO)) = wantO ks 5 := by
  unfold servN
  rw [targsO hk]
  unfold TO wantO
  rw [List.flatMap_map]
  have : ∀ l : List Nat, (∀ j ∈ l, j < 5) → (l.flatMap fun j => (toldN (tellO (nmO j))).map fun a => (nmO j, a)) = l.flatMap fun j => twoO (nmO j) := fun l => by
    induction l with
    | nil => intro _; rfl
    | cons x l ih => intro h; rw [List.flatMap_cons, List.flatMap_cons, told5 x (h x (List.mem_cons_self ..)), ih fun j hj => h j (List.mem_cons_of_mem _ hj)]
  exact this _ fun j hj => List.mem_range.1 (List.mem_filter.1 hj).1
theorem TO_mem {ks : List Nat} {n : List UInt8} (h : n ∈ TO ks) : ∃ k, k < 5 ∧ n = nmO k := by
  obtain ⟨k, h1, rfl⟩ := List.mem_map.1 h
  exact ⟨k, List.mem_range.1 (List.mem_filter.1 h1).1, rfl⟩
theorem nmO_len : ∀ k, k < 5 → (nmO k).length ≤ 5 := by decide +kernel
theorem nmO_told : ∀ k, k < 5 → (toldN (tellO (nmO k))).length ≤ 1000 := by decide +kernel
/-- the rounds of the numbers -/
def rndO (p : Int) : Nat := (p % 5).toNat
theorem rndO_lt (p : Int) : rndO p < 5 := by unfold rndO; omega
theorem rndO_eq (p : Int) : p % 5 = (rndO p : Int) := by unfold rndO; omega
def ksO (l : List Int) (k : Nat) : List Nat := (l.take k).map rndO
theorem ksO_snoc {l : List Int} {k : Nat} (h : k < l.length) : ksO l (k + 1) = ksO l k ++ [rndO (l.getD k 0)] := by
  unfold ksO
  rw [List.take_succ_eq_append_getElem h, List.map_append, List.getD_eq_getElem?_getD, List.getElem?_eq_getElem h]
  rfl
theorem ksO_lt (l : List Int) (k : Nat) : ∀ q ∈ ksO l k, q < 5 := fun q hq => by
  obtain ⟨p, _, rfl⟩ := List.mem_map.1 hq
  exact rndO_lt p
end Go.Proofs.Ytgbmclgnbbhcbaa

/- Pick: PickMissing's plain law. -/
namespace Go.Proofs.Ytgbmclgnbbhcbaa
open Go.RowKit Go.Sort Go.Lib
set_option maxRecDepth 100000
set_option linter.unusedVariables false

/-- the names of the law, small and big -/
def nmM (i : Nat) : List UInt8 := [1, UInt8.ofNat (97 + i), 0]
def upM (u : Bool) (i : Nat) : List UInt8 := if u then [1, UInt8.ofNat (65 + i), 0] else nmM i
theorem tg12 : ∀ k, k < 12 → TG (nmM k) := by decide +kernel
theorem asc12 : Asc Nm.lessN ((List.range 12).map nmM) := by
  unfold Asc
  decide +kernel
theorem same12 : ∀ u : Bool, ∀ a, a < 12 → ∀ i, i < 12 → Nm.sameN (upM u a) (nmM i) = decide (a = i) := by decide +kernel
theorem nmM_inj : ∀ a, a < 12 → ∀ i, i < 12 → nmM a = nmM i → a = i := by decide +kernel
def lM : Nat → List (List UInt8)
  | 0 => []
  | k + 1 => nmM k :: nmM k :: lM k
theorem lM_len : ∀ k, (lM k).length = 2 * k
  | 0 => rfl
  | k + 1 => by simp only [lM, List.length_cons, lM_len k]; omega
theorem lM_mem : ∀ k (d : List UInt8), d ∈ lM k ↔ ∃ i, i < k ∧ nmM i = d
  | 0, d => by simp [lM]
  | k + 1, d => by
    rw [lM, List.mem_cons, List.mem_cons, lM_mem k d]
    constructor
    · rintro (h | h | ⟨i, h1, h2⟩)
      · exact ⟨k, by omega, h.symm⟩
      · exact ⟨k, by omega, h.symm⟩
      · exact ⟨i, by omega, h2⟩
    · rintro ⟨i, h1, h2⟩
      by_cases e : i = k
      · subst e; exact .inl h2.symm
      · exact .inr (.inr ⟨i, by omega, h2⟩)
theorem targsM {M : Nat} (h : M ≤ 12) : targsN (setL (lM M)) = (List.range M).map nmM := by
  refine targsN_set (fun d hd => ?_) ?_ fun d => ?_
  · obtain ⟨i, h1, rfl⟩ := (lM_mem M d).1 hd
    exact tg12 i (by omega)
  · exact List.Pairwise.sublist (List.Sublist.map nmM (List.range_sublist.2 h)) asc12
  · rw [lM_mem]
    simp
/-- who is missing -/
def wM (H : List Bool) (k : Nat) : List Nat := (List.range k).filter fun i => !H.getD i false
theorem wM_succ (H : List Bool) (k : Nat) : wM H (k + 1) = wM H k ++ (if H.getD k false then [] else [k]) := by
  unfold wM
  rw [List.range_succ, List.filter_append]
  congr 1
  rw [List.filter_cons, List.filter_nil]
  cases H.getD k false <;> rfl
theorem wM_len (H : List Bool) (k : Nat) : (wM H k).length ≤ k := by
  have := List.length_filter_le (fun i => !H.getD i false) (List.range k)
  simpa [wM] using this
theorem wM_mem {H : List Bool} {k i : Nat} (h : i ∈ wM H k) : i < k := List.mem_range.1 (List.mem_filter.1 h).1
theorem wM_nodup (H : List Bool) (k : Nat) : (wM H k).Nodup := List.Nodup.sublist List.filter_sublist List.nodup_range
/-- what is told of a name -/
def tellM (H : List Bool) (n : List UInt8) : List Int := match (List.range H.length).find? (fun i => H.getD i false && decide (n = nmM i)) with
  | some i => [(i : Int)]
  | none => []
theorem tellM_len (H : List Bool) (n : List UInt8) : (tellM H n).length ≤ 1 := by
  unfold tellM
  split <;> simp
theorem told_one (z : Int) : toldN [z] = [z] := rfl
theorem told_emp : toldN [] = [] := rfl
theorem tellM_told (H : List Bool) (n : List UInt8) : toldN (tellM H n) = tellM H n := by
  unfold tellM
  split <;> rfl
theorem tellM_has {H : List Bool} (hH : H.length ≤ 12) {i : Nat} (hi : i < H.length) : decide ((toldN (tellM H (nmM i))).length = 0) = !H.getD i false := by
  rw [tellM_told]
  unfold tellM
  cases h : (List.range H.length).find? (fun j => H.getD j false && decide (nmM i = nmM j)) with
  | none =>
    have := List.find?_eq_none.1 h i (List.mem_range.2 hi)
    simp only [decide_true, Bool.and_true, Bool.not_eq_true] at this
    rw [this]
    rfl
  | some j =>
    have h1 := List.find?_some h
    have h2 := List.mem_range.1 (List.mem_of_find?_eq_some h)
    rw [Bool.and_eq_true, decide_eq_true_iff] at h1
    obtain rfl := nmM_inj i (by omega) j (by omega) h1.2
    rw [h1.1]
    rfl
theorem find_cong {α : Type} {p q : α → Bool} : ∀ {l : List α}, (∀ x ∈ l, p x = q x) → l.find? p = l.find? q
  | [], _ => rfl
  | a :: l, h => by
    rw [List.find?_cons, List.find?_cons, h a (List.mem_cons_self ..), find_cong fun x hx => h x (List.mem_cons_of_mem _ hx)]
theorem find_rest {p : Nat → Bool} {T : List Nat} (hT : T.Nodup) (j : Nat) : T.find? (fun i => p i && !((T.filter p).take j).any fun x => decide (x = i)) = (T.filter p)[j]? := by
  induction T generalizing j with
  | nil => simp
  | cons a T ih =>
    obtain ⟨ha, hT2⟩ := List.nodup_cons.1 hT
    cases hp : p a with
    | false =>
      rw [List.filter_cons_of_neg (by rw [hp]; decide), List.find?_cons_of_neg (by rw [hp]; simp)]
      exact ih hT2 j
    | true =>
      rw [List.filter_cons_of_pos hp]
      cases j with
      | zero => simp [hp]
      | succ j =>
        rw [List.getElem?_cons_succ, List.take_succ_cons, List.find?_cons_of_neg (by simp)]
        rw [← ih hT2 j]
        refine find_cong fun i hi => ?_
        have : decide (a = i) = false := decide_eq_false fun e => ha (e ▸ hi)
        rw [List.any_cons, this, Bool.false_or]
/-- who is told next, when so many were asked for -/
theorem missM {H : List Bool} (hH : H.length ≤ 12) (u : Bool) (j : Nat) : missN (tellM H) (setL (lM H.length)) (((wM H H.length).take j).map (upM u)) = ((wM H H.length)[j]?).map nmM := by
  unfold missN
  rw [targsM hH, List.find?_map]
  have h := find_rest (p := fun i => !H.getD i false) (T := List.range H.length) List.nodup_range j
  have e : (List.range H.length).find? ((fun n => decide ((toldN (tellM H n)).length = 0) && !(((wM H H.length).take j).map (upM u)).any fun x => Nm.sameN x n) ∘ nmM) = (wM H H.length)[j]? := by
    rw [show (wM H H.length)[j]? = ((List.range H.length).filter fun i => !H.getD i false)[j]? from rfl, ← h]
    refine find_cong fun i hi => ?_
    have hi := List.mem_range.1 hi
    simp only [Function.comp_apply]
    rw [tellM_has hH hi, List.any_map]
    congr 2
    have : ∀ l : List Nat, (∀ x ∈ l, x < 12) → (l.any ((fun x => Nm.sameN x (nmM i)) ∘ upM u)) = l.any fun x => decide (x = i) := fun l => by
      induction l with
      | nil => intro _; rfl
      | cons a l ih =>
        intro hl
        rw [List.any_cons, List.any_cons, ih fun x hx => hl x (List.mem_cons_of_mem _ hx), Function.comp_apply, same12 u a (hl a (List.mem_cons_self ..)) i (by omega)]
    exact this _ fun x hx => by have := wM_mem (List.mem_of_mem_take hx); omega
  rw [e]
end Go.Proofs.Ytgbmclgnbbhcbaa

/- Pick: what PickMissing's function tells. -/
namespace Go.Proofs.Ytgbmclgnbbhcbaa
open Go.RowKit Go.Sort Go.Lib
set_option maxRecDepth 100000
set_option linter.unusedVariables false
set_option linter.unusedSimpArgs false

theorem tellM_hit {H : List Bool} {n : List UInt8} {k : Nat} (hk : k < H.length) (h1 : H.getD k false = true) (h2 : n = nmM k) (h : ∀ j, j < k → (H.getD j false && decide (n = nmM j)) = false) : tellM H n = [(k : Int)] := by
  unfold tellM
  have : (List.range H.length).find? (fun i => H.getD i false && decide (n = nmM i)) = some k := by
    rw [List.find?_range_eq_some]
    refine ⟨by rw [h1, decide_eq_true h2]; rfl, List.mem_range.2 hk, fun j hj => by rw [h j hj]; rfl⟩
  rw [this]
theorem tellM_none {H : List Bool} {n : List UInt8} (h : ∀ j, j < H.length → (H.getD j false && decide (n = nmM j)) = false) : tellM H n = [] := by
  unfold tellM
  have : (List.range H.length).find? (fun i => H.getD i false && decide (n = nmM i)) = none := by
    rw [List.find?_range_eq_none]
    exact fun j hj => by rw [h j hj]; rfl
  rw [this]
theorem cat_mk (a b : List UInt8) : mk a ++ mk b = mk (a ++ b) := by apply bl_inj; rw [bl_append, bl_mk, bl_mk, bl_mk]
theorem run_conv_new (w : World) (n : Nat) (cs : List Value) (l : List UInt8) (hn : cs.length = n) (h : cs = l.map fun b => .int .u8 b.toNat) (hm : n ≤ maxLen) :
    (convert 32 9 (.slice (some ⟨w.heap.size, 0, none⟩) n n)).run Try.prog (w.alloc (.cells cs.toArray 5)) = .ok (.string (mk l)) (w.alloc (.cells cs.toArray 5)) := by
  have hl : l.length = n := by rw [← hn, h]; simp
  refine run_conv_string ?_
  unfold Byts
  rw [hl, ← h]
  exact slc_new w 1 n _ cs (by rw [hn]; simp) hm
/-- the letter of a number -/
theorem let_u8 {k : Nat} (h : k ≤ 12) : 97 + (k : Int) = ((UInt8.ofNat (97 + k)).toNat : Int) := by
  rw [UInt8.toNat_ofNat']; omega
theorem let_wrap {k : Nat} (h : k ≤ 12) : IntKind.u8.wrap (((UInt8.ofNat (97 + k)).toNat : Nat) : Int) = ((UInt8.ofNat (97 + k)).toNat : Int) :=
  (show IntKind.u8.wrap _ = _ % 256 from rfl).trans (by have := (UInt8.ofNat (97 + k)).toNat_lt; omega)
/-- a list of truths -/
def Bools (w : World) (v : Value) (H : List Bool) : Prop := SlC w 1 v H.length (H.map Value.bool)
theorem Bools.at {w : World} {a : Option Addr} {m cap : Nat} {H : List Bool} (h : Bools w (.slice a m cap) H) (hn : 0 < H.length) :
    ∃ b off, a = some ⟨b, off, none⟩ ∧ b < w.heap.size ∧ ∀ j, j < H.length → w.cell? ⟨b, off + j, none⟩ = some (.bool (H.getD j false)) := by
  obtain ⟨_, b, off, ha, hlt, h4⟩ := SlC.at h hn
  refine ⟨b, off, ha, hlt, fun j hj => ?_⟩
  rw [h4 j (by omega), List.getElem?_map, List.getD_eq_getElem?_getD, List.getElem?_eq_getElem hj]
  rfl
set_option maxHeartbeats 4000000 in
theorem tellM_any (H : List Bool) (b : Nat) (ha : Option Addr) (hc : Nat) (n : List UInt8) (w : World) (hbox : w.heap[b]? = some (.cells #[.slice ha H.length hc] 47 (0, 0))) (hs : Bools w (.slice ha H.length hc) H) (hM : H.length ≤ 12) :
    TellsA Try.prog 19 #[.pointer (some ⟨b, 0, none⟩)] n (tellM H n) w := by
  intro W hW
  have hbx := (hW.block b (Array.getElem?_eq_some_iff.1 hbox).1).trans hbox
  have hsW : Bools W (.slice ha H.length hc) H := SlC.below hs hW (Nat.le_refl _)
  have hit := fun k h1 h2 h3 h4 => tellM_hit (H := H) (n := n) (k := k) h1 h2 h3 h4
  have hnone := tellM_none (H := H) (n := n)
  have HB := Go.Lib.hid (Below.refl W.heap.size W)
  generalize hMM : H.length = M at *
  generalize tellM H n = R at *
  clear hbox hs hW
  have HBX := Go.Lib.hid hbx
  have HSW := Go.Lib.hid hsW
  have HIT := Go.Lib.hid hit
  have HNONE := Go.Lib.hid hnone
  have HMM := Go.Lib.hid hMM
  clear hbx hsW hit hnone hMM
  have hbl : b < W.heap.size := (Array.getElem?_eq_some_iff.1 HBX.out).1
  have c0 : W.cell? ⟨b, 0, none⟩ = some (.slice ha M hc) := by
    have := HBX.out
    simp [World.cell?, this]
  show Calls _ _ #[.string (mk n), .pointer (some ⟨b, 0, none⟩)] _ _
  go_enter Try.func19, Try.ntmps19
  go_wp2_with fail
  go_loopw [4] (fun i wr => ∃ k : Nat, i = .int .i64 k ∧ k ≤ M ∧ (∀ j, j < k → (H.getD j false && decide (n = nmM j)) = false) ∧ Below W.heap.size W wr) (fun i _ => M - (RowKit.intOf i).toNat)
  case atStart => exact ⟨0, rfl, Nat.zero_le _, fun j hj => by omega, HB.out⟩
  case round =>
    clear HB
    obtain ⟨k, rfl, hk, hall, hb⟩ := hrel
    have c1 : wr.cell? ⟨b, 0, none⟩ = some (.slice ha M hc) := (hb.cell (p := ⟨b, 0, none⟩) hbl).trans c0
    have hsr : Bools wr (.slice ha M hc) H := SlC.below HSW.out hb (Nat.le_refl _)
    by_cases hlt : k < M
    · have hlt2 : (k : Int) < (M : Int) := by omega
      obtain ⟨b0, off, rfl, hbb, hcell⟩ := Bools.at hsr (by rw [HMM.out]; omega)
      have f0 := hcell k (by rw [HMM.out]; exact hlt)
      cases hH : H.getD k false with
      | false =>
        rw [hH] at f0
        have HALL := Go.Lib.hid hall
        have HH := Go.Lib.hid hH
        have HBQ := Go.Lib.hid hb
        clear hall hH hb
        clear hcell hsr
        go_wp2_with fail
        go_roundw
        case rel =>
          refine ⟨k + 1, by go_num, by omega, fun j hj => ?_, HBQ.out⟩
          rcases Nat.lt_or_ge j k with h | h
          · exact HALL.out j h
          · obtain rfl : j = k := by omega
            rw [HH.out]; rfl
        case measure => simp [RowKit.intOf]; omega
      | true =>
        rw [hH] at f0
        have hl8 := let_u8 (k := k) (by omega)
        have hw8 := let_wrap (k := k) (by omega)
        have hnm : nmM k = [1, UInt8.ofNat (97 + k), 0] := rfl
        generalize UInt8.ofNat (97 + k) = c at *
        have hcc := c.toNat_lt
        have hw1 : IntKind.i64.wrap (97 + (k : Int)) = (c.toNat : Int) := by rw [wrapi (by omega) (by omega)]; exact hl8
        have hconv := run_conv_new wr 1 [.int .u8 c.toNat] [c] rfl rfl (by decide)
        have hcat1 : (⟨#[1]⟩ : ByteArray) ++ mk [c] = mk [1, c] := cat_mk [1] [c]
        have hcat2 : mk [1, c] ++ (⟨#[0]⟩ : ByteArray) = mk [1, c, 0] := cat_mk [1, c] [0]
        have hs1 : (mk [c]).size = 1 := rfl
        have hs2 : (mk [1, c]).size = 2 := rfl
        have hbX := hb.alloc hb.size (.cells #[.int .u8 c.toNat] 5)
        by_cases he : n = [1, c, 0]
        · have q0 : ((mk n).toList == (mk [1, c, 0]).toList) = true := beq_mk_true he
          have hres := HIT.out k hlt hH (he.trans hnm.symm) hall
          have HALL := Go.Lib.hid hall
          have HH := Go.Lib.hid hH
          have HBXX := Go.Lib.hid hbX
          have HL8 := Go.Lib.hid hl8
          have HNMM := Go.Lib.hid hnm
          have HRES := Go.Lib.hid hres
          clear hall hH hbX hl8 hnm hres
          clear hcell hsr hb he
          go_wp2_with fail
          go_ret
          rw [HRES.out]
          have hres2 := slc_new (wr.alloc (.cells #[.int .u8 c.toNat] 5)) 1 1 3 [.int .i64 k] rfl (by decide)
          rw [World.size_alloc] at hres2
          exact ⟨_, rfl, hres2, HBXX.out.alloc HBXX.out.size _⟩
        · have q0 : ((mk n).toList == (mk [1, c, 0]).toList) = false := beq_mk_false he
          have HALL := Go.Lib.hid hall
          have HH := Go.Lib.hid hH
          have HBXX := Go.Lib.hid hbX
          have HL8 := Go.Lib.hid hl8
          have HNMM := Go.Lib.hid hnm
          have HE := Go.Lib.hid he
          clear hall hH hbX hl8 hnm he
          clear hcell hsr hb
          go_wp2_with fail
          go_roundw
          case rel =>
            refine ⟨k + 1, by go_num, by omega, fun j hj => ?_, HBXX.out⟩
            rcases Nat.lt_or_ge j k with h | h
            · exact HALL.out j h
            · obtain rfl : j = k := by omega
              rw [HNMM.out, decide_eq_false HE.out, Bool.and_false]
          case measure => simp [RowKit.intOf]; omega
    · have hlt2 : ¬ (k : Int) < (M : Int) := by omega
      have hres := HNONE.out fun j hj => hall j (by omega)
      have HBQ := Go.Lib.hid hb
      have HRES := Go.Lib.hid hres
      clear hb hres
      clear hsr hall
      go_wp2_with fail
      go_ret
      rw [HRES.out]
      exact ⟨_, rfl, SlC.nil _ _, HBQ.out⟩
end Go.Proofs.Ytgbmclgnbbhcbaa

/- Pick: the contract of the reference's Hints. -/
namespace Go.Proofs.Ytgbmclgnbbhcbaa
open Go.RowKit Go.Sort Go.Lib
set_option maxRecDepth 100000
set_option linter.unusedVariables false
set_option linter.unusedSimpArgs false

set_option maxHeartbeats 8000000 in
theorem refHints_any (l : List Sv) (a : Option Addr) (c : Nat) (w : World) (hl : Svs w (.slice a l.length c) l) (hn : l.length ≤ 100000) (hnm : ∀ s ∈ l, s.1.length ≤ maxLen) :
    Calls Try.prog 11 #[.slice a l.length c] w (RetSvs w (hintsN l)) := by
  have mixed : Try.prog.follows .mixedOrders = true := by kernel_rfl
  generalize hN : l.length = N at *
  have HB := Go.Lib.hid (Below.refl w.heap.size w)
  have HL := Go.Lib.hid hl
  have HNM := Go.Lib.hid hnm
  have HN := Go.Lib.hid hN
  clear hl hnm hN
  go_enter Try.func11, Try.ntmps11
  go_wp2_with fail
  go_loopw [3, 4] (fun v i wr => ∃ k : Nat, i = .int .i64 k ∧ k ≤ N ∧ wr.ownsRow w.heap.size 25 2 v (insAll ltS (hintL (l.take k))).length (encV (insAll ltS (hintL (l.take k)))) ∧ Below w.heap.size w wr) (fun _ i _ => N - (intOf i).toNat)
  case atStart => exact ⟨0, rfl, Nat.zero_le _, World.ownsRow_nil _ _ _ _, HB.out⟩
  case round =>
    clear HB
    obtain ⟨k, rfl, hk, hown, hbr⟩ := hrel
    have hws := hbr.size
    have hll := hintL_len (l.take k)
    rw [List.length_take] at hll
    have hlo := insAll_len (lt := ltS) (hintL (l.take k))
    by_cases hlt : k < N
    · have hl2 := HL.out.below hbr (Nat.le_refl _)
      obtain ⟨b, off, rfl, hbb, hcell⟩ := Svs.at hl2 (by rw [HN.out]; omega)
      obtain ⟨d0, d1⟩ := hcell k (by rw [HN.out]; exact hlt)
      have hmem : l.getD k s0 ∈ l := by rw [List.getD_eq_getElem?_getD, List.getElem?_eq_getElem (by rw [HN.out]; exact hlt)]; exact List.getElem_mem _
      have hnl := HNM.out _ hmem
      have hstep := hintL_take (l := l) (k := k) (by rw [HN.out]; exact hlt)
      have hps := hintL_ps (l.take (k + 1))
      have wk : IntKind.i64.wrap ((k : Int) + 1) = (k : Int) + 1 := wrapi (by omega) (by omega)
      have hlt2 : (k : Int) < (N : Int) := by omega
      clear hcell hl2 hmem
      generalize l.getD k s0 = s at *
      obtain ⟨sn, sa⟩ := s
      simp only at d0 d1 hnl hstep
      generalize hintL (l.take k) = L at *
      have hva := refValid_any (mk sn) wr
      rw [bl_mk] at hva
      have hfo := fun W => refFold_any (mk sn) W (by rw [size_mk]; exact hnl)
      simp only [bl_mk] at hfo
      have hok : okH (sn, sa) = (Nm.valid sn && decide (0 ≤ sa) && decide (sa ≤ 4294967295)) := rfl
      generalize Nm.valid sn = va at *
      generalize Nm.foldN sn = fn at *
      have hc1 := fun (W : World) (h : Below wr.heap.size wr W) => (h.cell (p := ⟨b, off + k * 2 + 1, none⟩) hbb).trans d1
      have hc0 := fun (W : World) (h : Below wr.heap.size wr W) => (h.cell (p := ⟨b, off + k * 2, none⟩) hbb).trans d0
      have HSTEP := Go.Lib.hid hstep
      have HVA := Go.Lib.hid hva
      have HFO := Go.Lib.hid hfo
      have HOWN := Go.Lib.hid hown
      have HBR := Go.Lib.hid hbr
      have HOK := Go.Lib.hid hok
      have HPS := Go.Lib.hid hps
      have HC0 := Go.Lib.hid hc0
      have HC1 := Go.Lib.hid hc1
      clear hstep hva hfo hown hbr hok hps hc0 hc1
      by_cases hgood : va = true ∧ 0 ≤ sa ∧ sa ≤ 4294967295
      · obtain ⟨rfl, h1, h2⟩ := hgood
        have hs := HSTEP.out
        rw [HOK.out, decide_eq_true h1, decide_eq_true h2] at hs
        simp only [Bool.and_self, if_true] at hs
        have hpx := HPS.out
        rw [hs] at hpx
        have hs2 : insAll ltS (hintL (l.take (k + 1))) = insL ltS (fn, sa) (insAll ltS L) := by rw [hs, insAll_snoc]
        have hpo := ins_ps L fun x hx => hpx x (List.mem_append_left _ hx)
        have hp1 := hpx (fn, sa) (List.mem_append_right _ (List.mem_singleton.2 rfl))
        have hnc0 : ¬ (sa < 0) := by omega
        have hnc1 : ¬ (4294967296 ≤ sa) := by omega
        have HS2 := Go.Lib.hid hs2
        have HPO := Go.Lib.hid hpo
        have HP1 := Go.Lib.hid hp1
        clear hs2 hpo hp1
        clear hs hpx
        go_wp2_with fail
        refine HVA.out.mono ?_; rintro e W1 ⟨rfl, hb1⟩
        have f0 := HC0.out W1 hb1
        have f1 := HC1.out W1 hb1
        have hown1 := owns_below HOWN.out hb1
        have hbw1 := HBR.out.trans (hb1.mono hws)
        have HO1 := Go.Lib.hid hown1
        have HBW1 := Go.Lib.hid hbw1
        clear hown1 hbw1
        go_wp2_with fail
        have hbw7 : b < W1.heap.size := Nat.lt_of_lt_of_le hbb hb1.size
        have c0 := GB.cell (W := W1) f0 hbw7
        have c1 := GB.cell (W := W1) f1 hbw7
        have hne : Nonempty (Subtype (GB W1.drew)) := ⟨⟨W1.drew, GB.refl _⟩⟩
        have HB1 := Go.Lib.hid hb1
        clear hb1
        clear f0 f1
        refine Go.Mix.wp_region_mixR [5, 12] 13 GB (FK 12 W1.heap.size) (SK 5 12 fn) mixed (by kernel_rfl) GB.trans GB.refl (fun i v w w' h hg => h.stable hg) (SK.inh 5 12 _ (by decide)) ?_
        iterate 5 (refine Go.Mix.mixR_step rfl (fun K hK => ?_); have HKK := Go.Lib.hid hK; clear hK; go_simp; refine HKK.out _ ?_; clear HKK K)
        refine Go.Mix.mixR_eff rfl rfl (fun w7 hw7 => ?_) (fun v5 hv5 => ?_)
        · go_simp
          show Calls _ _ _ _ _
          refine (HFO.out _).mono ?_; rintro e w8 ⟨rfl, hx⟩
          exact ⟨hx, ⟨fun _ => rfl, (fun h => by cases h)⟩, (fun h => by cases h)⟩
        obtain rfl := hv5.1 rfl
        clear hv5
        iterate 6 (refine Go.Mix.mixR_step rfl (fun K hK => ?_); have HKK := Go.Lib.hid hK; clear hK; go_simp; refine HKK.out _ ?_; clear HKK K)
        refine Go.Mix.mixR_eff rfl rfl (fun w7 hw7 => ?_) (fun v12 hv12 => ?_)
        · have h7 : W1.drew.heap.size ≤ w7.heap.size := GB.size hw7
          have h8 : W1.drew.heap.size = W1.heap.size := rfl
          go_simp
          exact ⟨(Below.refl _ _).alloc (Nat.le_refl _) _, ⟨(fun h => by cases h), fun _ => ⟨_, rfl⟩⟩, fun _ => ⟨w7.heap.size, rfl, by omega, World.alloc_heap_new _ _⟩⟩
        obtain ⟨kb, rfl⟩ := hv12.2 rfl
        clear hv12
        refine Go.Mix.mixR_last rfl (fun w9 hg9 hΦ K hK => ?_)
        obtain ⟨kb', hk1, hk2, hk3⟩ := hΦ.2 rfl
        simp only [Value.pointer.injEq, Option.some.injEq, Addr.mk.injEq, and_true] at hk1
        subst hk1
        clear hΦ
        rw [if_pos (show Region.wanted _ _ = true from rfl)]
        refine wp_store_row 25 (.tmp 5) (.tmp 47) rfl kb _ rfl rfl _ _ hk3 infoZ rfl (by simp [Value.oneCell']) ?_
        refine hK _ _ ?_
        clear hK K
        have hB10 : GB W1 (w9.setRow kb #[.string (mk fn), .int .i64 sa]) := below_setRow (Below.trans (Below.drew (Below.refl _ W1)) hg9) hk2 _
        have hkX := setRow_heap w9 kb _ #[.string (mk fn), .int .i64 sa] _ _ hk3
        clear hk3 hg9 c0 c1 hne
        generalize w9.setRow kb #[.string (mk fn), .int .i64 sa] = X at *
        have hownX := owns_below HO1.out hB10
        have hBX := HBW1.out.trans (Below.mono hB10 HBW1.out.size)
        have hsX := hB10.size
        have hkltX := (Array.getElem?_eq_some_iff.1 hkX).1
        generalize hO : insAll ltS L = O at *
        obtain ⟨av, cv, rfl, hnc, hcm⟩ := (SlC.of_owns hownX).slice
        have hkbX : kb < X.heap.size := hkltX
        have hE0 := fun (W : World) (h : Below X.heap.size X W) => row_cell ((h.block _ hkltX).trans hkX) 0 (.string (mk fn)) rfl
        have hE1 := fun (W : World) (h : Below X.heap.size X W) => row_cell ((h.block _ hkltX).trans hkX) 1 (.int .i64 sa) rfl
        have hsX1 : Svs X (.slice av O.length cv) O := SlC.of_owns hownX
        have hpb := posL_le (lt := ltS) (fn, sa) O
        generalize hM : O.length = M at *
        have HOX := Go.Lib.hid hownX
        have HBX := Go.Lib.hid hBX
        have HKX := Go.Lib.hid hkX
        have HO := Go.Lib.hid hO
        have HE0 := Go.Lib.hid hE0
        have HE1 := Go.Lib.hid hE1
        have HM := Go.Lib.hid hM
        have HSX1 := Go.Lib.hid hsX1
        clear hownX hBX hkX hO hE0 hE1 hM hsX1
        clear hB10 HO1 HBW1
        go_wp2_with fail
        go_loopw [6] (fun j wq => ∃ jn : Nat, j = .int .i64 jn ∧ jn ≤ posL ltS (fn, sa) O ∧ Below X.heap.size X wq) (fun j _ => M - (intOf j).toNat)
        case atStart => exact ⟨0, rfl, Nat.zero_le _, Below.refl _ _⟩
        case round =>
          obtain ⟨jn, rfl, hjn, hbi⟩ := hrel
          by_cases hjl : jn < M
          · have wj : IntKind.i64.wrap ((jn : Int) + 1) = (jn : Int) + 1 := wrapi (by omega) (by omega)
            have hjl2 : (jn : Int) < (M : Int) := by omega
            obtain ⟨b2, off2, rfl, hbb2, hcell2⟩ := Svs.at HSX1.out (by rw [HM.out]; omega)
            obtain ⟨f0, f1⟩ := hcell2 jn (by rw [HM.out]; exact hjl)
            have hymem : O.getD jn s0 ∈ O := by rw [List.getD_eq_getElem?_getD, List.getElem?_eq_getElem (by rw [HM.out]; exact hjl)]; exact List.getElem_mem _
            have hyp := HPO.out _ hymem
            have hnx := pos_next hjn (by rw [HM.out]; exact hjl)
            have hhe := pos_here (x := (fn, sa)) (l := O) hjn
            have hie := fun h => ins_eq (x := (fn, sa)) (l := O) (j := jn) h (by rw [HM.out]; exact hjl)
            have hin := fun h h2 => ins_ne (x := (fn, sa)) (l := O) (j := jn) h (fun _ => h2)
            have hltr := ltS_ref hyp HP1.out
            clear hcell2 hymem
            generalize O.getD jn s0 = y at *
            obtain ⟨yn, ya⟩ := y
            simp only at f0 f1 hltr
            have hyl : yn.length ≤ maxLen := by have := pn_len hyp.1; unfold maxLen; simp only at this; omega
            have hfl : fn.length ≤ maxLen := by have := pn_len HP1.out.1; unfold maxLen; simp only at this; omega
            have hls := fun W => refLess_any (mk yn) (mk fn) W (by rw [size_mk]; exact hyl) (by rw [size_mk]; exact hfl)
            simp only [bl_mk] at hls
            have D0 : ∀ z : Subtype (Below X.heap.size X), z.1.cell? ⟨b2, off2 + jn * 2, none⟩ = some (.string (mk yn)) := fun z => (z.2.cell (p := ⟨b2, off2 + jn * 2, none⟩) hbb2).trans f0
            have D1 : ∀ z : Subtype (Below X.heap.size X), z.1.cell? ⟨b2, off2 + jn * 2 + 1, none⟩ = some (.int .i64 ya) := fun z => (z.2.cell (p := ⟨b2, off2 + jn * 2 + 1, none⟩) hbb2).trans f1
            have D2 : ∀ z : Subtype (Below X.heap.size X), z.1.cell? ⟨kb, 0, none⟩ = some (.string (mk fn)) := fun z => HE0.out z.1 z.2
            have D3 : ∀ z : Subtype (Below X.heap.size X), z.1.cell? ⟨kb, 1, none⟩ = some (.int .i64 sa) := fun z => HE1.out z.1 z.2
            have hne : Nonempty (Subtype (Below X.heap.size X)) := ⟨⟨X, Below.refl _ _⟩⟩
            have HNX := Go.Lib.hid hnx
            have HHE := Go.Lib.hid hhe
            have HIE := Go.Lib.hid hie
            have HIN := Go.Lib.hid hin
            have HLTR := Go.Lib.hid hltr
            have HLS := Go.Lib.hid hls
            have HBI := Go.Lib.hid hbi
            have HYP := Go.Lib.hid hyp
            clear hnx hhe hie hin hltr hls hbi hyp
            clear f0 f1 hyl hfl
            go_wp2_with fail
            cases hless : Nm.lessN yn fn with
            | true =>
              have hl1 := HLS.out
              rw [hless] at hl1
              have hn1 := HNX.out (by rw [HLTR.out, hless]; rfl)
              have HL1 := Go.Lib.hid hl1
              clear hl1
              refine Go.Mix.wp_region_mix (Es := [12]) (Below X.heap.size X) mixed (by kernel_rfl) (show Below X.heap.size X (World.drew _) from HBI.out.drew) (fun _ => ?_)
              iterate 12 (refine Go.Mix.mix_step rfl (fun K hK => ?_); have HKK := Go.Lib.hid hK; clear hK; go_simp; refine HKK.out _ _ ?_; clear HKK K)
              refine Go.Mix.mix_eff rfl (fun K hK => ?_)
              have HKK := Go.Lib.hid hK
              clear hK
              go_simp
              refine (HL1.out _).mono ?_; rintro e W5 ⟨rfl, hx5⟩
              have hb5 := HBI.out.drew.trans (hx5.mono (HBI.out.drew.size))
              go_simp
              refine HKK.out _ _ hb5 ?_
              clear HKK K hx5
              have HB5 := Go.Lib.hid hb5
              clear hb5
              iterate 21 (refine Go.Mix.mix_step rfl (fun K hK => ?_); have HKK := Go.Lib.hid hK; clear hK; go_simp; refine HKK.out _ _ ?_; clear HKK K)
              refine Go.Mix.mix_nil ?_
              go_wp2_with fail
              go_roundw
              case rel => exact ⟨jn + 1, by go_num, hn1, HB5.out⟩
              case measure => simp [intOf]; omega
            | false =>
              have hl1 := HLS.out
              rw [hless] at hl1
              have HL1 := Go.Lib.hid hl1
              clear hl1
              by_cases he : yn = fn
              · subst he
                have q0 : ((mk yn).toList == (mk yn).toList) = true := beq_mk_true rfl
                by_cases ha : ya < sa
                · have hn1 := HNX.out (by rw [HLTR.out, hless]; simp [ha])
                  refine Go.Mix.wp_region_mix (Es := [12]) (Below X.heap.size X) mixed (by kernel_rfl) (show Below X.heap.size X (World.drew _) from HBI.out.drew) (fun _ => ?_)
                  iterate 12 (refine Go.Mix.mix_step rfl (fun K hK => ?_); have HKK := Go.Lib.hid hK; clear hK; go_simp; refine HKK.out _ _ ?_; clear HKK K)
                  refine Go.Mix.mix_eff rfl (fun K hK => ?_)
                  have HKK := Go.Lib.hid hK
                  clear hK
                  go_simp
                  refine (HL1.out _).mono ?_; rintro e W5 ⟨rfl, hx5⟩
                  have hb5 := HBI.out.drew.trans (hx5.mono (HBI.out.drew.size))
                  go_simp
                  refine HKK.out _ _ hb5 ?_
                  clear HKK K hx5
                  have HB5 := Go.Lib.hid hb5
                  clear hb5
                  iterate 21 (refine Go.Mix.mix_step rfl (fun K hK => ?_); have HKK := Go.Lib.hid hK; clear hK; go_simp; refine HKK.out _ _ ?_; clear HKK K)
                  refine Go.Mix.mix_nil ?_
                  go_wp2_with fail
                  go_roundw
                  case rel => exact ⟨jn + 1, by go_num, hn1, HB5.out⟩
                  case measure => simp [intOf]; omega
                · have hj := HHE.out (by rw [HLTR.out, hless]; simp [ha])
                  by_cases hs : ya = sa
                  · subst hs
                    have hsame := HIE.out hj rfl
                    have hs3 := HS2.out.trans hsame
                    have HS3 := Go.Lib.hid hs3
                    have HJ := Go.Lib.hid hj
                    clear hs3 hj
                    clear hsame
                    refine Go.Mix.wp_region_mix (Es := [12]) (Below X.heap.size X) mixed (by kernel_rfl) (show Below X.heap.size X (World.drew _) from HBI.out.drew) (fun _ => ?_)
                    iterate 12 (refine Go.Mix.mix_step rfl (fun K hK => ?_); have HKK := Go.Lib.hid hK; clear hK; go_simp; refine HKK.out _ _ ?_; clear HKK K)
                    refine Go.Mix.mix_eff rfl (fun K hK => ?_)
                    have HKK := Go.Lib.hid hK
                    clear hK
                    go_simp
                    refine (HL1.out _).mono ?_; rintro e W5 ⟨rfl, hx5⟩
                    have hb5 := HBI.out.drew.trans (hx5.mono (HBI.out.drew.size))
                    go_simp
                    refine HKK.out _ _ hb5 ?_
                    clear HKK K hx5
                    have HB5 := Go.Lib.hid hb5
                    clear hb5
                    iterate 21 (refine Go.Mix.mix_step rfl (fun K hK => ?_); have HKK := Go.Lib.hid hK; clear hK; go_simp; refine HKK.out _ _ ?_; clear HKK K)
                    refine Go.Mix.mix_nil ?_
                    have hownz := owns_below HOX.out HB5.out
                    have hbz := HBX.out.trans (HB5.out.mono HBX.out.size)
                    have e0 := D0 ⟨W5, HB5.out⟩
                    have e1 := D1 ⟨W5, HB5.out⟩
                    have e2 := D2 ⟨W5, HB5.out⟩
                    have e3 := D3 ⟨W5, HB5.out⟩
                    simp only at e0 e1 e2 e3
                    have HOZ := Go.Lib.hid hownz
                    have HBZ := Go.Lib.hid hbz
                    clear hownz hbz
                    go_wp2_with fail
                    go_quiet (fail)
                    go_wp2_with fail
                    go_roundw
                    case rel => exact ⟨k + 1, by go_num, by omega, by rw [HS3.out, HM.out]; exact HOZ.out, below_drewN HBZ.out _⟩
                    case measure => simp [intOf]; omega
                  · have q1 : (ya == sa) = false := beq_eq_false_iff_ne.2 hs
                    have hins := HS2.out.trans (HIN.out hj (fun h => hs (congrArg Prod.snd h)))
                    have HINS := Go.Lib.hid hins
                    have HJ := Go.Lib.hid hj
                    clear hins hj
                    clear hs
                    refine Go.Mix.wp_region_mix (Es := [12]) (Below X.heap.size X) mixed (by kernel_rfl) (show Below X.heap.size X (World.drew _) from HBI.out.drew) (fun _ => ?_)
                    iterate 12 (refine Go.Mix.mix_step rfl (fun K hK => ?_); have HKK := Go.Lib.hid hK; clear hK; go_simp; refine HKK.out _ _ ?_; clear HKK K)
                    refine Go.Mix.mix_eff rfl (fun K hK => ?_)
                    have HKK := Go.Lib.hid hK
                    clear hK
                    go_simp
                    refine (HL1.out _).mono ?_; rintro e W5 ⟨rfl, hx5⟩
                    have hb5 := HBI.out.drew.trans (hx5.mono (HBI.out.drew.size))
                    go_simp
                    refine HKK.out _ _ hb5 ?_
                    clear HKK K hx5
                    have HB5 := Go.Lib.hid hb5
                    clear hb5
                    iterate 21 (refine Go.Mix.mix_step rfl (fun K hK => ?_); have HKK := Go.Lib.hid hK; clear hK; go_simp; refine HKK.out _ _ ?_; clear HKK K)
                    refine Go.Mix.mix_nil ?_
                    have e0 := D0 ⟨W5, HB5.out⟩
                    have e1 := D1 ⟨W5, HB5.out⟩
                    have e2 := D2 ⟨W5, HB5.out⟩
                    have e3 := D3 ⟨W5, HB5.out⟩
                    simp only at e0 e1 e2 e3
                    go_wp2_with fail
                    go_quiet (fail)
                    go_wp2_with fail
                    obtain ⟨Fl, hFl⟩ : ∃ Fl, Fl = encV (O.take jn ++ [(yn, sa)] ++ O.drop jn) := ⟨_, rfl⟩
                    have hjM : jn ≤ M := by have := hpb; omega
                    have hlenO := HM.out
                    have hif : InsF 2 jn M (encV (O.take jn)) (encV (O.drop jn)) Fl [.string (mk yn), .int .i64 sa] := ⟨hjM, by rw [encV_length, List.length_take]; omega, rfl, by rw [encV_length, List.length_drop]; omega, by rw [hFl]; simp [encV]⟩
                    have hSX : SlC X 2 (.slice (some ⟨b2, off2, none⟩) M cv) M (encV O) := SlC.of_owns HOX.out
                    obtain ⟨A2, hA, hA2⟩ : ∃ A2 : Option Addr, (if cv = jn then (some ⟨b2, off2, none⟩) else (some ⟨b2, off2 + jn * 2, none⟩ : Option Addr)) = A2 ∧ SlC X 2 (.slice A2 (M - jn) (cv - jn)) (M - jn) (encV (O.drop jn)) := ⟨_, rfl, ins_slA hSX hjM⟩
                    have hs1 : SlC X 2 (.slice (some ⟨b2, off2, none⟩) jn cv) jn (encV (O.take jn)) := ins_slB hSX hjM
                    have hb6 : jn ≤ cv := by have := hSX; obtain ⟨_, _, _, e, h1, _⟩ := this; simp only [Value.slice.injEq] at e; omega
                    have hb3 : (jn : Int) ≤ (M : Int) := by omega
                    have hone1 := one_encV (O.take jn)
                    have hone2 := one_encV (O.drop jn)
                    have hone3 := one_sv (yn, sa)
                    obtain ⟨Y, hY⟩ : ∃ Y, Y = W5.drewN nq := ⟨_, rfl⟩
                    have hXY : Below X.heap.size X Y.drew := by rw [hY]; exact (below_drewN HB5.out _).drew
                    have hZ2 : ∀ w3 : Subtype (GA 25 2 X.heap.size Fl [.string (mk yn), .int .i64 sa] Y.drew), w3.1.cell? ⟨kb, 0, none⟩ = some (.string (mk yn)) := fun w3 => HE0.out _ (hXY.trans w3.2.bl)
                    have hZ3 : ∀ w3 : Subtype (GA 25 2 X.heap.size Fl [.string (mk yn), .int .i64 sa] Y.drew), w3.1.cell? ⟨kb, 1, none⟩ = some (.int .i64 sa) := fun w3 => HE1.out _ (hXY.trans w3.2.bl)
                    have hneG : Nonempty (Subtype (GA 25 2 X.heap.size Fl [.string (mk yn), .int .i64 sa] Y.drew)) := ⟨⟨Y.drew, GA.refl _ _ _ _⟩⟩
                    have hin : ∀ W, GA 25 2 X.heap.size Fl [.string (mk yn), .int .i64 sa] Y.drew W → X.heap.size ≤ W.heap.size ∧ Below X.heap.size X W := fun W h => by
                      have h1 := h.bl.size
                      have h2 := hXY.size
                      exact ⟨by omega, hXY.trans h.bl⟩
                    rw [← hY]
                    have HFL := Go.Lib.hid hFl
                    have HLENO := Go.Lib.hid hlenO
                    have HIF := Go.Lib.hid hif
                    have HA2 := Go.Lib.hid hA2
                    have HS1 := Go.Lib.hid hs1
                    have HO1 := Go.Lib.hid hone1
                    have HO2 := Go.Lib.hid hone2
                    have HO3 := Go.Lib.hid hone3
                    have HXY := Go.Lib.hid hXY
                    have HIN2 := Go.Lib.hid hin
                    clear hFl hlenO hif hA2 hs1 hone1 hone2 hone3 hXY hin
                    clear hY
                    try clear hne
                    refine Go.Mix.wp_region_mixD [0, 4, 6, 7, 11] 12 (GA 25 2 X.heap.size Fl [.string (mk yn), .int .i64 sa]) (FAdd 25 2 (0, 4, 6, 7, 11) X.heap.size jn M Fl [.string (mk yn), .int .i64 sa]) SAdd [(4, 0, 96), (7, 4, 100), (7, 6, 102), (11, 7, 103)] mixed (by kernel_rfl) (fun i e q hm => ?hz2) GA.trans (GA.refl _ _ _) (fun i v w w' h hg => h.stable HIF.out.hk HIF.out.len hg) SAdd.inh ?_
                    case hz2 =>
                      simp only [List.mem_cons, Prod.mk.injEq, List.not_mem_nil, or_false] at hm
                      rcases hm with ⟨_, _, rfl⟩ | ⟨_, _, rfl⟩ | ⟨_, _, rfl⟩ | ⟨_, _, rfl⟩ <;> exact of_decide_eq_true rfl
                    refine Go.Mix.mixD_eff rfl rfl (fun w7 hw7 hn7 => ?_) (fun v1 hv1 => ?_)
                    · clear hn7
                      obtain ⟨i1, i2⟩ := HIN2.out w7 hw7
                      go_simp
                      have hnew := World.alloc_heap_new w7 (.cells #[] 25)
                      refine ⟨GA.of_below ((Below.refl _ _).alloc (Nat.le_refl _) _) i1, ⟨_, _, _, rfl⟩, ⟨fun _ => ⟨⟨by simp, .inr ⟨w7.heap.size, 0, #[], rfl, i1, hnew, Nat.le_refl _, Nat.zero_le _, rfl, by simp⟩⟩, fun _ => ⟨_, rfl⟩⟩, fun h => absurd h (by decide), fun h => absurd h (by decide), fun h => absurd h (by decide), fun h => absurd h (by decide)⟩⟩
                    obtain ⟨a1, n1, c1', rfl⟩ := hv1
                    iterate 3 (refine Go.Mix.mixD_step rfl (fun K hK => ?_); have HKK := Go.Lib.hid hK; clear hK; go_simp; refine HKK.out _ ?_; clear HKK K)
                    refine Go.Mix.mixD_eff rfl rfl (fun w7 hw7 hn7 => ?_) (fun v8 hv8 => ?_)
                    · have f1 : FOwn 25 2 X.heap.size Fl 0 (.slice a1 n1 c1') w7 := (hn7 0 96 (by simp)).f0 rfl
                      obtain ⟨i1, i2⟩ := HIN2.out w7 hw7
                      obtain ⟨v', w', hr, g1, g2, a', c', rfl⟩ := app_effect eiSv (sC := [.string (mk yn), .int .i64 sa]) f1 i1 (HS1.out.below i2 (Nat.le_refl _)) HO1.out HIF.out.q1 (HIF.out.le _ (by omega)) (by unfold maxLen; omega) (by omega) 22
                      simp only [Nat.zero_add] at hr g2
                      exact effR_run (.tmp 96) (.tmp 99) rfl rfl rfl hr ⟨g1, ⟨_, _, _, rfl⟩, ⟨fun h => absurd h (by decide), fun _ => g2, fun h => absurd h (by decide), fun h => absurd h (by decide), fun h => absurd h (by decide)⟩⟩
                    obtain ⟨a8, n8, c8, rfl⟩ := hv8
                    iterate 1 (refine Go.Mix.mixD_step rfl (fun K hK => ?_); have HKK := Go.Lib.hid hK; clear hK; go_simp; refine HKK.out _ ?_; clear HKK K)
                    refine Go.Mix.mixD_eff rfl rfl (fun w7 hw7 hn7 => ?_) (fun v10 hv10 => ?_)
                    · clear hn7
                      obtain ⟨i1, i2⟩ := HIN2.out w7 hw7
                      go_simp
                      have hnew := World.alloc_heap_new w7 (.cells #[.string ⟨yn.toArray⟩, .int .i64 sa] 25)
                      refine ⟨GA.of_below ((Below.refl _ _).alloc (Nat.le_refl _) _) i1, ⟨_, _, _, rfl⟩, ⟨fun h => absurd h (by decide), fun h => absurd h (by decide), fun _ => ⟨w7.heap.size, rfl, i1, _, hnew, rfl, rfl⟩, fun h => absurd h (by decide), fun h => absurd h (by decide)⟩⟩
                    obtain ⟨a10, n10, c10, rfl⟩ := hv10
                    refine Go.Mix.mixD_eff rfl rfl (fun w7 hw7 hn7 => ?_) (fun v11 hv11 => ?_)
                    · have f8 : FOwn 25 2 X.heap.size Fl jn (.slice a8 n8 c8) w7 := (hn7 4 100 (by simp)).f1 rfl
                      have f10 : FNew 25 2 X.heap.size [.string (mk yn), .int .i64 sa] (.slice a10 n10 c10) w7 := (hn7 6 102 (by simp)).f2 rfl
                      obtain ⟨i1, i2⟩ := HIN2.out w7 hw7
                      obtain ⟨v', w', hr, g1, g2, a', c', rfl⟩ := app_effect eiSv (sC := [.string (mk yn), .int .i64 sa]) f8 i1 (f10.slc rfl) HO3.out HIF.out.q2 (HIF.out.le _ (by omega)) (by unfold maxLen; omega) (by omega) 22
                      exact effR_run (.tmp 100) (.tmp 102) rfl rfl rfl hr ⟨g1, ⟨_, _, _, rfl⟩, ⟨fun h => absurd h (by decide), fun h => absurd h (by decide), fun h => absurd h (by decide), fun _ => g2, fun h => absurd h (by decide)⟩⟩
                    obtain ⟨a11, n11, c11, rfl⟩ := hv11
                    iterate 3 (refine Go.Mix.mixD_step rfl (fun K hK => ?_); have HKK := Go.Lib.hid hK; clear hK; go_simp; refine HKK.out _ ?_; clear HKK K)
                    refine Go.Mix.mixD_eff rfl rfl (fun w7 hw7 hn7 => ?_) (fun v18 hv18 => ?_)
                    · have f11 : FOwn 25 2 X.heap.size Fl (jn + 1) (.slice a11 n11 c11) w7 := (hn7 7 103 (by simp)).f3 rfl
                      obtain ⟨i1, i2⟩ := HIN2.out w7 hw7
                      obtain ⟨v', w', hr, g1, g2, a', c', rfl⟩ := app_effect eiSv (sC := [.string (mk yn), .int .i64 sa]) f11 i1 (HA2.out.below i2 (Nat.le_refl _)) HO2.out HIF.out.q3 (HIF.out.le _ (by omega)) (by unfold maxLen; omega) (by omega) 22
                      exact effR_run (.tmp 103) (.tmp 106) rfl rfl rfl hr ⟨g1, ⟨_, _, _, rfl⟩, ⟨fun h => absurd h (by decide), fun h => absurd h (by decide), fun h => absurd h (by decide), fun h => absurd h (by decide), fun _ => g2⟩⟩
                    obtain ⟨a18, n18, c18, rfl⟩ := hv18
                    refine Go.Mix.mixD_last rfl (fun w9 hg9 hP K hK => ?_)
                    have f18 : FOwn 25 2 X.heap.size Fl (jn + 1 + (M - jn)) (.slice a18 n18 c18) w9 := hP.2.f4 rfl
                    clear hP
                    obtain ⟨i1, i2⟩ := HIN2.out w9 hg9
                    have hown9 : w9.ownsRow w.heap.size 25 2 (.slice a18 n18 c18) (M + 1) Fl := by
                      have h := owns_base f18.1 HBX.out.size
                      rw [show jn + 1 + (M - jn) = M + 1 by omega, List.take_of_length_le (by rw [HIF.out.len]; exact Nat.le_refl _)] at h
                      exact h
                    have hb9 := HBX.out.trans (i2.mono HBX.out.size)
                    have hres : w9.ownsRow w.heap.size 25 2 (.slice a18 n18 c18) (insAll ltS (hintL (l.take (k + 1)))).length (encV (insAll ltS (hintL (l.take (k + 1))))) := by
                      rw [HINS.out, ← HFL.out]
                      have e : (O.take jn ++ [(yn, sa)] ++ O.drop jn).length = M + 1 := by have := HLENO.out; rw [List.length_append, List.length_append, List.length_take, List.length_drop]; simp only [List.length_cons, List.length_nil]; omega
                      rw [e]
                      exact hown9
                    have HKK := Go.Lib.hid hK
                    have HB9 := Go.Lib.hid hb9
                    have HRES := Go.Lib.hid hres
                    clear hK hb9 hres
                    clear f18 hg9 hown9 hneG hZ2 hZ3
                    rw [if_pos (show Region.wanted _ _ = true from rfl)]
                    go_simp
                    refine HKK.out _ _ ?_
                    clear HKK K
                    go_wp2_with fail
                    go_roundw
                    case rel => exact ⟨k + 1, by go_num, by omega, HRES.out, HB9.out⟩
                    case measure => simp [intOf]; omega
              · have q0 : ((mk yn).toList == (mk fn).toList) = false := beq_mk_false he
                have hj := HHE.out (by rw [HLTR.out, hless]; simp [he])
                have hins := HS2.out.trans (HIN.out hj (fun h => he (congrArg Prod.fst h)))
                have HINS := Go.Lib.hid hins
                have HJ := Go.Lib.hid hj
                clear hins hj
                clear he
                refine Go.Mix.wp_region_mix (Es := [12]) (Below X.heap.size X) mixed (by kernel_rfl) (show Below X.heap.size X (World.drew _) from HBI.out.drew) (fun _ => ?_)
                iterate 12 (refine Go.Mix.mix_step rfl (fun K hK => ?_); have HKK := Go.Lib.hid hK; clear hK; go_simp; refine HKK.out _ _ ?_; clear HKK K)
                refine Go.Mix.mix_eff rfl (fun K hK => ?_)
                have HKK := Go.Lib.hid hK
                clear hK
                go_simp
                refine (HL1.out _).mono ?_; rintro e W5 ⟨rfl, hx5⟩
                have hb5 := HBI.out.drew.trans (hx5.mono (HBI.out.drew.size))
                go_simp
                refine HKK.out _ _ hb5 ?_
                clear HKK K hx5
                have HB5 := Go.Lib.hid hb5
                clear hb5
                iterate 21 (refine Go.Mix.mix_step rfl (fun K hK => ?_); have HKK := Go.Lib.hid hK; clear hK; go_simp; refine HKK.out _ _ ?_; clear HKK K)
                refine Go.Mix.mix_nil ?_
                have e0 := D0 ⟨W5, HB5.out⟩
                have e1 := D1 ⟨W5, HB5.out⟩
                have e2 := D2 ⟨W5, HB5.out⟩
                have e3 := D3 ⟨W5, HB5.out⟩
                simp only at e0 e1 e2 e3
                go_wp2_with fail
                go_quiet (fail)
                go_wp2_with fail
                obtain ⟨Fl, hFl⟩ : ∃ Fl, Fl = encV (O.take jn ++ [(fn, sa)] ++ O.drop jn) := ⟨_, rfl⟩
                have hjM : jn ≤ M := by have := hpb; omega
                have hlenO := HM.out
                have hif : InsF 2 jn M (encV (O.take jn)) (encV (O.drop jn)) Fl [.string (mk fn), .int .i64 sa] := ⟨hjM, by rw [encV_length, List.length_take]; omega, rfl, by rw [encV_length, List.length_drop]; omega, by rw [hFl]; simp [encV]⟩
                have hSX : SlC X 2 (.slice (some ⟨b2, off2, none⟩) M cv) M (encV O) := SlC.of_owns HOX.out
                obtain ⟨A2, hA, hA2⟩ : ∃ A2 : Option Addr, (if cv = jn then (some ⟨b2, off2, none⟩) else (some ⟨b2, off2 + jn * 2, none⟩ : Option Addr)) = A2 ∧ SlC X 2 (.slice A2 (M - jn) (cv - jn)) (M - jn) (encV (O.drop jn)) := ⟨_, rfl, ins_slA hSX hjM⟩
                have hs1 : SlC X 2 (.slice (some ⟨b2, off2, none⟩) jn cv) jn (encV (O.take jn)) := ins_slB hSX hjM
                have hb6 : jn ≤ cv := by have := hSX; obtain ⟨_, _, _, e, h1, _⟩ := this; simp only [Value.slice.injEq] at e; omega
                have hb3 : (jn : Int) ≤ (M : Int) := by omega
                have hone1 := one_encV (O.take jn)
                have hone2 := one_encV (O.drop jn)
                have hone3 := one_sv (fn, sa)
                obtain ⟨Y, hY⟩ : ∃ Y, Y = W5.drewN nq := ⟨_, rfl⟩
                have hXY : Below X.heap.size X Y.drew := by rw [hY]; exact (below_drewN HB5.out _).drew
                have hZ2 : ∀ w3 : Subtype (GA 25 2 X.heap.size Fl [.string (mk fn), .int .i64 sa] Y.drew), w3.1.cell? ⟨kb, 0, none⟩ = some (.string (mk fn)) := fun w3 => HE0.out _ (hXY.trans w3.2.bl)
                have hZ3 : ∀ w3 : Subtype (GA 25 2 X.heap.size Fl [.string (mk fn), .int .i64 sa] Y.drew), w3.1.cell? ⟨kb, 1, none⟩ = some (.int .i64 sa) := fun w3 => HE1.out _ (hXY.trans w3.2.bl)
                have hneG : Nonempty (Subtype (GA 25 2 X.heap.size Fl [.string (mk fn), .int .i64 sa] Y.drew)) := ⟨⟨Y.drew, GA.refl _ _ _ _⟩⟩
                have hin : ∀ W, GA 25 2 X.heap.size Fl [.string (mk fn), .int .i64 sa] Y.drew W → X.heap.size ≤ W.heap.size ∧ Below X.heap.size X W := fun W h => by
                  have h1 := h.bl.size
                  have h2 := hXY.size
                  exact ⟨by omega, hXY.trans h.bl⟩
                rw [← hY]
                have HFL := Go.Lib.hid hFl
                have HLENO := Go.Lib.hid hlenO
                have HIF := Go.Lib.hid hif
                have HA2 := Go.Lib.hid hA2
                have HS1 := Go.Lib.hid hs1
                have HO1 := Go.Lib.hid hone1
                have HO2 := Go.Lib.hid hone2
                have HO3 := Go.Lib.hid hone3
                have HXY := Go.Lib.hid hXY
                have HIN2 := Go.Lib.hid hin
                clear hFl hlenO hif hA2 hs1 hone1 hone2 hone3 hXY hin
                clear hY
                try clear hne
                refine Go.Mix.wp_region_mixD [0, 4, 6, 7, 11] 12 (GA 25 2 X.heap.size Fl [.string (mk fn), .int .i64 sa]) (FAdd 25 2 (0, 4, 6, 7, 11) X.heap.size jn M Fl [.string (mk fn), .int .i64 sa]) SAdd [(4, 0, 96), (7, 4, 100), (7, 6, 102), (11, 7, 103)] mixed (by kernel_rfl) (fun i e q hm => ?hz1) GA.trans (GA.refl _ _ _) (fun i v w w' h hg => h.stable HIF.out.hk HIF.out.len hg) SAdd.inh ?_
                case hz1 =>
                  simp only [List.mem_cons, Prod.mk.injEq, List.not_mem_nil, or_false] at hm
                  rcases hm with ⟨_, _, rfl⟩ | ⟨_, _, rfl⟩ | ⟨_, _, rfl⟩ | ⟨_, _, rfl⟩ <;> exact of_decide_eq_true rfl
                refine Go.Mix.mixD_eff rfl rfl (fun w7 hw7 hn7 => ?_) (fun v1 hv1 => ?_)
                · clear hn7
                  obtain ⟨i1, i2⟩ := HIN2.out w7 hw7
                  go_simp
                  have hnew := World.alloc_heap_new w7 (.cells #[] 25)
                  refine ⟨GA.of_below ((Below.refl _ _).alloc (Nat.le_refl _) _) i1, ⟨_, _, _, rfl⟩, ⟨fun _ => ⟨⟨by simp, .inr ⟨w7.heap.size, 0, #[], rfl, i1, hnew, Nat.le_refl _, Nat.zero_le _, rfl, by simp⟩⟩, fun _ => ⟨_, rfl⟩⟩, fun h => absurd h (by decide), fun h => absurd h (by decide), fun h => absurd h (by decide), fun h => absurd h (by decide)⟩⟩
                obtain ⟨a1, n1, c1', rfl⟩ := hv1
                iterate 3 (refine Go.Mix.mixD_step rfl (fun K hK => ?_); have HKK := Go.Lib.hid hK; clear hK; go_simp; refine HKK.out _ ?_; clear HKK K)
                refine Go.Mix.mixD_eff rfl rfl (fun w7 hw7 hn7 => ?_) (fun v8 hv8 => ?_)
                · have f1 : FOwn 25 2 X.heap.size Fl 0 (.slice a1 n1 c1') w7 := (hn7 0 96 (by simp)).f0 rfl
                  obtain ⟨i1, i2⟩ := HIN2.out w7 hw7
                  obtain ⟨v', w', hr, g1, g2, a', c', rfl⟩ := app_effect eiSv (sC := [.string (mk fn), .int .i64 sa]) f1 i1 (HS1.out.below i2 (Nat.le_refl _)) HO1.out HIF.out.q1 (HIF.out.le _ (by omega)) (by unfold maxLen; omega) (by omega) 22
                  simp only [Nat.zero_add] at hr g2
                  exact effR_run (.tmp 96) (.tmp 99) rfl rfl rfl hr ⟨g1, ⟨_, _, _, rfl⟩, ⟨fun h => absurd h (by decide), fun _ => g2, fun h => absurd h (by decide), fun h => absurd h (by decide), fun h => absurd h (by decide)⟩⟩
                obtain ⟨a8, n8, c8, rfl⟩ := hv8
                iterate 1 (refine Go.Mix.mixD_step rfl (fun K hK => ?_); have HKK := Go.Lib.hid hK; clear hK; go_simp; refine HKK.out _ ?_; clear HKK K)
                refine Go.Mix.mixD_eff rfl rfl (fun w7 hw7 hn7 => ?_) (fun v10 hv10 => ?_)
                · clear hn7
                  obtain ⟨i1, i2⟩ := HIN2.out w7 hw7
                  go_simp
                  have hnew := World.alloc_heap_new w7 (.cells #[.string ⟨fn.toArray⟩, .int .i64 sa] 25)
                  refine ⟨GA.of_below ((Below.refl _ _).alloc (Nat.le_refl _) _) i1, ⟨_, _, _, rfl⟩, ⟨fun h => absurd h (by decide), fun h => absurd h (by decide), fun _ => ⟨w7.heap.size, rfl, i1, _, hnew, rfl, rfl⟩, fun h => absurd h (by decide), fun h => absurd h (by decide)⟩⟩
                obtain ⟨a10, n10, c10, rfl⟩ := hv10
                refine Go.Mix.mixD_eff rfl rfl (fun w7 hw7 hn7 => ?_) (fun v11 hv11 => ?_)
                · have f8 : FOwn 25 2 X.heap.size Fl jn (.slice a8 n8 c8) w7 := (hn7 4 100 (by simp)).f1 rfl
                  have f10 : FNew 25 2 X.heap.size [.string (mk fn), .int .i64 sa] (.slice a10 n10 c10) w7 := (hn7 6 102 (by simp)).f2 rfl
                  obtain ⟨i1, i2⟩ := HIN2.out w7 hw7
                  obtain ⟨v', w', hr, g1, g2, a', c', rfl⟩ := app_effect eiSv (sC := [.string (mk fn), .int .i64 sa]) f8 i1 (f10.slc rfl) HO3.out HIF.out.q2 (HIF.out.le _ (by omega)) (by unfold maxLen; omega) (by omega) 22
                  exact effR_run (.tmp 100) (.tmp 102) rfl rfl rfl hr ⟨g1, ⟨_, _, _, rfl⟩, ⟨fun h => absurd h (by decide), fun h => absurd h (by decide), fun h => absurd h (by decide), fun _ => g2, fun h => absurd h (by decide)⟩⟩
                obtain ⟨a11, n11, c11, rfl⟩ := hv11
                iterate 3 (refine Go.Mix.mixD_step rfl (fun K hK => ?_); have HKK := Go.Lib.hid hK; clear hK; go_simp; refine HKK.out _ ?_; clear HKK K)
                refine Go.Mix.mixD_eff rfl rfl (fun w7 hw7 hn7 => ?_) (fun v18 hv18 => ?_)
                · have f11 : FOwn 25 2 X.heap.size Fl (jn + 1) (.slice a11 n11 c11) w7 := (hn7 7 103 (by simp)).f3 rfl
                  obtain ⟨i1, i2⟩ := HIN2.out w7 hw7
                  obtain ⟨v', w', hr, g1, g2, a', c', rfl⟩ := app_effect eiSv (sC := [.string (mk fn), .int .i64 sa]) f11 i1 (HA2.out.below i2 (Nat.le_refl _)) HO2.out HIF.out.q3 (HIF.out.le _ (by omega)) (by unfold maxLen; omega) (by omega) 22
                  exact effR_run (.tmp 103) (.tmp 106) rfl rfl rfl hr ⟨g1, ⟨_, _, _, rfl⟩, ⟨fun h => absurd h (by decide), fun h => absurd h (by decide), fun h => absurd h (by decide), fun h => absurd h (by decide), fun _ => g2⟩⟩
                obtain ⟨a18, n18, c18, rfl⟩ := hv18
                refine Go.Mix.mixD_last rfl (fun w9 hg9 hP K hK => ?_)
                have f18 : FOwn 25 2 X.heap.size Fl (jn + 1 + (M - jn)) (.slice a18 n18 c18) w9 := hP.2.f4 rfl
                clear hP
                obtain ⟨i1, i2⟩ := HIN2.out w9 hg9
                have hown9 : w9.ownsRow w.heap.size 25 2 (.slice a18 n18 c18) (M + 1) Fl := by
                  have h := owns_base f18.1 HBX.out.size
                  rw [show jn + 1 + (M - jn) = M + 1 by omega, List.take_of_length_le (by rw [HIF.out.len]; exact Nat.le_refl _)] at h
                  exact h
                have hb9 := HBX.out.trans (i2.mono HBX.out.size)
                have hres : w9.ownsRow w.heap.size 25 2 (.slice a18 n18 c18) (insAll ltS (hintL (l.take (k + 1)))).length (encV (insAll ltS (hintL (l.take (k + 1))))) := by
                  rw [HINS.out, ← HFL.out]
                  have e : (O.take jn ++ [(fn, sa)] ++ O.drop jn).length = M + 1 := by have := HLENO.out; rw [List.length_append, List.length_append, List.length_take, List.length_drop]; simp only [List.length_cons, List.length_nil]; omega
                  rw [e]
                  exact hown9
                have HKK := Go.Lib.hid hK
                have HB9 := Go.Lib.hid hb9
                have HRES := Go.Lib.hid hres
                clear hK hb9 hres
                clear f18 hg9 hown9 hneG hZ2 hZ3
                rw [if_pos (show Region.wanted _ _ = true from rfl)]
                go_simp
                refine HKK.out _ _ ?_
                clear HKK K
                go_wp2_with fail
                go_roundw
                case rel => exact ⟨k + 1, by go_num, by omega, HRES.out, HB9.out⟩
                case measure => simp [intOf]; omega
          · have hj := pos_end (x := (fn, sa)) (l := O) hjn (by rw [HM.out]; exact hjl)
            have hins := HS2.out.trans (ins_ne hj (fun h => absurd h (by rw [HM.out]; exact hjl)))
            have hjl2 : ¬ (jn : Int) < (M : Int) := by omega
            have hHE2 := HE0.out wr hbi
            have hHE3 := HE1.out wr hbi
            have HINS := Go.Lib.hid hins
            have HJ := Go.Lib.hid hj
            have HBI := Go.Lib.hid hbi
            clear hins hj hbi
            rcases HOX.out.2 with ⟨hv, hn0⟩ | ⟨b2, cap', cur, hv, _⟩
            · simp only [Value.slice.injEq] at hv
              obtain ⟨rfl, rfl, rfl⟩ := hv
              obtain rfl : jn = 0 := by omega
              go_wp2_with fail
              refine Go.Mix.wp_region_mix (Es := [12]) (Below X.heap.size X) mixed (by kernel_rfl) (show Below X.heap.size X (World.drew _) from HBI.out.drew) (fun _ => ?_)
              iterate 12 (refine Go.Mix.mix_step rfl (fun K hK => ?_); have HKK := Go.Lib.hid hK; clear hK; go_simp; refine HKK.out _ _ ?_; clear HKK K)
              refine Go.Mix.mix_eff rfl (fun K hK => ?_)
              have HKK := Go.Lib.hid hK
              clear hK
              go_simp
              refine HKK.out _ _ HBI.out.drew ?_
              clear HKK K
              iterate 21 (refine Go.Mix.mix_step rfl (fun K hK => ?_); have HKK := Go.Lib.hid hK; clear hK; go_simp; refine HKK.out _ _ ?_; clear HKK K)
              refine Go.Mix.mix_nil ?_
              have hbd := HBI.out.drew
              have HBD := Go.Lib.hid hbd
              clear hbd
              go_wp2_with fail
              go_quiet (fail)
              go_wp2_with fail
              obtain ⟨Fl, hFl⟩ : ∃ Fl, Fl = encV (O.take 0 ++ [(fn, sa)] ++ O.drop 0) := ⟨_, rfl⟩
              have hjM : 0 ≤ 0 := by have := hpb; omega
              have hlenO := HM.out
              have hif : InsF 2 0 0 (encV (O.take 0)) (encV (O.drop 0)) Fl [.string (mk fn), .int .i64 sa] := ⟨hjM, by rw [encV_length, List.length_take]; omega, rfl, by rw [encV_length, List.length_drop]; omega, by rw [hFl]; simp [encV]⟩
              have hO0 : O = [] := List.eq_nil_of_length_eq_zero HM.out
              have hA2 : SlC X 2 (.slice none 0 0) (0 - 0) (encV (O.drop 0)) := by rw [hO0]; exact SlC.nil _ _
              have hs1 : SlC X 2 (.slice none 0 0) 0 (encV (O.take 0)) := by rw [hO0]; exact SlC.nil _ _
              clear hO0
              have hb6 : 0 ≤ 0 := by omega
              have hb3 : (0 : Int) ≤ (0 : Int) := by omega
              have hone1 := one_encV (O.take 0)
              have hone2 := one_encV (O.drop 0)
              have hone3 := one_sv (fn, sa)
              obtain ⟨Y, hY⟩ : ∃ Y, Y = wr.drew.drewN nq := ⟨_, rfl⟩
              have hXY : Below X.heap.size X Y.drew := by rw [hY]; exact (below_drewN HBD.out _).drew
              have hZ2 : ∀ w3 : Subtype (GA 25 2 X.heap.size Fl [.string (mk fn), .int .i64 sa] Y.drew), w3.1.cell? ⟨kb, 0, none⟩ = some (.string (mk fn)) := fun w3 => HE0.out _ (hXY.trans w3.2.bl)
              have hZ3 : ∀ w3 : Subtype (GA 25 2 X.heap.size Fl [.string (mk fn), .int .i64 sa] Y.drew), w3.1.cell? ⟨kb, 1, none⟩ = some (.int .i64 sa) := fun w3 => HE1.out _ (hXY.trans w3.2.bl)
              have hneG : Nonempty (Subtype (GA 25 2 X.heap.size Fl [.string (mk fn), .int .i64 sa] Y.drew)) := ⟨⟨Y.drew, GA.refl _ _ _ _⟩⟩
              have hin : ∀ W, GA 25 2 X.heap.size Fl [.string (mk fn), .int .i64 sa] Y.drew W → X.heap.size ≤ W.heap.size ∧ Below X.heap.size X W := fun W h => by
                have h1 := h.bl.size
                have h2 := hXY.size
                exact ⟨by omega, hXY.trans h.bl⟩
              rw [← hY]
              have HFL := Go.Lib.hid hFl
              have HLENO := Go.Lib.hid hlenO
              have HIF := Go.Lib.hid hif
              have HA2 := Go.Lib.hid hA2
              have HS1 := Go.Lib.hid hs1
              have HO1 := Go.Lib.hid hone1
              have HO2 := Go.Lib.hid hone2
              have HO3 := Go.Lib.hid hone3
              have HXY := Go.Lib.hid hXY
              have HIN2 := Go.Lib.hid hin
              clear hFl hlenO hif hA2 hs1 hone1 hone2 hone3 hXY hin
              clear hY
              try clear hne
              refine Go.Mix.wp_region_mixD [0, 4, 6, 7, 11] 12 (GA 25 2 X.heap.size Fl [.string (mk fn), .int .i64 sa]) (FAdd 25 2 (0, 4, 6, 7, 11) X.heap.size 0 0 Fl [.string (mk fn), .int .i64 sa]) SAdd [(4, 0, 96), (7, 4, 100), (7, 6, 102), (11, 7, 103)] mixed (by kernel_rfl) (fun i e q hm => ?hz3) GA.trans (GA.refl _ _ _) (fun i v w w' h hg => h.stable HIF.out.hk HIF.out.len hg) SAdd.inh ?_
              case hz3 =>
                simp only [List.mem_cons, Prod.mk.injEq, List.not_mem_nil, or_false] at hm
                rcases hm with ⟨_, _, rfl⟩ | ⟨_, _, rfl⟩ | ⟨_, _, rfl⟩ | ⟨_, _, rfl⟩ <;> exact of_decide_eq_true rfl
              refine Go.Mix.mixD_eff rfl rfl (fun w7 hw7 hn7 => ?_) (fun v1 hv1 => ?_)
              · clear hn7
                obtain ⟨i1, i2⟩ := HIN2.out w7 hw7
                go_simp
                have hnew := World.alloc_heap_new w7 (.cells #[] 25)
                refine ⟨GA.of_below ((Below.refl _ _).alloc (Nat.le_refl _) _) i1, ⟨_, _, _, rfl⟩, ⟨fun _ => ⟨⟨by simp, .inr ⟨w7.heap.size, 0, #[], rfl, i1, hnew, Nat.le_refl _, Nat.zero_le _, rfl, by simp⟩⟩, fun _ => ⟨_, rfl⟩⟩, fun h => absurd h (by decide), fun h => absurd h (by decide), fun h => absurd h (by decide), fun h => absurd h (by decide)⟩⟩
              obtain ⟨a1, n1, c1', rfl⟩ := hv1
              iterate 3 (refine Go.Mix.mixD_step rfl (fun K hK => ?_); have HKK := Go.Lib.hid hK; clear hK; go_simp; refine HKK.out _ ?_; clear HKK K)
              refine Go.Mix.mixD_eff rfl rfl (fun w7 hw7 hn7 => ?_) (fun v8 hv8 => ?_)
              · have f1 : FOwn 25 2 X.heap.size Fl 0 (.slice a1 n1 c1') w7 := (hn7 0 96 (by simp)).f0 rfl
                obtain ⟨i1, i2⟩ := HIN2.out w7 hw7
                obtain ⟨v', w', hr, g1, g2, a', c', rfl⟩ := app_effect eiSv (sC := [.string (mk fn), .int .i64 sa]) f1 i1 (HS1.out.below i2 (Nat.le_refl _)) HO1.out HIF.out.q1 (HIF.out.le _ (by omega)) (by unfold maxLen; omega) (by omega) 22
                simp only [Nat.zero_add] at hr g2
                exact effR_run (.tmp 96) (.tmp 99) rfl rfl rfl hr ⟨g1, ⟨_, _, _, rfl⟩, ⟨fun h => absurd h (by decide), fun _ => g2, fun h => absurd h (by decide), fun h => absurd h (by decide), fun h => absurd h (by decide)⟩⟩
              obtain ⟨a8, n8, c8, rfl⟩ := hv8
              iterate 1 (refine Go.Mix.mixD_step rfl (fun K hK => ?_); have HKK := Go.Lib.hid hK; clear hK; go_simp; refine HKK.out _ ?_; clear HKK K)
              refine Go.Mix.mixD_eff rfl rfl (fun w7 hw7 hn7 => ?_) (fun v10 hv10 => ?_)
              · clear hn7
                obtain ⟨i1, i2⟩ := HIN2.out w7 hw7
                go_simp
                have hnew := World.alloc_heap_new w7 (.cells #[.string ⟨fn.toArray⟩, .int .i64 sa] 25)
                refine ⟨GA.of_below ((Below.refl _ _).alloc (Nat.le_refl _) _) i1, ⟨_, _, _, rfl⟩, ⟨fun h => absurd h (by decide), fun h => absurd h (by decide), fun _ => ⟨w7.heap.size, rfl, i1, _, hnew, rfl, rfl⟩, fun h => absurd h (by decide), fun h => absurd h (by decide)⟩⟩
              obtain ⟨a10, n10, c10, rfl⟩ := hv10
              refine Go.Mix.mixD_eff rfl rfl (fun w7 hw7 hn7 => ?_) (fun v11 hv11 => ?_)
              · have f8 : FOwn 25 2 X.heap.size Fl 0 (.slice a8 n8 c8) w7 := (hn7 4 100 (by simp)).f1 rfl
                have f10 : FNew 25 2 X.heap.size [.string (mk fn), .int .i64 sa] (.slice a10 n10 c10) w7 := (hn7 6 102 (by simp)).f2 rfl
                obtain ⟨i1, i2⟩ := HIN2.out w7 hw7
                obtain ⟨v', w', hr, g1, g2, a', c', rfl⟩ := app_effect eiSv (sC := [.string (mk fn), .int .i64 sa]) f8 i1 (f10.slc rfl) HO3.out HIF.out.q2 (HIF.out.le _ (by omega)) (by unfold maxLen; omega) (by omega) 22
                exact effR_run (.tmp 100) (.tmp 102) rfl rfl rfl hr ⟨g1, ⟨_, _, _, rfl⟩, ⟨fun h => absurd h (by decide), fun h => absurd h (by decide), fun h => absurd h (by decide), fun _ => g2, fun h => absurd h (by decide)⟩⟩
              obtain ⟨a11, n11, c11, rfl⟩ := hv11
              iterate 3 (refine Go.Mix.mixD_step rfl (fun K hK => ?_); have HKK := Go.Lib.hid hK; clear hK; go_simp; refine HKK.out _ ?_; clear HKK K)
              refine Go.Mix.mixD_eff rfl rfl (fun w7 hw7 hn7 => ?_) (fun v18 hv18 => ?_)
              · have f11 : FOwn 25 2 X.heap.size Fl (0 + 1) (.slice a11 n11 c11) w7 := (hn7 7 103 (by simp)).f3 rfl
                obtain ⟨i1, i2⟩ := HIN2.out w7 hw7
                obtain ⟨v', w', hr, g1, g2, a', c', rfl⟩ := app_effect eiSv (sC := [.string (mk fn), .int .i64 sa]) f11 i1 (HA2.out.below i2 (Nat.le_refl _)) HO2.out HIF.out.q3 (HIF.out.le _ (by omega)) (by unfold maxLen; omega) (by omega) 22
                exact effR_run (.tmp 103) (.tmp 106) rfl rfl rfl hr ⟨g1, ⟨_, _, _, rfl⟩, ⟨fun h => absurd h (by decide), fun h => absurd h (by decide), fun h => absurd h (by decide), fun h => absurd h (by decide), fun _ => g2⟩⟩
              obtain ⟨a18, n18, c18, rfl⟩ := hv18
              refine Go.Mix.mixD_last rfl (fun w9 hg9 hP K hK => ?_)
              have f18 : FOwn 25 2 X.heap.size Fl (0 + 1 + (0 - 0)) (.slice a18 n18 c18) w9 := hP.2.f4 rfl
              clear hP
              obtain ⟨i1, i2⟩ := HIN2.out w9 hg9
              have hown9 : w9.ownsRow w.heap.size 25 2 (.slice a18 n18 c18) (0 + 1) Fl := by
                have h := owns_base f18.1 HBX.out.size
                rw [show 0 + 1 + (0 - 0) = 0 + 1 by omega, List.take_of_length_le (by rw [HIF.out.len]; exact Nat.le_refl _)] at h
                exact h
              have hb9 := HBX.out.trans (i2.mono HBX.out.size)
              have hres : w9.ownsRow w.heap.size 25 2 (.slice a18 n18 c18) (insAll ltS (hintL (l.take (k + 1)))).length (encV (insAll ltS (hintL (l.take (k + 1))))) := by
                rw [HINS.out, ← HFL.out]
                have e : (O.take 0 ++ [(fn, sa)] ++ O.drop 0).length = 0 + 1 := by have := HLENO.out; rw [List.length_append, List.length_append, List.length_take, List.length_drop]; simp only [List.length_cons, List.length_nil]; omega
                rw [e]
                exact hown9
              have HKK := Go.Lib.hid hK
              have HB9 := Go.Lib.hid hb9
              have HRES := Go.Lib.hid hres
              clear hK hb9 hres
              clear f18 hg9 hown9 hneG hZ2 hZ3
              rw [if_pos (show Region.wanted _ _ = true from rfl)]
              go_simp
              refine HKK.out _ _ ?_
              clear HKK K
              go_wp2_with fail
              go_roundw
              case rel => exact ⟨k + 1, by go_num, by omega, HRES.out, HB9.out⟩
              case measure => simp [intOf]; omega
            · obtain ⟨off2, hoff⟩ : ∃ o : Nat, o = 0 := ⟨0, rfl⟩
              rw [← hoff] at hv
              simp only [Value.slice.injEq] at hv
              obtain ⟨rfl, _, rfl⟩ := hv
              clear hoff
              go_wp2_with fail
              refine Go.Mix.wp_region_mix (Es := [12]) (Below X.heap.size X) mixed (by kernel_rfl) (show Below X.heap.size X (World.drew _) from HBI.out.drew) (fun _ => ?_)
              iterate 12 (refine Go.Mix.mix_step rfl (fun K hK => ?_); have HKK := Go.Lib.hid hK; clear hK; go_simp; refine HKK.out _ _ ?_; clear HKK K)
              refine Go.Mix.mix_eff rfl (fun K hK => ?_)
              have HKK := Go.Lib.hid hK
              clear hK
              go_simp
              refine HKK.out _ _ HBI.out.drew ?_
              clear HKK K
              iterate 21 (refine Go.Mix.mix_step rfl (fun K hK => ?_); have HKK := Go.Lib.hid hK; clear hK; go_simp; refine HKK.out _ _ ?_; clear HKK K)
              refine Go.Mix.mix_nil ?_
              have hbd := HBI.out.drew
              have HBD := Go.Lib.hid hbd
              clear hbd
              go_wp2_with fail
              go_quiet (fail)
              go_wp2_with fail
              obtain ⟨Fl, hFl⟩ : ∃ Fl, Fl = encV (O.take jn ++ [(fn, sa)] ++ O.drop jn) := ⟨_, rfl⟩
              have hjM : jn ≤ M := by have := hpb; omega
              have hlenO := HM.out
              have hif : InsF 2 jn M (encV (O.take jn)) (encV (O.drop jn)) Fl [.string (mk fn), .int .i64 sa] := ⟨hjM, by rw [encV_length, List.length_take]; omega, rfl, by rw [encV_length, List.length_drop]; omega, by rw [hFl]; simp [encV]⟩
              have hSX : SlC X 2 (.slice (some ⟨b2, off2, none⟩) M cv) M (encV O) := SlC.of_owns HOX.out
              obtain ⟨A2, hA, hA2⟩ : ∃ A2 : Option Addr, (if cv = jn then (some ⟨b2, off2, none⟩) else (some ⟨b2, off2 + jn * 2, none⟩ : Option Addr)) = A2 ∧ SlC X 2 (.slice A2 (M - jn) (cv - jn)) (M - jn) (encV (O.drop jn)) := ⟨_, rfl, ins_slA hSX hjM⟩
              have hs1 : SlC X 2 (.slice (some ⟨b2, off2, none⟩) jn cv) jn (encV (O.take jn)) := ins_slB hSX hjM
              have hb6 : jn ≤ cv := by have := hSX; obtain ⟨_, _, _, e, h1, _⟩ := this; simp only [Value.slice.injEq] at e; omega
              have hb3 : (jn : Int) ≤ (M : Int) := by omega
              have hone1 := one_encV (O.take jn)
              have hone2 := one_encV (O.drop jn)
              have hone3 := one_sv (fn, sa)
              obtain ⟨Y, hY⟩ : ∃ Y, Y = wr.drew.drewN nq := ⟨_, rfl⟩
              have hXY : Below X.heap.size X Y.drew := by rw [hY]; exact (below_drewN HBD.out _).drew
              have hZ2 : ∀ w3 : Subtype (GA 25 2 X.heap.size Fl [.string (mk fn), .int .i64 sa] Y.drew), w3.1.cell? ⟨kb, 0, none⟩ = some (.string (mk fn)) := fun w3 => HE0.out _ (hXY.trans w3.2.bl)
              have hZ3 : ∀ w3 : Subtype (GA 25 2 X.heap.size Fl [.string (mk fn), .int .i64 sa] Y.drew), w3.1.cell? ⟨kb, 1, none⟩ = some (.int .i64 sa) := fun w3 => HE1.out _ (hXY.trans w3.2.bl)
              have hneG : Nonempty (Subtype (GA 25 2 X.heap.size Fl [.string (mk fn), .int .i64 sa] Y.drew)) := ⟨⟨Y.drew, GA.refl _ _ _ _⟩⟩
              have hin : ∀ W, GA 25 2 X.heap.size Fl [.string (mk fn), .int .i64 sa] Y.drew W → X.heap.size ≤ W.heap.size ∧ Below X.heap.size X W := fun W h => by
                have h1 := h.bl.size
                have h2 := hXY.size
                exact ⟨by omega, hXY.trans h.bl⟩
              rw [← hY]
              have HFL := Go.Lib.hid hFl
              have HLENO := Go.Lib.hid hlenO
              have HIF := Go.Lib.hid hif
              have HA2 := Go.Lib.hid hA2
              have HS1 := Go.Lib.hid hs1
              have HO1 := Go.Lib.hid hone1
              have HO2 := Go.Lib.hid hone2
              have HO3 := Go.Lib.hid hone3
              have HXY := Go.Lib.hid hXY
              have HIN2 := Go.Lib.hid hin
              clear hFl hlenO hif hA2 hs1 hone1 hone2 hone3 hXY hin
              clear hY
              try clear hne
              refine Go.Mix.wp_region_mixD [0, 4, 6, 7, 11] 12 (GA 25 2 X.heap.size Fl [.string (mk fn), .int .i64 sa]) (FAdd 25 2 (0, 4, 6, 7, 11) X.heap.size jn M Fl [.string (mk fn), .int .i64 sa]) SAdd [(4, 0, 96), (7, 4, 100), (7, 6, 102), (11, 7, 103)] mixed (by kernel_rfl) (fun i e q hm => ?hz4) GA.trans (GA.refl _ _ _) (fun i v w w' h hg => h.stable HIF.out.hk HIF.out.len hg) SAdd.inh ?_
              case hz4 =>
                simp only [List.mem_cons, Prod.mk.injEq, List.not_mem_nil, or_false] at hm
                rcases hm with ⟨_, _, rfl⟩ | ⟨_, _, rfl⟩ | ⟨_, _, rfl⟩ | ⟨_, _, rfl⟩ <;> exact of_decide_eq_true rfl
              refine Go.Mix.mixD_eff rfl rfl (fun w7 hw7 hn7 => ?_) (fun v1 hv1 => ?_)
              · clear hn7
                obtain ⟨i1, i2⟩ := HIN2.out w7 hw7
                go_simp
                have hnew := World.alloc_heap_new w7 (.cells #[] 25)
                refine ⟨GA.of_below ((Below.refl _ _).alloc (Nat.le_refl _) _) i1, ⟨_, _, _, rfl⟩, ⟨fun _ => ⟨⟨by simp, .inr ⟨w7.heap.size, 0, #[], rfl, i1, hnew, Nat.le_refl _, Nat.zero_le _, rfl, by simp⟩⟩, fun _ => ⟨_, rfl⟩⟩, fun h => absurd h (by decide), fun h => absurd h (by decide), fun h => absurd h (by decide), fun h => absurd h (by decide)⟩⟩
              obtain ⟨a1, n1, c1', rfl⟩ := hv1
              iterate 3 (refine Go.Mix.mixD_step rfl (fun K hK => ?_); have HKK := Go.Lib.hid hK; clear hK; go_simp; refine HKK.out _ ?_; clear HKK K)
              refine Go.Mix.mixD_eff rfl rfl (fun w7 hw7 hn7 => ?_) (fun v8 hv8 => ?_)
              · have f1 : FOwn 25 2 X.heap.size Fl 0 (.slice a1 n1 c1') w7 := (hn7 0 96 (by simp)).f0 rfl
                obtain ⟨i1, i2⟩ := HIN2.out w7 hw7
                obtain ⟨v', w', hr, g1, g2, a', c', rfl⟩ := app_effect eiSv (sC := [.string (mk fn), .int .i64 sa]) f1 i1 (HS1.out.below i2 (Nat.le_refl _)) HO1.out HIF.out.q1 (HIF.out.le _ (by omega)) (by unfold maxLen; omega) (by omega) 22
                simp only [Nat.zero_add] at hr g2
                exact effR_run (.tmp 96) (.tmp 99) rfl rfl rfl hr ⟨g1, ⟨_, _, _, rfl⟩, ⟨fun h => absurd h (by decide), fun _ => g2, fun h => absurd h (by decide), fun h => absurd h (by decide), fun h => absurd h (by decide)⟩⟩
              obtain ⟨a8, n8, c8, rfl⟩ := hv8
              iterate 1 (refine Go.Mix.mixD_step rfl (fun K hK => ?_); have HKK := Go.Lib.hid hK; clear hK; go_simp; refine HKK.out _ ?_; clear HKK K)
              refine Go.Mix.mixD_eff rfl rfl (fun w7 hw7 hn7 => ?_) (fun v10 hv10 => ?_)
              · clear hn7
                obtain ⟨i1, i2⟩ := HIN2.out w7 hw7
                go_simp
                have hnew := World.alloc_heap_new w7 (.cells #[.string ⟨fn.toArray⟩, .int .i64 sa] 25)
                refine ⟨GA.of_below ((Below.refl _ _).alloc (Nat.le_refl _) _) i1, ⟨_, _, _, rfl⟩, ⟨fun h => absurd h (by decide), fun h => absurd h (by decide), fun _ => ⟨w7.heap.size, rfl, i1, _, hnew, rfl, rfl⟩, fun h => absurd h (by decide), fun h => absurd h (by decide)⟩⟩
              obtain ⟨a10, n10, c10, rfl⟩ := hv10
              refine Go.Mix.mixD_eff rfl rfl (fun w7 hw7 hn7 => ?_) (fun v11 hv11 => ?_)
              · have f8 : FOwn 25 2 X.heap.size Fl jn (.slice a8 n8 c8) w7 := (hn7 4 100 (by simp)).f1 rfl
                have f10 : FNew 25 2 X.heap.size [.string (mk fn), .int .i64 sa] (.slice a10 n10 c10) w7 := (hn7 6 102 (by simp)).f2 rfl
                obtain ⟨i1, i2⟩ := HIN2.out w7 hw7
                obtain ⟨v', w', hr, g1, g2, a', c', rfl⟩ := app_effect eiSv (sC := [.string (mk fn), .int .i64 sa]) f8 i1 (f10.slc rfl) HO3.out HIF.out.q2 (HIF.out.le _ (by omega)) (by unfold maxLen; omega) (by omega) 22
                exact effR_run (.tmp 100) (.tmp 102) rfl rfl rfl hr ⟨g1, ⟨_, _, _, rfl⟩, ⟨fun h => absurd h (by decide), fun h => absurd h (by decide), fun h => absurd h (by decide), fun _ => g2, fun h => absurd h (by decide)⟩⟩
              obtain ⟨a11, n11, c11, rfl⟩ := hv11
              iterate 3 (refine Go.Mix.mixD_step rfl (fun K hK => ?_); have HKK := Go.Lib.hid hK; clear hK; go_simp; refine HKK.out _ ?_; clear HKK K)
              refine Go.Mix.mixD_eff rfl rfl (fun w7 hw7 hn7 => ?_) (fun v18 hv18 => ?_)
              · have f11 : FOwn 25 2 X.heap.size Fl (jn + 1) (.slice a11 n11 c11) w7 := (hn7 7 103 (by simp)).f3 rfl
                obtain ⟨i1, i2⟩ := HIN2.out w7 hw7
                obtain ⟨v', w', hr, g1, g2, a', c', rfl⟩ := app_effect eiSv (sC := [.string (mk fn), .int .i64 sa]) f11 i1 (HA2.out.below i2 (Nat.le_refl _)) HO2.out HIF.out.q3 (HIF.out.le _ (by omega)) (by unfold maxLen; omega) (by omega) 22
                exact effR_run (.tmp 103) (.tmp 106) rfl rfl rfl hr ⟨g1, ⟨_, _, _, rfl⟩, ⟨fun h => absurd h (by decide), fun h => absurd h (by decide), fun h => absurd h (by decide), fun h => absurd h (by decide), fun _ => g2⟩⟩
              obtain ⟨a18, n18, c18, rfl⟩ := hv18
              refine Go.Mix.mixD_last rfl (fun w9 hg9 hP K hK => ?_)
              have f18 : FOwn 25 2 X.heap.size Fl (jn + 1 + (M - jn)) (.slice a18 n18 c18) w9 := hP.2.f4 rfl
              clear hP
              obtain ⟨i1, i2⟩ := HIN2.out w9 hg9
              have hown9 : w9.ownsRow w.heap.size 25 2 (.slice a18 n18 c18) (M + 1) Fl := by
                have h := owns_base f18.1 HBX.out.size
                rw [show jn + 1 + (M - jn) = M + 1 by omega, List.take_of_length_le (by rw [HIF.out.len]; exact Nat.le_refl _)] at h
                exact h
              have hb9 := HBX.out.trans (i2.mono HBX.out.size)
              have hres : w9.ownsRow w.heap.size 25 2 (.slice a18 n18 c18) (insAll ltS (hintL (l.take (k + 1)))).length (encV (insAll ltS (hintL (l.take (k + 1))))) := by
                rw [HINS.out, ← HFL.out]
                have e : (O.take jn ++ [(fn, sa)] ++ O.drop jn).length = M + 1 := by have := HLENO.out; rw [List.length_append, List.length_append, List.length_take, List.length_drop]; simp only [List.length_cons, List.length_nil]; omega
                rw [e]
                exact hown9
              have HKK := Go.Lib.hid hK
              have HB9 := Go.Lib.hid hb9
              have HRES := Go.Lib.hid hres
              clear hK hb9 hres
              clear f18 hg9 hown9 hneG hZ2 hZ3
              rw [if_pos (show Region.wanted _ _ = true from rfl)]
              go_simp
              refine HKK.out _ _ ?_
              clear HKK K
              go_wp2_with fail
              go_roundw
              case rel => exact ⟨k + 1, by go_num, by omega, HRES.out, HB9.out⟩
              case measure => simp [intOf]; omega
      · have hs := HSTEP.out
        have hf : okH (sn, sa) = false := by
          rw [HOK.out]
          cases va with
          | false => rfl
          | true =>
            by_cases h1 : 0 ≤ sa
            · rw [decide_eq_true h1, decide_eq_false (fun h2 => hgood ⟨rfl, h1, h2⟩)]; rfl
            · rw [decide_eq_false h1]; rfl
        rw [hf] at hs
        simp only [Bool.false_eq_true, if_false, List.append_nil] at hs
        have hcs : va = false ∨ (va = true ∧ sa < 0) ∨ (va = true ∧ ¬ sa < 0 ∧ 4294967296 ≤ sa) := by
          cases va with
          | false => exact .inl rfl
          | true =>
            by_cases h1 : 0 ≤ sa
            · exact .inr (.inr ⟨rfl, by omega, by have h3 : ¬ sa ≤ 4294967295 := fun h2 => hgood ⟨rfl, h1, h2⟩; omega⟩)
            · exact .inr (.inl ⟨rfl, by omega⟩)
        have HS := Go.Lib.hid hs
        clear hs
        clear hgood hf
        rcases hcs with rfl | ⟨rfl, e1⟩ | ⟨rfl, e1, e2⟩
        all_goals
          go_wp2_with fail
          refine HVA.out.mono ?_; rintro e W1 ⟨rfl, hb1⟩
          have f1 := HC1.out W1 hb1
          have hown1 := owns_below HOWN.out hb1
          have hbw1 := HBR.out.trans (hb1.mono hws)
          have HO1 := Go.Lib.hid hown1
          have HBW1 := Go.Lib.hid hbw1
          clear hown1 hbw1
          go_wp2_with fail
          go_roundw
          case rel => exact ⟨k + 1, by go_num, by omega, by rw [HS.out]; exact HO1.out, HBW1.out⟩
          case measure => simp [intOf]; omega
    · have hke : k = N := by omega
      have hall : l.take k = l := by rw [hke, ← HN.out, List.take_length]
      rw [hall] at hown
      have hlt2 : ¬ (k : Int) < (N : Int) := by omega
      have HOWN := Go.Lib.hid hown
      have HBR := Go.Lib.hid hbr
      clear hown hbr
      clear hall hke hll hlo
      go_wp2_with fail
      go_ret
      exact ⟨_, rfl, SlC.of_owns HOWN.out, HBR.out⟩
end Go.Proofs.Ytgbmclgnbbhcbaa

