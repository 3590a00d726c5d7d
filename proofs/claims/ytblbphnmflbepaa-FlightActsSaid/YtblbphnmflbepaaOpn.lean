/- Arguments opened: records, questions, messages, and slices of structs of one-cell fields. No conditions. -/
import Derived.Test.YtblbphnmflbepaaRR
import Derived.Deep.Slices
import Derived.Deep.Fields
namespace Go.Proofs.Ytblbphnmflbepaa
open Go.RowKit Go.ChangeShapes Go.WideShapes Go.Deep
set_option linter.unusedVariables false

/-! ### structs of one-cell fields -/
theorem openS {H : Type} {enc : TypeId × Value → H} {P : Program} {w : World} {base b0 : Nat} {spare : Nat → Bool} {held : Bool} {r : Reach} {t : TypeId} {fs : Array Field} {v : Value} {d : DataW H} {p : List MemPlace}
    (hs : P.underlying t = some (.struct fs)) (hone : oneCellFields P fs = true) (hC : P.cellsOf t = fs.size) (hv : Value.okWide P w r b0 t v) (h : DataW.Trod enc P w base spare held t v d p) :
    ∃ cs : List Value, v = .agg cs.toArray ∧ cs.length = fs.size ∧ ∃ n, ∀ (j : Nat) (f : Field), fs[j]? = some f → ∃ u y, cs[j]? = some u ∧ DataW.trod enc P w base spare held n f.type [u] = some y := by
  obtain ⟨cs, rfl, hsz⟩ := okWide_struct hs hv
  obtain ⟨l⟩ := cs
  obtain ⟨fuel, hf⟩ := h
  obtain ⟨xs, n, _, _, hl, hlen, hg⟩ := DataW.trod_struct hs hf
  have hll : l.length = fs.size := by simpa [hC] using hsz
  refine ⟨l, rfl, hll, n, fun j f hj => ?_⟩
  obtain ⟨o, k⟩ := hone_of hone j f hj
  have hjl : j < fs.size := (Array.getElem?_eq_some_iff.1 hj).1
  have h1 := hg j f hj
  rw [o, k] at h1
  have hcells : (Value.agg (Array.mk l)).cells.toList = l := rfl
  rw [hcells] at h1
  have h2 : (l.drop j).take 1 = [l[j]'(by omega)] := by
    rw [List.drop_eq_getElem_cons (by omega)]
    rfl
  rw [h2, List.getElem?_eq_getElem (by omega)] at h1
  exact ⟨_, _, List.getElem?_eq_getElem (by omega), h1⟩

/-- an element's cells, field by field -/
theorem openE {H : Type} {enc : TypeId × Value → H} {P : Program} {w : World} {base : Nat} {spare : Nat → Bool} {held : Bool} {e : TypeId} {fs : Array Field} {fuel : Nat} {cs : List Value} {x : DataW H × List MemPlace}
    (hs : P.underlying e = some (.struct fs)) (hone : oneCellFields P fs = true) (hC : P.cellsOf e = fs.size) (h : DataW.trod enc P w base spare held fuel e cs = some x) :
    cs.length = fs.size ∧ ∃ n, ∀ (j : Nat) (f : Field), fs[j]? = some f → ∃ u y, cs[j]? = some u ∧ DataW.trod enc P w base spare held n f.type [u] = some y := by
  obtain ⟨xs, n, _, _, hl, hlen, hg⟩ := DataW.trod_struct hs h
  rw [hC] at hl
  refine ⟨hl, n, fun j f hj => ?_⟩
  obtain ⟨o, k⟩ := hone_of hone j f hj
  have hjl : j < fs.size := (Array.getElem?_eq_some_iff.1 hj).1
  have h1 := hg j f hj
  rw [o, k] at h1
  have h2 : (cs.drop j).take 1 = [cs[j]'(by omega)] := by
    rw [List.drop_eq_getElem_cons (by omega)]
    rfl
  rw [h2, List.getElem?_eq_getElem (by omega)] at h1
  exact ⟨_, _, List.getElem?_eq_getElem (by omega), h1⟩

theorem list_of_elems {α : Type} (sz : Nat) (enc : α → List Value) (hsz : ∀ a, (enc a).length = sz) (good : α → Prop) (w : World) (x : Addr) : ∀ m : Nat,
    (∀ i, i < m → ∃ a, good a ∧ ∀ j, j < sz → w.cell? (x.add (i * sz + j)) = (enc a)[j]?) →
    ∃ l : List α, l.length = m ∧ (∀ a ∈ l, good a) ∧ (l.flatMap enc).length = m * sz ∧ ∀ j, j < m * sz → w.cell? (x.add j) = (l.flatMap enc)[j]?
  | 0, _ => ⟨[], rfl, by simp, by simp, by intro j hj; omega⟩
  | m + 1, h => by
    obtain ⟨l, h1, h2, h3, h4⟩ := list_of_elems sz enc hsz good w x m (fun i hi => h i (by omega))
    obtain ⟨a, g, hc⟩ := h m (by omega)
    refine ⟨l ++ [a], by simp [h1], fun b hb => ?_, by simp [h3, hsz, Nat.succ_mul], fun j hj => ?_⟩
    · rcases List.mem_append.1 hb with hb | hb
      · exact h2 b hb
      · simp at hb; rw [hb]; exact g
    · rw [List.flatMap_append]
      by_cases hlt : j < m * sz
      · rw [h4 j hlt, List.getElem?_append_left (by omega)]
      · have h5 := hc (j - m * sz) (by rw [Nat.succ_mul] at hj; omega)
        rw [show m * sz + (j - m * sz) = j by omega] at h5
        rw [h5, List.getElem?_append_right (by omega), h3]
        simp

/-- a slice, opened -/
theorem open_slc {α : Type} {H : Type} {enc : TypeId × Value → H} {P : Program} {w : World} {base : Nat} {held : Bool} {t e : TypeId} {fuel : Nat} {v : Value} {y : DataW H × List MemPlace} (sz : Nat) (h0 : 0 < sz) (en : α → List Value) (hen : ∀ a, (en a).length = sz) (good : α → Prop)
    (ht : P.underlying t = some (.slice e)) (hC : P.cellsOf e = sz)
    (hel : ∀ n cs y, DataW.trod enc P w base (fun _ => true) held n e cs = some y → ∃ a, good a ∧ cs = en a)
    (hd : DataW.trod enc P w base (fun _ => true) held fuel t [v] = some y) :
    ∃ a l cap, v = .slice a (l : List α).length cap ∧ SlC w sz v l.length (l.flatMap en) ∧ ∀ x ∈ l, good x := by
  rcases open_slice ht hd with ⟨hcs, _⟩ | ⟨x, len, cap, m, n, D, Pl, hcs, _, hl, hm, hmm, _, hi⟩
  · simp only [List.cons.injEq, and_true] at hcs
    subst hcs
    exact ⟨none, [], 0, rfl, SlC.nil _ _, by simp⟩
  · simp only [List.cons.injEq, and_true] at hcs
    subst hcs
    simp only [if_true] at hmm
    subst hmm
    rw [hC] at hi
    obtain ⟨l, h1, h2, h3, h4⟩ := list_of_elems sz en hen good w x m (fun i him => by
      obtain ⟨cs', hc, hy⟩ := hi i him
      obtain ⟨a, g, rfl⟩ := hel _ _ _ hy
      obtain ⟨_, hcl, hat⟩ := World.cells?_some hc
      refine ⟨a, g, fun j hj => ?_⟩
      rw [← hat j hj, Go.Deep.add_add])
    have hlen : (l.take len).length = len := by rw [List.length_take]; omega
    have htk : ∀ (l : List α) k, (l.take k).flatMap en = (l.flatMap en).take (k * sz) := by
      intro l
      induction l with
      | nil => intro k; simp
      | cons b l ih =>
        intro k
        cases k with
        | zero => simp
        | succ k =>
          simp only [List.take_succ_cons, List.flatMap_cons, ih]
          rw [List.take_append, hen, Nat.succ_mul, List.take_of_length_le (l := en b) (by rw [hen]; omega)]
          congr 2
          omega
    have hle : len * sz ≤ m * sz := Nat.mul_le_mul_right _ hl
    refine ⟨some x, l.take len, m, by rw [hlen], ?_, fun a ha => h2 a (List.mem_of_mem_take ha)⟩
    rw [hlen]
    exact slc_of_cells h0 hl hm (by rw [htk]) (by omega) (fun i hi => h4 i (by omega))

/-! ### records -/
def RRFit (r : Rc.RR) : Prop := RROk r ∧ Fits r.ty ∧ Fits r.cl ∧ Fits r.ttl
def en5 (r : Rc.RR) : List Value := [.string (mk r.name), .int .i64 r.ty, .int .i64 r.cl, .int .i64 r.ttl, .string (mk r.data)]
theorem five {α : Type} {l : List α} (h : l.length = 5) : ∃ a b c d e, l = [a, b, c, d, e] := by
  match l, h with
  | [a, b, c, d, e], _ => exact ⟨a, b, c, d, e, rfl⟩
theorem three {α : Type} {l : List α} (h : l.length = 3) : ∃ a b c, l = [a, b, c] := by
  match l, h with
  | [a, b, c], _ => exact ⟨a, b, c, rfl⟩
theorem mk_of (s : ByteArray) : s = mk (bl s) := (mk_bl s).symm

section
variable {H : Type} {enc : TypeId × Value → H} {w : World} {base b0 : Nat} {spare : Nat → Bool} {held : Bool}
theorem tInt {n : Nat} {u : Value} {y : DataW H × List MemPlace} (h : DataW.trod enc Try.prog w base spare held n 3 [u] = some y) : ∃ a, u = .int .i64 a ∧ Fits a := by
  obtain ⟨a, h1, _, hw⟩ := DataW.trod_int Try.underlying3 h
  simp only [List.cons.injEq, and_true] at h1
  exact ⟨a, h1, fits_of_wf hw⟩
theorem tStr {n : Nat} {u : Value} {y : DataW H × List MemPlace} (h : DataW.trod enc Try.prog w base spare held n 9 [u] = some y) : ∃ s : List UInt8, u = .string (mk s) ∧ s.length ≤ maxLen := by
  obtain ⟨s, h1, _, hw⟩ := DataW.trod_string Try.underlying9 h
  simp only [List.cons.injEq, and_true] at h1
  exact ⟨bl s, by rw [h1, mk_bl], by rw [← size_bl]; exact hw⟩
theorem tBool {n : Nat} {u : Value} {y : DataW H × List MemPlace} (h : DataW.trod enc Try.prog w base spare held n 4 [u] = some y) : ∃ a, u = .bool a := by
  obtain ⟨a, h1, _⟩ := DataW.trod_bool underBool h
  simp only [List.cons.injEq, and_true] at h1
  exact ⟨a, h1⟩

theorem rr_elem {n : Nat} {cs : List Value} {y : DataW H × List MemPlace} (h : DataW.trod enc Try.prog w base spare held n 90 cs = some y) : ∃ r, RRFit r ∧ cs = en5 r := by
  obtain ⟨hl, n, hf⟩ := openE Try.underlying90 (by kernel_rfl) (by kernel_rfl) h
  obtain ⟨u0, y0, e0, h0⟩ := hf 0 _ rfl
  obtain ⟨u1, y1, e1, h1⟩ := hf 1 _ rfl
  obtain ⟨u2, y2, e2, h2⟩ := hf 2 _ rfl
  obtain ⟨u3, y3, e3, h3⟩ := hf 3 _ rfl
  obtain ⟨u4, y4, e4, h4⟩ := hf 4 _ rfl
  obtain ⟨a, b, c, d, e, rfl⟩ := five (show cs.length = 5 from hl)
  obtain rfl : a = u0 := Option.some.inj e0
  obtain rfl : b = u1 := Option.some.inj e1
  obtain rfl : c = u2 := Option.some.inj e2
  obtain rfl : d = u3 := Option.some.inj e3
  obtain rfl : e = u4 := Option.some.inj e4
  obtain ⟨s, rfl, hs⟩ := tStr h0
  obtain ⟨i, rfl, hi⟩ := tInt h1
  obtain ⟨j, rfl, hj⟩ := tInt h2
  obtain ⟨k, rfl, hk⟩ := tInt h3
  obtain ⟨q, rfl, hq⟩ := tStr h4
  exact ⟨⟨s, i, j, k, q⟩, ⟨⟨hs, hq⟩, hi, hj, hk⟩, rfl⟩

/-- a slice of records -/
theorem openRRs {fuel : Nat} {v : Value} {y : DataW H × List MemPlace} (hd : DataW.trod enc Try.prog w base (fun _ => true) held fuel 38 [v] = some y) :
    ∃ a l cap, v = .slice a (l : List Rc.RR).length cap ∧ RRs w v l ∧ ∀ r ∈ l, RRFit r :=
  open_slc 5 (by omega) en5 (fun _ => rfl) RRFit Try.underlying38 (by kernel_rfl) (fun _ _ _ h => rr_elem h) hd
theorem open_RRs {v : Value} {d : DataW H} {p : List MemPlace} (hv : Value.okWide Try.prog w .any b0 38 v) (h : DataW.Trod enc Try.prog w base (fun _ => true) held 38 v d p) :
    ∃ a l cap, v = .slice a (l : List Rc.RR).length cap ∧ RRs w v l ∧ ∀ r ∈ l, RRFit r := by
  obtain ⟨a, len, cap, rfl⟩ := okWide_slice Try.underlying38 hv
  obtain ⟨fuel, hf⟩ := h
  exact openRRs hf
end
theorem open_RR {H : Type} {enc : TypeId × Value → H} {w : World} {base b0 : Nat} {spare : Nat → Bool} {held : Bool} {v : Value} {d : DataW H} {p : List MemPlace} (hv : Value.okWide Try.prog w .any b0 90 v) (h : DataW.Trod enc Try.prog w base spare held 90 v d p) :
    ∃ r, v = rrV r ∧ RRFit r := by
  obtain ⟨cs, rfl, hl, n, hf⟩ := openS Try.underlying90 (by kernel_rfl) (by kernel_rfl) hv h
  obtain ⟨u0, y0, e0, h0⟩ := hf 0 _ rfl
  obtain ⟨u1, y1, e1, h1⟩ := hf 1 _ rfl
  obtain ⟨u2, y2, e2, h2⟩ := hf 2 _ rfl
  obtain ⟨u3, y3, e3, h3⟩ := hf 3 _ rfl
  obtain ⟨u4, y4, e4, h4⟩ := hf 4 _ rfl
  obtain ⟨a, b, c, d, e, rfl⟩ := five (show cs.length = 5 from hl)
  obtain rfl : a = u0 := Option.some.inj e0
  obtain rfl : b = u1 := Option.some.inj e1
  obtain rfl : c = u2 := Option.some.inj e2
  obtain rfl : d = u3 := Option.some.inj e3
  obtain rfl : e = u4 := Option.some.inj e4
  obtain ⟨s, rfl, hs⟩ := tStr h0
  obtain ⟨i, rfl, hi⟩ := tInt h1
  obtain ⟨j, rfl, hj⟩ := tInt h2
  obtain ⟨k, rfl, hk⟩ := tInt h3
  obtain ⟨q, rfl, hq⟩ := tStr h4
  exact ⟨⟨s, i, j, k, q⟩, rfl, ⟨hs, hq⟩, hi, hj, hk⟩
end Go.Proofs.Ytblbphnmflbepaa

