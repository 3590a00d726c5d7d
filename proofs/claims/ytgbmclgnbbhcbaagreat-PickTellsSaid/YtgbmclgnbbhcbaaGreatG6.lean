/- Merged texts of the seat, in their order: Opn, RpA, PzT, PzA, PzB. -/
import Derived.Test.YtgbmclgnbbhcbaaGreatG2
import Derived.Test.YtgbmclgnbbhcbaaGreatG3
import Derived.Test.YtgbmclgnbbhcbaaGreatG5
import Derived.Deep.Slices
import Derived.Deep.Fields
import Derived.Deep.QuietTactic
/- Arguments opened: records, questions, messages, and slices of structs of one-cell fields. No conditions. -/
namespace Go.Proofs.YtgbmclgnbbhcbaaGreat
set_option maxRecDepth 100000
open Go.RowKit Go.ChangeShapes Go.WideShapes Go.Deep
set_option linter.unusedVariables false

/-! ### structs of one-cell fields -/
theorem openS {H : Type} {enc : TypeId × Value → H} {P : Program} {w : World} {base b0 : Nat} {spare : Nat → Bool} {held : Bool} {r : Reach} {t : TypeId} {fs : Array Field} {v : Value} {d : DataW H} {p : List MemPlace}
    (hs : P.underlying t = some (.struct fs)) (hone : oneCellFields P fs = true) (hC : P.cellsOf t = fs.size) (hv : Value.okWide P w r b0 t v) (h : DataW.Trod enc P w base spare held t v d p) :
    ∃ cs : List Value, v = .agg cs.toArray ∧ cs.length = fs.size ∧ ∃ n, ∀ (j : Nat) (f : Field), fs[j]? = some f → ∃ u y, cs[j]? = some u ∧ DataW.trod enc P w base spare held n f.type [u] = some y := by
  obtain ⟨cs, rfl, hsz⟩ := okWide_struct hs hv
  obtain ⟨l⟩ := cs
  obtain ⟨fuel, hf⟩ := h
  obtain ⟨xs, n, _, _, hl, hlen, hg⟩ := DataW.trod_struct hs hf
  have hll : l.length = fs.size := by simpa [hC] using hsz
  refine ⟨l, rfl, hll, n, fun j f hj => ?_⟩
  obtain ⟨o, k⟩ := hone_of hone j f hj
  have hjl : j < fs.size := (Array.getElem?_eq_some_iff.1 hj).1
  have h1 := hg j f hj
  rw [o, k] at h1
  have hcells : (Value.agg (Array.mk l)).cells.toList = l := rfl
  rw [hcells] at h1
  have h2 : (l.drop j).take 1 = [l[j]'(by omega)] := by
    rw [List.drop_eq_getElem_cons (by omega)]
    rfl
  rw [h2, List.getElem?_eq_getElem (by omega)] at h1
  exact ⟨_, _, List.getElem?_eq_getElem (by omega), h1⟩

/-- an element's cells, field by field -/
theorem openE {H : Type} {enc : TypeId × Value → H} {P : Program} {w : World} {base : Nat} {spare : Nat → Bool} {held : Bool} {e : TypeId} {fs : Array Field} {fuel : Nat} {cs : List Value} {x : DataW H × List MemPlace}
    (hs : P.underlying e = some (.struct fs)) (hone : oneCellFields P fs = true) (hC : P.cellsOf e = fs.size) (h : DataW.trod enc P w base spare held fuel e cs = some x) :
    cs.length = fs.size ∧ ∃ n, ∀ (j : Nat) (f : Field), fs[j]? = some f → ∃ u y, cs[j]? = some u ∧ DataW.trod enc P w base spare held n f.type [u] = some y := by
  obtain ⟨xs, n, _, _, hl, hlen, hg⟩ := DataW.trod_struct hs h
  rw [hC] at hl
  refine ⟨hl, n, fun j f hj => ?_⟩
  obtain ⟨o, k⟩ := hone_of hone j f hj
  have hjl : j < fs.size := (Array.getElem?_eq_some_iff.1 hj).1
  have h1 := hg j f hj
  rw [o, k] at h1
  have h2 : (cs.drop j).take 1 = [cs[j]'(by omega)] := by
    rw [List.drop_eq_getElem_cons (by omega)]
    rfl
  rw [h2, List.getElem?_eq_getElem (by omega)] at h1
  exact ⟨_, _, List.getElem?_eq_getElem (by omega), h1⟩

theorem list_of_elems {α : Type} (sz : Nat) (enc : α → List Value) (hsz : ∀ a, (enc a).length = sz) (good : α → Prop) (w : World) (x : Addr) : ∀ m : Nat,
    (∀ i, i < m → ∃ a, good a ∧ ∀ j, j < sz → w.cell? (x.add (i * sz + j)) = (enc a)[j]?) →
    ∃ l : List α, l.length = m ∧ (∀ a ∈ l, good a) ∧ (l.flatMap enc).length = m * sz ∧ ∀ j, j < m * sz → w.cell? (x.add j) = (l.flatMap enc)[j]?
  | 0, _ => ⟨[], rfl, by simp, by simp, by intro j hj; omega⟩
  | m + 1, h => by
    obtain ⟨l, h1, h2, h3, h4⟩ := list_of_elems sz enc hsz good w x m (fun i hi => h i (by omega))
    obtain ⟨a, g, hc⟩ := h m (by omega)
    refine ⟨l ++ [a], by simp [h1], fun b hb => ?_, by simp [h3, hsz, Nat.succ_mul], fun j hj => ?_⟩
    · rcases List.mem_append.1 hb with hb | hb
      · exact h2 b hb
      · simp at hb; rw [hb]; exact g
    · rw [List.flatMap_append]
      by_cases hlt : j < m * sz
      · rw [h4 j hlt, List.getElem?_append_left (by omega)]
      · have h5 := hc (j - m * sz) (by rw [Nat.succ_mul] at hj; omega)
        rw [show m * sz + (j - m * sz) = j by omega] at h5
        rw [h5, List.getElem?_append_right (by omega), h3]
        simp

/-- a slice, opened -/
theorem open_slc {α : Type} {H : Type} {enc : TypeId × Value → H} {P : Program} {w : World} {base : Nat} {held : Bool} {t e : TypeId} {fuel : Nat} {v : Value} {y : DataW H × List MemPlace} (sz : Nat) (h0 : 0 < sz) (en : α → List Value) (hen : ∀ a, (en a).length = sz) (good : α → Prop)
    (ht : P.underlying t = some (.slice e)) (hC : P.cellsOf e = sz)
    (hel : ∀ n cs y, DataW.trod enc P w base (fun _ => true) held n e cs = some y → ∃ a, good a ∧ cs = en a)
    (hd : DataW.trod enc P w base (fun _ => true) held fuel t [v] = some y) :
    ∃ a l cap, v = .slice a (l : List α).length cap ∧ SlC w sz v l.length (l.flatMap en) ∧ ∀ x ∈ l, good x := by
  rcases open_slice ht hd with ⟨hcs, _⟩ | ⟨x, len, cap, m, n, D, Pl, hcs, _, hl, hm, hmm, _, hi⟩
  · simp only [List.cons.injEq, and_true] at hcs
    subst hcs
    exact ⟨none, [], 0, rfl, SlC.nil _ _, by simp⟩
  · simp only [List.cons.injEq, and_true] at hcs
    subst hcs
    simp only [if_true] at hmm
    subst hmm
    rw [hC] at hi
    obtain ⟨l, h1, h2, h3, h4⟩ := list_of_elems sz en hen good w x m (fun i him => by
      obtain ⟨cs', hc, hy⟩ := hi i him
      obtain ⟨a, g, rfl⟩ := hel _ _ _ hy
      obtain ⟨_, hcl, hat⟩ := World.cells?_some hc
      refine ⟨a, g, fun j hj => ?_⟩
      rw [← hat j hj, Go.Deep.add_add])
    have hlen : (l.take len).length = len := by rw [List.length_take]; omega
    have htk : ∀ (l : List α) k, (l.take k).flatMap en = (l.flatMap en).take (k * sz) := by
      intro l
      induction l with
      | nil => intro k; simp
      | cons b l ih =>
        intro k
        cases k with
        | zero => simp
        | succ k =>
          simp only [List.take_succ_cons, List.flatMap_cons, ih]
          rw [List.take_append, hen, Nat.succ_mul, List.take_of_length_le (l := en b) (by rw [hen]; omega)]
          congr 2
          omega
    have hle : len * sz ≤ m * sz := Nat.mul_le_mul_right _ hl
    refine ⟨some x, l.take len, m, by rw [hlen], ?_, fun a ha => h2 a (List.mem_of_mem_take ha)⟩
    rw [hlen]
    exact slc_of_cells h0 hl hm (by rw [htk]) (by omega) (fun i hi => h4 i (by omega))

/-! ### records -/
def RRFit (r : Rc.RR) : Prop := RROk r ∧ Fits r.ty ∧ Fits r.cl ∧ Fits r.ttl
def en5 (r : Rc.RR) : List Value := [.string (mk r.name), .int .i64 r.ty, .int .i64 r.cl, .int .i64 r.ttl, .string (mk r.data)]
theorem five {α : Type} {l : List α} (h : l.length = 5) : ∃ a b c d e, l = [a, b, c, d, e] := by
  match l, h with
  | [a, b, c, d, e], _ => exact ⟨a, b, c, d, e, rfl⟩
theorem three {α : Type} {l : List α} (h : l.length = 3) : ∃ a b c, l = [a, b, c] := by
  match l, h with
  | [a, b, c], _ => exact ⟨a, b, c, rfl⟩
theorem mk_of (s : ByteArray) : s = mk (bl s) := (mk_bl s).symm

section
variable {H : Type} {enc : TypeId × Value → H} {w : World} {base b0 : Nat} {spare : Nat → Bool} {held : Bool}
theorem tInt {n : Nat} {u : Value} {y : DataW H × List MemPlace} (h : DataW.trod enc Tryz.prog w base spare held n 3 [u] = some y) : ∃ a, u = .int .i64 a ∧ Fits a := by
  obtain ⟨a, h1, _, hw⟩ := DataW.trod_int Tryz.underlying3 h
  simp only [List.cons.injEq, and_true] at h1
  exact ⟨a, h1, fits_of_wf hw⟩
theorem tStr {n : Nat} {u : Value} {y : DataW H × List MemPlace} (h : DataW.trod enc Tryz.prog w base spare held n 9 [u] = some y) : ∃ s : List UInt8, u = .string (mk s) ∧ s.length ≤ maxLen := by
  obtain ⟨s, h1, _, hw⟩ := DataW.trod_string Tryz.underlying9 h
  simp only [List.cons.injEq, and_true] at h1
  exact ⟨bl s, by rw [h1, mk_bl], by rw [← size_bl]; exact hw⟩
theorem tBool {n : Nat} {u : Value} {y : DataW H × List MemPlace} (h : DataW.trod enc Tryz.prog w base spare held n 4 [u] = some y) : ∃ a, u = .bool a := by
  obtain ⟨a, h1, _⟩ := DataW.trod_bool underBool h
  simp only [List.cons.injEq, and_true] at h1
  exact ⟨a, h1⟩

theorem rr_elem {n : Nat} {cs : List Value} {y : DataW H × List MemPlace} (h : DataW.trod enc Tryz.prog w base spare held n 64 cs = some y) : ∃ r, RRFit r ∧ cs = en5 r := by
  obtain ⟨hl, n, hf⟩ := openE Tryz.underlying64 (by kernel_rfl) (by kernel_rfl) h
  obtain ⟨u0, y0, e0, h0⟩ := hf 0 _ rfl
  obtain ⟨u1, y1, e1, h1⟩ := hf 1 _ rfl
  obtain ⟨u2, y2, e2, h2⟩ := hf 2 _ rfl
  obtain ⟨u3, y3, e3, h3⟩ := hf 3 _ rfl
  obtain ⟨u4, y4, e4, h4⟩ := hf 4 _ rfl
  obtain ⟨a, b, c, d, e, rfl⟩ := five (show cs.length = 5 from hl)
  obtain rfl : a = u0 := Option.some.inj e0
  obtain rfl : b = u1 := Option.some.inj e1
  obtain rfl : c = u2 := Option.some.inj e2
  obtain rfl : d = u3 := Option.some.inj e3
  obtain rfl : e = u4 := Option.some.inj e4
  obtain ⟨s, rfl, hs⟩ := tStr h0
  obtain ⟨i, rfl, hi⟩ := tInt h1
  obtain ⟨j, rfl, hj⟩ := tInt h2
  obtain ⟨k, rfl, hk⟩ := tInt h3
  obtain ⟨q, rfl, hq⟩ := tStr h4
  exact ⟨⟨s, i, j, k, q⟩, ⟨⟨hs, hq⟩, hi, hj, hk⟩, rfl⟩

/-- a slice of records -/
theorem openRRs {fuel : Nat} {v : Value} {y : DataW H × List MemPlace} (hd : DataW.trod enc Tryz.prog w base (fun _ => true) held fuel 24 [v] = some y) :
    ∃ a l cap, v = .slice a (l : List Rc.RR).length cap ∧ RRs w v l ∧ ∀ r ∈ l, RRFit r :=
  open_slc 5 (by omega) en5 (fun _ => rfl) RRFit Tryz.underlying24 (by kernel_rfl) (fun _ _ _ h => rr_elem h) hd
theorem open_RRs {v : Value} {d : DataW H} {p : List MemPlace} (hv : Value.okWide Tryz.prog w .any b0 24 v) (h : DataW.Trod enc Tryz.prog w base (fun _ => true) held 24 v d p) :
    ∃ a l cap, v = .slice a (l : List Rc.RR).length cap ∧ RRs w v l ∧ ∀ r ∈ l, RRFit r := by
  obtain ⟨a, len, cap, rfl⟩ := okWide_slice Tryz.underlying24 hv
  obtain ⟨fuel, hf⟩ := h
  exact openRRs hf
end
theorem open_RR {H : Type} {enc : TypeId × Value → H} {w : World} {base b0 : Nat} {spare : Nat → Bool} {held : Bool} {v : Value} {d : DataW H} {p : List MemPlace} (hv : Value.okWide Tryz.prog w .any b0 64 v) (h : DataW.Trod enc Tryz.prog w base spare held 64 v d p) :
    ∃ r, v = rrV r ∧ RRFit r := by
  obtain ⟨cs, rfl, hl, n, hf⟩ := openS Tryz.underlying64 (by kernel_rfl) (by kernel_rfl) hv h
  obtain ⟨u0, y0, e0, h0⟩ := hf 0 _ rfl
  obtain ⟨u1, y1, e1, h1⟩ := hf 1 _ rfl
  obtain ⟨u2, y2, e2, h2⟩ := hf 2 _ rfl
  obtain ⟨u3, y3, e3, h3⟩ := hf 3 _ rfl
  obtain ⟨u4, y4, e4, h4⟩ := hf 4 _ rfl
  obtain ⟨a, b, c, d, e, rfl⟩ := five (show cs.length = 5 from hl)
  obtain rfl : a = u0 := Option.some.inj e0
  obtain rfl : b = u1 := Option.some.inj e1
  obtain rfl : c = u2 := Option.some.inj e2
  obtain rfl : d = u3 := Option.some.inj e3
  obtain rfl : e = u4 := Option.some.inj e4
  obtain ⟨s, rfl, hs⟩ := tStr h0
  obtain ⟨i, rfl, hi⟩ := tInt h1
  obtain ⟨j, rfl, hj⟩ := tInt h2
  obtain ⟨k, rfl, hk⟩ := tInt h3
  obtain ⟨q, rfl, hq⟩ := tStr h4
  exact ⟨⟨s, i, j, k, q⟩, rfl, ⟨hs, hq⟩, hi, hj, hk⟩
end Go.Proofs.YtgbmclgnbbhcbaaGreat

/- The contracts of the reference's end, Parts: where names stand in data, by trying. -/
namespace Go.Proofs.YtgbmclgnbbhcbaaGreat
open Go.RowKit
set_option linter.unusedVariables false

theorem lead_none {s : List UInt8} {q : Nat} (h : ∀ m, 1 ≤ m → m ≤ q → Nm.valid (s.take m) = false) (hq : 255 ≤ q ∨ s.length ≤ q) : Nm.lead s = none := by
  cases hl : Nm.lead s with
  | none => rfl
  | some n =>
    obtain ⟨h1, h2, h3⟩ := Nm.lead_le hl
    have h4 := Rc.lead_take hl
    rw [h n h1 (by omega)] at h4
    cases h4

/-- where a name that begins at a place ends -/
def endV (d : List UInt8) (at_ : Nat) : Value := match Nm.lead (d.drop at_) with
  | some n => .tuple #[.int .i64 ((at_ + n : Nat) : Int), .bool true]
  | none => .tuple #[.int .i64 0, .bool false]
theorem endV_none {d : List UInt8} {at_ : Nat} (h : Nm.lead (d.drop at_) = none) : endV d at_ = .tuple #[.int .i64 0, .bool false] := by unfold endV; rw [h]
theorem endV_some {d : List UInt8} {at_ k : Nat} (h : Nm.lead (d.drop at_) = some (k + 1 - at_)) (hk : at_ ≤ k) : endV d at_ = .tuple #[.int .i64 ((k : Int) + 1), .bool true] := by
  unfold endV
  rw [h]
  simp only
  congr 4
  omega

set_option maxRecDepth 100000 in
set_option maxHeartbeats 1000000 in
theorem end_any (s : ByteArray) (at_ : Nat) (w : World) (hs : s.size ≤ maxLen) (ha : at_ ≤ 2000) :
    Calls Tryz.prog 94 #[.string s, .int .i64 at_] w fun e w' => e = .returned (endV (bl s) at_) ∧ Below w.heap.size w w' := by
  have HB := Go.Lib.hid (Below.refl w.heap.size w)
  have hl := size_bl s
  unfold maxLen at hs
  have HL := Go.Lib.hid hl
  clear hl
  go_enter Tryz.func94, Tryz.ntmps94
  go_wp2_with fail
  go_loopw [6] (fun i wr => ∃ k : Nat, i = .int .i64 k ∧ at_ ≤ k ∧ k ≤ at_ + 256 ∧ (∀ m, 1 ≤ m → m ≤ k - at_ → Nm.valid (((bl s).drop at_).take m) = false) ∧ Below w.heap.size w wr) (fun i _ => s.size - (intOf i).toNat)
  case atStart => exact ⟨at_, rfl, Nat.le_refl _, by omega, fun m h1 h2 => by omega, HB.out⟩
  case round =>
    obtain ⟨k, rfl, hk1, hk2, hall, hbr⟩ := hrel
    clear HB
    have HALL := Go.Lib.hid hall
    have HB := Go.Lib.hid hbr
    clear hall hbr
    by_cases hlt : k < s.size
    · have hx : s.extract at_ (k + 1) = mk (((bl s).drop at_).take (k + 1 - at_)) := by
        apply bl_inj
        rw [bl_extract, bl_mk]
      have hv := fun w => refValid_any (mk (((bl s).drop at_).take (k + 1 - at_))) w
      rw [bl_mk] at hv
      have i1 : (at_ : Int) ≤ (k : Int) + 1 := by omega
      have i2 : (k : Int) + 1 ≤ (s.size : Int) := by omega
      have HX := Go.Lib.hid hx
      clear hx
      cases hvb : Nm.valid (((bl s).drop at_).take (k + 1 - at_)) with
      | true =>
        have hld := Rc.take_lead (s := (bl s).drop at_) (m := k + 1 - at_) (by rw [List.length_drop, ← HL.out]; omega) hvb
        have hfin := Go.Lib.hid (endV_some hld hk1)
        rw [hvb] at hv
        have HV := Go.Lib.hid hv
        clear hv
        clear hvb hld
        go_wp2_with fail
        rw [HX.out]
        refine (HV.out _).mono ?_; rintro e wb ⟨rfl, hx⟩
        have HB2 := Go.Lib.hid hx
        clear hx
        go_wp2_with fail
        go_ret2
        exact ⟨congrArg Ending.returned hfin.out.symm, HB.out.trans (HB2.out.mono HB.out.size)⟩
      | false =>
        have hall2 : ∀ m, 1 ≤ m → m ≤ k + 1 - at_ → Nm.valid (((bl s).drop at_).take m) = false := fun m h1 h2 => by
          by_cases h3 : m ≤ k - at_
          · exact HALL.out m h1 h3
          · obtain rfl : m = k + 1 - at_ := by omega
            exact hvb
        rw [hvb] at hv
        have HV := Go.Lib.hid hv
        clear hv
        clear hvb
        by_cases hbig : 255 < k - at_
        · have hfin := Go.Lib.hid (endV_none (lead_none hall2 (.inl (by omega))))
          clear hall2
          go_wp2_with fail
          rw [HX.out]
          refine (HV.out _).mono ?_; rintro e wb ⟨rfl, hx⟩
          have HB2 := Go.Lib.hid hx
          clear hx
          go_wp2_with fail
          go_ret2
          exact ⟨congrArg Ending.returned hfin.out.symm, HB.out.trans (HB2.out.mono HB.out.size)⟩
        · have HALL2 := Go.Lib.hid hall2
          clear hall2
          go_wp2_with fail
          rw [HX.out]
          refine (HV.out _).mono ?_; rintro e wb ⟨rfl, hx⟩
          have HB2 := Go.Lib.hid hx
          clear hx
          go_wp2_with fail
          go_roundw
          case rel => exact ⟨k + 1, by go_num, by omega, by omega, HALL2.out, HB.out.trans (HB2.out.mono HB.out.size)⟩
          case measure => simp [intOf]; omega
    · have hfin := Go.Lib.hid (endV_none (lead_none HALL.out (.inr (by rw [List.length_drop, ← HL.out]; omega))))
      go_wp2_with fail
      go_ret2
      exact ⟨congrArg Ending.returned hfin.out.symm, HB.out⟩

/-! ### plain: how the parts go on -/
theorem partsN_shape {t : Int} {a m b : Nat} {d : List UInt8} (h : Rc.shape t = some (a, m, b)) (hm : 1 ≤ m) (hl : d.length ≤ 1000) :
    (Rc.names d a m = none → Rc.partsN t d = none) ∧ (∀ l e, Rc.names d a m = some (l, e) → e ≤ d.length ∧ (e + b = d.length → Rc.partsN t d = some l) ∧ (¬ e + b = d.length → Rc.partsN t d = none)) := by
  have ht : ¬ t = 1 ∧ ¬ t = 28 ∧ ¬ t = 16 := by
    refine ⟨?_, ?_, ?_⟩ <;> (rintro rfl; simp [Rc.shape] at h)
  have hd : Rc.dataB t d = (Rc.placesP t d).2 := by
    unfold Rc.dataB
    rw [if_neg (by omega), if_neg ht.1, if_neg ht.2.1, if_neg ht.2.2]
  by_cases hs : d.length < a
  · have hp : Rc.placesP t d = ([], false) := by unfold Rc.placesP; rw [h]; simp only; rw [if_pos hs]
    have hn : Rc.names d a m = none := by
      refine Rc.names_none (m := 1) ?_ hm
      rw [Rc.names_succ (show Rc.names d a 0 = some ([], a) from rfl), List.drop_of_length_le (by omega)]
      rfl
    rw [hn]
    refine ⟨fun _ => Rc.partsN_none (by rw [hd, hp]), fun l e h => by cases h⟩
  · obtain ⟨h1, h2⟩ := placesP_eq h hs
    refine ⟨fun hn => Rc.partsN_none (by rw [hd, h1 hn]), fun l e hn => ?_⟩
    have hp := h2 l e hn
    have hle := (Rc.names_chain (by omega) m l e hn).2.2.1
    refine ⟨hle, fun he => ?_, fun he => ?_⟩
    · rw [Rc.partsN_some (by rw [hd, hp]; simp; omega), hp]
    · exact Rc.partsN_none (by rw [hd, hp]; simp; omega)
theorem partsN_flat {t : Int} {d : List UInt8} {b : Bool} (h : Rc.shape t = none) (hd : Rc.dataB t d = b) : Rc.partsN t d = if b then some [] else none := by
  cases b with
  | true =>
    rw [Rc.partsN_some hd]
    unfold Rc.placesP
    rw [h]
    rfl
  | false => rw [Rc.partsN_none hd]; rfl

/-! ### Parts -/
theorem infoPt : (Tryz.prog.info? 95).map (fun i => (i.zero, i.size, i.bytes)) = some (some (.agg #[.int .i64 0, .int .i64 0]), 2, 16) := by kernel_rfl
theorem eiPt : EI Tryz.prog 91 95 2 16 := ei_of Tryz.underlying91 infoPt rfl (by decide)
/-- parts, or none, in new memory -/
def RetParts (w : World) (o : Option (List (Nat × Nat))) (e : Ending) (w' : World) : Prop := ∃ v, e = .returned (.tuple #[v, .bool o.isSome]) ∧ Pairs w' v (o.getD []) ∧ Below w.heap.size w w'
theorem retParts_none {w w' : World} {o : Option (List (Nat × Nat))} (h : o = none) (hb : Below w.heap.size w w') : RetParts w o (.returned (.tuple #[.slice none 0 0, .bool false])) w' := by
  subst h; exact ⟨_, rfl, SlC.nil _ _, hb⟩
theorem retParts_flat {w w' : World} {o : Option (List (Nat × Nat))} {b : Bool} (h : o = if b then some [] else none) (hb : Below w.heap.size w w') : RetParts w o (.returned (.tuple #[.slice none 0 0, .bool b])) w' := by
  subst h; cases b <;> exact ⟨_, rfl, SlC.nil _ _, hb⟩
theorem retParts_some {w w' : World} {o : Option (List (Nat × Nat))} {v : Value} {l : List (Nat × Nat)} (h : o = some l) (ho : w'.ownsRow w.heap.size 95 2 v l.length (encP l)) (hb : Below w.heap.size w w') : RetParts w o (.returned (.tuple #[v, .bool true])) w' := by
  subst h; exact ⟨_, rfl, SlC.of_owns ho, hb⟩

set_option maxRecDepth 100000 in
set_option maxHeartbeats 4000000 in
theorem Parts_big (t : Int) (s : ByteArray) (w : World) (h : 1000 < s.size) :
    Calls Tryz.prog 61 #[.int .i64 t, .string s] w (RetParts w (Rc.partsN t (bl s))) := by
  have hl := size_bl s
  have hfin : Hid (Rc.partsN t (bl s) = none) := Go.Lib.hid (Rc.partsN_none (by unfold Rc.dataB; rw [if_pos (by omega)]))
  clear hl
  go_enter Tryz.func61, Tryz.ntmps61
  go_wp2_with fail
  go_ret2
  exact retParts_none hfin.out (Below.refl _ _)

set_option maxRecDepth 100000 in
set_option maxHeartbeats 4000000 in
theorem Parts_fix (t : Int) (s : ByteArray) (w : World) (h : s.size ≤ 1000) (ht : t = 1 ∨ t = 28) :
    Calls Tryz.prog 61 #[.int .i64 t, .string s] w (RetParts w (Rc.partsN t (bl s))) := by
  have hl := size_bl s
  rcases ht with rfl | rfl
  · have hfin : Hid (Rc.partsN 1 (bl s) = if ((s.size : Int) == 4) then some [] else none) := Go.Lib.hid (partsN_flat rfl (by unfold Rc.dataB; rw [if_neg (by omega), if_pos rfl, Bool.eq_iff_iff, decide_eq_true_eq, beq_iff_eq]; omega))
    clear hl
    go_enter Tryz.func61, Tryz.ntmps61
    go_wp2_with fail
    go_ret2
    exact retParts_flat hfin.out (Below.refl _ _)
  · have hfin : Hid (Rc.partsN 28 (bl s) = if ((s.size : Int) == 16) then some [] else none) := Go.Lib.hid (partsN_flat rfl (by unfold Rc.dataB; rw [if_neg (by omega), if_neg (by omega), if_pos rfl, Bool.eq_iff_iff, decide_eq_true_eq, beq_iff_eq]; omega))
    clear hl
    go_enter Tryz.func61, Tryz.ntmps61
    go_wp2_with fail
    go_ret2
    exact retParts_flat hfin.out (Below.refl _ _)

set_option maxRecDepth 100000 in
set_option maxHeartbeats 4000000 in
theorem Parts_none (t : Int) (s : ByteArray) (w : World) (h : s.size ≤ 1000) (h1 : ¬ t = 1) (h2 : ¬ t = 28) (h3 : ¬ t = 16) (hs : Rc.shape t = none) :
    Calls Tryz.prog 61 #[.int .i64 t, .string s] w (RetParts w (Rc.partsN t (bl s))) := by
  have hl := size_bl s
  have hfin : Hid (Rc.partsN t (bl s) = some []) := Go.Lib.hid (partsN_flat (b := true) hs (by unfold Rc.dataB Rc.placesP; rw [if_neg (by omega), if_neg h1, if_neg h2, if_neg h3, hs]))
  have h4 : ¬ (t = 2 ∨ t = 5 ∨ t = 12) ∧ ¬ t = 15 ∧ ¬ t = 33 ∧ ¬ t = 6 := by
    unfold Rc.shape at hs
    repeat' split at hs
    all_goals first | (refine ⟨?_, ?_, ?_, ?_⟩ <;> assumption) | cases hs
  have b1 : (t == 1) = false := beq_eq_false_iff_ne.2 h1
  have b2 : (t == 28) = false := beq_eq_false_iff_ne.2 h2
  have b3 : (t == 16) = false := beq_eq_false_iff_ne.2 h3
  have b4 : (t == 15) = false := beq_eq_false_iff_ne.2 h4.2.1
  have b5 : (t == 33) = false := beq_eq_false_iff_ne.2 h4.2.2.1
  have b6 : (t == 6) = false := beq_eq_false_iff_ne.2 h4.2.2.2
  have b7 : (t == 2) = false := beq_eq_false_iff_ne.2 (by omega)
  have b8 : (t == 5) = false := beq_eq_false_iff_ne.2 (by omega)
  have b9 : (t == 12) = false := beq_eq_false_iff_ne.2 (by omega)
  clear hl h1 h2 h3 h4 hs
  go_enter Tryz.func61, Tryz.ntmps61
  go_wp2_with fail
  go_ret2
  exact retParts_flat (b := true) hfin.out (Below.refl _ _)

theorem textsB_ne {d : List UInt8} (h : 0 < d.length) : Rc.textsB d = Rc.textsF d := by
  cases d with
  | nil => simp at h
  | cons c r => rfl
theorem drop_get {d : List UInt8} {k : Nat} (h : k < d.length) : d.drop k = d.getD k 0 :: d.drop (k + 1) := by
  rw [List.drop_eq_getElem_cons h]
  simp [List.getD_eq_getElem?_getD, h]

set_option maxRecDepth 100000 in
set_option maxHeartbeats 4000000 in
theorem Parts_txt (s : ByteArray) (w : World) (h : s.size ≤ 1000) :
    Calls Tryz.prog 61 #[.int .i64 16, .string s] w (RetParts w (Rc.partsN 16 (bl s))) := by
  have hl := size_bl s
  have hfin : Hid (∀ b, Rc.textsB (bl s) = b → Rc.partsN 16 (bl s) = if b then some [] else none) := Go.Lib.hid (fun b hb => partsN_flat rfl (by unfold Rc.dataB; rw [if_neg (by omega), if_neg (by omega), if_neg (by omega), if_pos rfl]; exact hb))
  generalize Rc.partsN 16 (bl s) = res at *
  have HL := Go.Lib.hid hl
  clear hl
  go_enter Tryz.func61, Tryz.ntmps61
  go_wp2_with fail
  go_loopw [9] (fun i wr => wr = w ∧ ∃ k : Nat, i = .int .i64 k ∧ k ≤ s.size + 300 ∧ (k ≤ s.size → Rc.textsF ((bl s).drop k) = Rc.textsF (bl s)) ∧ (s.size < k → Rc.textsF (bl s) = false)) (fun i _ => s.size - (intOf i).toNat)
  case atStart => exact ⟨rfl, 0, rfl, by omega, fun _ => rfl, fun h => by omega⟩
  case round =>
    obtain ⟨rfl, k, rfl, hk, hk1, hk2⟩ := hrel
    by_cases hlt : k < s.size
    · have hd := drop_get (d := bl s) (k := k) (by rw [← HL.out]; exact hlt)
      have hx : s[k] = (bl s).getD k 0 := by rw [get_bl]; simp [List.getD_eq_getElem?_getD, ← HL.out, hlt]
      have hcs := Rc.textsF_cons ((bl s).getD k 0) ((bl s).drop (k + 1))
      rw [← hd, hk1 (by omega), List.length_drop, ← HL.out, List.drop_drop] at hcs
      generalize (bl s).getD k 0 = c at *
      have hcb := c.toNat_lt
      have n1 : k + 1 + c.toNat ≤ s.size → Rc.textsF ((bl s).drop (k + 1 + c.toNat)) = Rc.textsF (bl s) := fun h => by
        rw [if_neg (by omega)] at hcs
        rw [hcs]
      have n2 : s.size < k + 1 + c.toNat → Rc.textsF (bl s) = false := fun h => by
        rw [if_pos (by omega)] at hcs
        exact hcs
      have N1 := Go.Lib.hid n1
      have N2 := Go.Lib.hid n2
      clear n1 n2
      clear hcs hd hk1 hk2
      go_wp2_with fail
      go_roundw
      case rel => exact ⟨trivial, k + 1 + c.toNat, by go_num, by omega, N1.out, N2.out⟩
      case measure => simp [intOf]; omega
    · by_cases h0 : s.size = 0
      · have hb : Rc.textsB (bl s) = false := by
          have : bl s = [] := List.eq_nil_of_length_eq_zero (by rw [← HL.out]; exact h0)
          rw [this]; rfl
        have hres := Go.Lib.hid (hfin.out _ hb)
        clear hb hk1 hk2
        go_wp2_with fail
        go_ret2
        exact retParts_flat (b := false) hres.out (Below.refl _ _)
      · have hb := textsB_ne (d := bl s) (by rw [← HL.out]; omega)
        have hv : Rc.textsB (bl s) = ((k : Int) == (s.size : Int)) := by
          rw [hb]
          by_cases he : k = s.size
          · have := hk1 (by omega)
            rw [List.drop_of_length_le (by rw [← HL.out]; omega)] at this
            rw [← this, he, beq_self_eq_true]
            rfl
          · rw [hk2 (by omega)]
            symm
            rw [beq_eq_false_iff_ne]
            omega
        have hres := Go.Lib.hid (hfin.out _ hv)
        clear hb hk1 hk2 hv
        go_wp2_with fail
        go_ret2
        exact retParts_flat hres.out (Below.refl _ _)

set_option maxRecDepth 100000 in
set_option maxHeartbeats 4000000 in
theorem Parts_2 (s : ByteArray) (w : World) (h : s.size ≤ 1000) :
    Calls Tryz.prog 61 #[.int .i64 2, .string s] w (RetParts w (Rc.partsN 2 (bl s))) := by
  have hl := size_bl s
  obtain ⟨hfn, hfs⟩ := partsN_shape (t := 2) (a := 0) (m := 1) (b := 0) rfl (d := bl s) (by omega) (by omega)
  have hen : ∀ at_ : Nat, at_ ≤ 2000 → ∀ w, Calls Tryz.prog 94 #[.string s, .int .i64 at_] w fun e w' => e = .returned (endV (bl s) at_) ∧ Below w.heap.size w w' := fun at_ hat w => end_any s at_ w (by unfold maxLen; omega) hat
  have hnn : ∀ k, Rc.names (bl s) 0 k = none → k ≤ 1 → Rc.names (bl s) 0 1 = none := fun k h1 h2 => Rc.names_none h1 h2
  have HFN := Go.Lib.hid hfn
  have HFS := Go.Lib.hid hfs
  have HEN := Go.Lib.hid hen
  have HL := Go.Lib.hid hl
  have HNN := Go.Lib.hid hnn
  clear hfn hfs hen hl hnn
  generalize Rc.partsN 2 (bl s) = res at *
  go_enter Tryz.func61, Tryz.ntmps61
  go_wp2_with fail
  go_loopw [10, 11, 12] (fun v at_ i wr => ∃ (k at0 : Nat) (l : List (Nat × Nat)), i = .int .i64 k ∧ k ≤ 1 ∧ at_ = .int .i64 at0 ∧ at0 ≤ 1010 ∧ l.length ≤ k ∧ Rc.names (bl s) 0 k = some (l, at0) ∧ wr.ownsRow w.heap.size 95 2 v l.length (encP l) ∧ Below w.heap.size w wr) (fun _ _ i _ => 1 - (intOf i).toNat)
  case atStart => exact ⟨0, 0, [], rfl, by omega, rfl, by omega, by simp, rfl, World.ownsRow_nil _ _ _ _, Below.refl _ _⟩
  case round =>
    obtain ⟨k, at0, l, rfl, hk, rfl, hat, hlk, hnm, hown, hbel⟩ := hrel
    have hbz := hbel.size
    have HNM := Go.Lib.hid hnm
    have HO := Go.Lib.hid hown
    have HB := Go.Lib.hid hbel
    clear hnm hown hbel
    by_cases hlt : k < 1
    · have hld := HEN.out at0 (by omega)
      have hstep := Rc.names_succ HNM.out
      cases hlq : Nm.lead ((bl s).drop at0) with
      | none =>
        have hv : endV (bl s) at0 = .tuple #[.int .i64 0, .bool false] := endV_none hlq
        rw [hlq] at hstep
        have hnone : Hid (res = none) := Go.Lib.hid (HFN.out (HNN.out _ hstep (by omega)))
        rw [hv] at hld
        have HLD := Go.Lib.hid hld
        clear hld
        clear hlq hstep hv
        go_wp2_with fail
        refine (HLD.out _).mono ?_; rintro e wb ⟨rfl, hx⟩
        have HB2 := Go.Lib.hid hx
        clear hx
        go_wp2_with fail
        go_ret2
        exact retParts_none hnone.out (HB.out.trans (HB2.out.mono HB.out.size))
      | some n =>
        have hv : endV (bl s) at0 = .tuple #[.int .i64 ((at0 + n : Nat) : Int), .bool true] := by unfold endV; rw [hlq]
        rw [hlq] at hstep
        simp only at hstep
        have hle := Nm.lead_le hlq
        rw [List.length_drop, ← HL.out] at hle
        rw [hv] at hld
        have HLD := Go.Lib.hid hld
        have HST := Go.Lib.hid hstep
        clear hld hstep
        clear hlq hv
        go_wp2_with fail
        refine (HLD.out _).mono ?_; rintro e wb ⟨rfl, hx⟩
        have hown := owns_below HO.out hx
        have hb := HB.out.trans (hx.mono hbz)
        have hbz2 := hb.size
        have HO2 := Go.Lib.hid hown
        have HB2 := Go.Lib.hid hb
        clear hown hb
        clear hx
        have hsub : (at0 : Int) + (n : Int) - (at0 : Int) = (n : Int) := by omega
        have hsub2 : ((at0 + n : Nat) : Int) - (at0 : Int) = (n : Int) := by omega
        go_wp2_with (at_builtin; refine wpList_app eiPt (.tmp 75) (.tmp 81) rfl rfl w.heap.size rfl rfl (HO2.out.alloc _) (slc_new _ 2 1 95 [.int .i64 (at0 : Int), .int .i64 (n : Int)] rfl (by decide)) (one_pair at0 n) (by unfold maxLen; omega) (by omega) (by simp; omega) ?_; intro v1 w1 hown1 hg1)
        go_roundw
        case rel => exact ⟨k + 1, at0 + n, l ++ [(at0, n)], by go_num, by omega, by go_num, by omega, by simp; omega, HST.out, by rw [List.length_append, encP_snoc]; exact hown1, below_app (HB2.out.alloc hbz2 _) (HO2.out.alloc _) hg1 (Nat.le_refl _) (by simp; omega)⟩
        case measure => simp [intOf]; omega
    · obtain rfl : k = 1 := by omega
      obtain ⟨q1, q2, q3⟩ := HFS.out _ _ HNM.out
      rw [← HL.out] at q1 q2 q3
      by_cases hz : at0 + 0 = s.size
      · have hres := Go.Lib.hid (q2 hz)
        clear q2 q3
        have hz2 : (at0 : Int) + 0 = (s.size : Int) := by omega
        try simp only [Int.add_zero] at hz2
        clear hz
        go_wp2_with fail
        go_ret2
        exact retParts_some hres.out HO.out HB.out
      · have hres := Go.Lib.hid (q3 hz)
        clear q2 q3
        have hz2 : ¬ (at0 : Int) + 0 = (s.size : Int) := by omega
        try simp only [Int.add_zero] at hz2
        clear hz
        go_wp2_with fail
        go_ret2
        exact retParts_none hres.out HB.out
set_option maxRecDepth 100000 in
set_option maxHeartbeats 4000000 in
theorem Parts_5 (s : ByteArray) (w : World) (h : s.size ≤ 1000) :
    Calls Tryz.prog 61 #[.int .i64 5, .string s] w (RetParts w (Rc.partsN 5 (bl s))) := by
  have hl := size_bl s
  obtain ⟨hfn, hfs⟩ := partsN_shape (t := 5) (a := 0) (m := 1) (b := 0) rfl (d := bl s) (by omega) (by omega)
  have hen : ∀ at_ : Nat, at_ ≤ 2000 → ∀ w, Calls Tryz.prog 94 #[.string s, .int .i64 at_] w fun e w' => e = .returned (endV (bl s) at_) ∧ Below w.heap.size w w' := fun at_ hat w => end_any s at_ w (by unfold maxLen; omega) hat
  have hnn : ∀ k, Rc.names (bl s) 0 k = none → k ≤ 1 → Rc.names (bl s) 0 1 = none := fun k h1 h2 => Rc.names_none h1 h2
  have HFN := Go.Lib.hid hfn
  have HFS := Go.Lib.hid hfs
  have HEN := Go.Lib.hid hen
  have HL := Go.Lib.hid hl
  have HNN := Go.Lib.hid hnn
  clear hfn hfs hen hl hnn
  generalize Rc.partsN 5 (bl s) = res at *
  go_enter Tryz.func61, Tryz.ntmps61
  go_wp2_with fail
  go_loopw [10, 11, 12] (fun v at_ i wr => ∃ (k at0 : Nat) (l : List (Nat × Nat)), i = .int .i64 k ∧ k ≤ 1 ∧ at_ = .int .i64 at0 ∧ at0 ≤ 1010 ∧ l.length ≤ k ∧ Rc.names (bl s) 0 k = some (l, at0) ∧ wr.ownsRow w.heap.size 95 2 v l.length (encP l) ∧ Below w.heap.size w wr) (fun _ _ i _ => 1 - (intOf i).toNat)
  case atStart => exact ⟨0, 0, [], rfl, by omega, rfl, by omega, by simp, rfl, World.ownsRow_nil _ _ _ _, Below.refl _ _⟩
  case round =>
    obtain ⟨k, at0, l, rfl, hk, rfl, hat, hlk, hnm, hown, hbel⟩ := hrel
    have hbz := hbel.size
    have HNM := Go.Lib.hid hnm
    have HO := Go.Lib.hid hown
    have HB := Go.Lib.hid hbel
    clear hnm hown hbel
    by_cases hlt : k < 1
    · have hld := HEN.out at0 (by omega)
      have hstep := Rc.names_succ HNM.out
      cases hlq : Nm.lead ((bl s).drop at0) with
      | none =>
        have hv : endV (bl s) at0 = .tuple #[.int .i64 0, .bool false] := endV_none hlq
        rw [hlq] at hstep
        have hnone : Hid (res = none) := Go.Lib.hid (HFN.out (HNN.out _ hstep (by omega)))
        rw [hv] at hld
        have HLD := Go.Lib.hid hld
        clear hld
        clear hlq hstep hv
        go_wp2_with fail
        refine (HLD.out _).mono ?_; rintro e wb ⟨rfl, hx⟩
        have HB2 := Go.Lib.hid hx
        clear hx
        go_wp2_with fail
        go_ret2
        exact retParts_none hnone.out (HB.out.trans (HB2.out.mono HB.out.size))
      | some n =>
        have hv : endV (bl s) at0 = .tuple #[.int .i64 ((at0 + n : Nat) : Int), .bool true] := by unfold endV; rw [hlq]
        rw [hlq] at hstep
        simp only at hstep
        have hle := Nm.lead_le hlq
        rw [List.length_drop, ← HL.out] at hle
        rw [hv] at hld
        have HLD := Go.Lib.hid hld
        have HST := Go.Lib.hid hstep
        clear hld hstep
        clear hlq hv
        go_wp2_with fail
        refine (HLD.out _).mono ?_; rintro e wb ⟨rfl, hx⟩
        have hown := owns_below HO.out hx
        have hb := HB.out.trans (hx.mono hbz)
        have hbz2 := hb.size
        have HO2 := Go.Lib.hid hown
        have HB2 := Go.Lib.hid hb
        clear hown hb
        clear hx
        have hsub : (at0 : Int) + (n : Int) - (at0 : Int) = (n : Int) := by omega
        have hsub2 : ((at0 + n : Nat) : Int) - (at0 : Int) = (n : Int) := by omega
        go_wp2_with (at_builtin; refine wpList_app eiPt (.tmp 75) (.tmp 81) rfl rfl w.heap.size rfl rfl (HO2.out.alloc _) (slc_new _ 2 1 95 [.int .i64 (at0 : Int), .int .i64 (n : Int)] rfl (by decide)) (one_pair at0 n) (by unfold maxLen; omega) (by omega) (by simp; omega) ?_; intro v1 w1 hown1 hg1)
        go_roundw
        case rel => exact ⟨k + 1, at0 + n, l ++ [(at0, n)], by go_num, by omega, by go_num, by omega, by simp; omega, HST.out, by rw [List.length_append, encP_snoc]; exact hown1, below_app (HB2.out.alloc hbz2 _) (HO2.out.alloc _) hg1 (Nat.le_refl _) (by simp; omega)⟩
        case measure => simp [intOf]; omega
    · obtain rfl : k = 1 := by omega
      obtain ⟨q1, q2, q3⟩ := HFS.out _ _ HNM.out
      rw [← HL.out] at q1 q2 q3
      by_cases hz : at0 + 0 = s.size
      · have hres := Go.Lib.hid (q2 hz)
        clear q2 q3
        have hz2 : (at0 : Int) + 0 = (s.size : Int) := by omega
        try simp only [Int.add_zero] at hz2
        clear hz
        go_wp2_with fail
        go_ret2
        exact retParts_some hres.out HO.out HB.out
      · have hres := Go.Lib.hid (q3 hz)
        clear q2 q3
        have hz2 : ¬ (at0 : Int) + 0 = (s.size : Int) := by omega
        try simp only [Int.add_zero] at hz2
        clear hz
        go_wp2_with fail
        go_ret2
        exact retParts_none hres.out HB.out
set_option maxRecDepth 100000 in
set_option maxHeartbeats 4000000 in
theorem Parts_12 (s : ByteArray) (w : World) (h : s.size ≤ 1000) :
    Calls Tryz.prog 61 #[.int .i64 12, .string s] w (RetParts w (Rc.partsN 12 (bl s))) := by
  have hl := size_bl s
  obtain ⟨hfn, hfs⟩ := partsN_shape (t := 12) (a := 0) (m := 1) (b := 0) rfl (d := bl s) (by omega) (by omega)
  have hen : ∀ at_ : Nat, at_ ≤ 2000 → ∀ w, Calls Tryz.prog 94 #[.string s, .int .i64 at_] w fun e w' => e = .returned (endV (bl s) at_) ∧ Below w.heap.size w w' := fun at_ hat w => end_any s at_ w (by unfold maxLen; omega) hat
  have hnn : ∀ k, Rc.names (bl s) 0 k = none → k ≤ 1 → Rc.names (bl s) 0 1 = none := fun k h1 h2 => Rc.names_none h1 h2
  have HFN := Go.Lib.hid hfn
  have HFS := Go.Lib.hid hfs
  have HEN := Go.Lib.hid hen
  have HL := Go.Lib.hid hl
  have HNN := Go.Lib.hid hnn
  clear hfn hfs hen hl hnn
  generalize Rc.partsN 12 (bl s) = res at *
  go_enter Tryz.func61, Tryz.ntmps61
  go_wp2_with fail
  go_loopw [10, 11, 12] (fun v at_ i wr => ∃ (k at0 : Nat) (l : List (Nat × Nat)), i = .int .i64 k ∧ k ≤ 1 ∧ at_ = .int .i64 at0 ∧ at0 ≤ 1010 ∧ l.length ≤ k ∧ Rc.names (bl s) 0 k = some (l, at0) ∧ wr.ownsRow w.heap.size 95 2 v l.length (encP l) ∧ Below w.heap.size w wr) (fun _ _ i _ => 1 - (intOf i).toNat)
  case atStart => exact ⟨0, 0, [], rfl, by omega, rfl, by omega, by simp, rfl, World.ownsRow_nil _ _ _ _, Below.refl _ _⟩
  case round =>
    obtain ⟨k, at0, l, rfl, hk, rfl, hat, hlk, hnm, hown, hbel⟩ := hrel
    have hbz := hbel.size
    have HNM := Go.Lib.hid hnm
    have HO := Go.Lib.hid hown
    have HB := Go.Lib.hid hbel
    clear hnm hown hbel
    by_cases hlt : k < 1
    · have hld := HEN.out at0 (by omega)
      have hstep := Rc.names_succ HNM.out
      cases hlq : Nm.lead ((bl s).drop at0) with
      | none =>
        have hv : endV (bl s) at0 = .tuple #[.int .i64 0, .bool false] := endV_none hlq
        rw [hlq] at hstep
        have hnone : Hid (res = none) := Go.Lib.hid (HFN.out (HNN.out _ hstep (by omega)))
        rw [hv] at hld
        have HLD := Go.Lib.hid hld
        clear hld
        clear hlq hstep hv
        go_wp2_with fail
        refine (HLD.out _).mono ?_; rintro e wb ⟨rfl, hx⟩
        have HB2 := Go.Lib.hid hx
        clear hx
        go_wp2_with fail
        go_ret2
        exact retParts_none hnone.out (HB.out.trans (HB2.out.mono HB.out.size))
      | some n =>
        have hv : endV (bl s) at0 = .tuple #[.int .i64 ((at0 + n : Nat) : Int), .bool true] := by unfold endV; rw [hlq]
        rw [hlq] at hstep
        simp only at hstep
        have hle := Nm.lead_le hlq
        rw [List.length_drop, ← HL.out] at hle
        rw [hv] at hld
        have HLD := Go.Lib.hid hld
        have HST := Go.Lib.hid hstep
        clear hld hstep
        clear hlq hv
        go_wp2_with fail
        refine (HLD.out _).mono ?_; rintro e wb ⟨rfl, hx⟩
        have hown := owns_below HO.out hx
        have hb := HB.out.trans (hx.mono hbz)
        have hbz2 := hb.size
        have HO2 := Go.Lib.hid hown
        have HB2 := Go.Lib.hid hb
        clear hown hb
        clear hx
        have hsub : (at0 : Int) + (n : Int) - (at0 : Int) = (n : Int) := by omega
        have hsub2 : ((at0 + n : Nat) : Int) - (at0 : Int) = (n : Int) := by omega
        go_wp2_with (at_builtin; refine wpList_app eiPt (.tmp 75) (.tmp 81) rfl rfl w.heap.size rfl rfl (HO2.out.alloc _) (slc_new _ 2 1 95 [.int .i64 (at0 : Int), .int .i64 (n : Int)] rfl (by decide)) (one_pair at0 n) (by unfold maxLen; omega) (by omega) (by simp; omega) ?_; intro v1 w1 hown1 hg1)
        go_roundw
        case rel => exact ⟨k + 1, at0 + n, l ++ [(at0, n)], by go_num, by omega, by go_num, by omega, by simp; omega, HST.out, by rw [List.length_append, encP_snoc]; exact hown1, below_app (HB2.out.alloc hbz2 _) (HO2.out.alloc _) hg1 (Nat.le_refl _) (by simp; omega)⟩
        case measure => simp [intOf]; omega
    · obtain rfl : k = 1 := by omega
      obtain ⟨q1, q2, q3⟩ := HFS.out _ _ HNM.out
      rw [← HL.out] at q1 q2 q3
      by_cases hz : at0 + 0 = s.size
      · have hres := Go.Lib.hid (q2 hz)
        clear q2 q3
        have hz2 : (at0 : Int) + 0 = (s.size : Int) := by omega
        try simp only [Int.add_zero] at hz2
        clear hz
        go_wp2_with fail
        go_ret2
        exact retParts_some hres.out HO.out HB.out
      · have hres := Go.Lib.hid (q3 hz)
        clear q2 q3
        have hz2 : ¬ (at0 : Int) + 0 = (s.size : Int) := by omega
        try simp only [Int.add_zero] at hz2
        clear hz
        go_wp2_with fail
        go_ret2
        exact retParts_none hres.out HB.out
set_option maxRecDepth 100000 in
set_option maxHeartbeats 4000000 in
theorem Parts_15 (s : ByteArray) (w : World) (h : s.size ≤ 1000) :
    Calls Tryz.prog 61 #[.int .i64 15, .string s] w (RetParts w (Rc.partsN 15 (bl s))) := by
  have hl := size_bl s
  obtain ⟨hfn, hfs⟩ := partsN_shape (t := 15) (a := 2) (m := 1) (b := 0) rfl (d := bl s) (by omega) (by omega)
  have hen : ∀ at_ : Nat, at_ ≤ 2000 → ∀ w, Calls Tryz.prog 94 #[.string s, .int .i64 at_] w fun e w' => e = .returned (endV (bl s) at_) ∧ Below w.heap.size w w' := fun at_ hat w => end_any s at_ w (by unfold maxLen; omega) hat
  have hnn : ∀ k, Rc.names (bl s) 2 k = none → k ≤ 1 → Rc.names (bl s) 2 1 = none := fun k h1 h2 => Rc.names_none h1 h2
  have HFN := Go.Lib.hid hfn
  have HFS := Go.Lib.hid hfs
  have HEN := Go.Lib.hid hen
  have HL := Go.Lib.hid hl
  have HNN := Go.Lib.hid hnn
  clear hfn hfs hen hl hnn
  generalize Rc.partsN 15 (bl s) = res at *
  go_enter Tryz.func61, Tryz.ntmps61
  go_wp2_with fail
  go_loopw [10, 11, 12] (fun v at_ i wr => ∃ (k at0 : Nat) (l : List (Nat × Nat)), i = .int .i64 k ∧ k ≤ 1 ∧ at_ = .int .i64 at0 ∧ at0 ≤ 1010 ∧ l.length ≤ k ∧ Rc.names (bl s) 2 k = some (l, at0) ∧ wr.ownsRow w.heap.size 95 2 v l.length (encP l) ∧ Below w.heap.size w wr) (fun _ _ i _ => 1 - (intOf i).toNat)
  case atStart => exact ⟨0, 2, [], rfl, by omega, rfl, by omega, by simp, rfl, World.ownsRow_nil _ _ _ _, Below.refl _ _⟩
  case round =>
    obtain ⟨k, at0, l, rfl, hk, rfl, hat, hlk, hnm, hown, hbel⟩ := hrel
    have hbz := hbel.size
    have HNM := Go.Lib.hid hnm
    have HO := Go.Lib.hid hown
    have HB := Go.Lib.hid hbel
    clear hnm hown hbel
    by_cases hlt : k < 1
    · have hld := HEN.out at0 (by omega)
      have hstep := Rc.names_succ HNM.out
      cases hlq : Nm.lead ((bl s).drop at0) with
      | none =>
        have hv : endV (bl s) at0 = .tuple #[.int .i64 0, .bool false] := endV_none hlq
        rw [hlq] at hstep
        have hnone : Hid (res = none) := Go.Lib.hid (HFN.out (HNN.out _ hstep (by omega)))
        rw [hv] at hld
        have HLD := Go.Lib.hid hld
        clear hld
        clear hlq hstep hv
        go_wp2_with fail
        refine (HLD.out _).mono ?_; rintro e wb ⟨rfl, hx⟩
        have HB2 := Go.Lib.hid hx
        clear hx
        go_wp2_with fail
        go_ret2
        exact retParts_none hnone.out (HB.out.trans (HB2.out.mono HB.out.size))
      | some n =>
        have hv : endV (bl s) at0 = .tuple #[.int .i64 ((at0 + n : Nat) : Int), .bool true] := by unfold endV; rw [hlq]
        rw [hlq] at hstep
        simp only at hstep
        have hle := Nm.lead_le hlq
        rw [List.length_drop, ← HL.out] at hle
        rw [hv] at hld
        have HLD := Go.Lib.hid hld
        have HST := Go.Lib.hid hstep
        clear hld hstep
        clear hlq hv
        go_wp2_with fail
        refine (HLD.out _).mono ?_; rintro e wb ⟨rfl, hx⟩
        have hown := owns_below HO.out hx
        have hb := HB.out.trans (hx.mono hbz)
        have hbz2 := hb.size
        have HO2 := Go.Lib.hid hown
        have HB2 := Go.Lib.hid hb
        clear hown hb
        clear hx
        have hsub : (at0 : Int) + (n : Int) - (at0 : Int) = (n : Int) := by omega
        have hsub2 : ((at0 + n : Nat) : Int) - (at0 : Int) = (n : Int) := by omega
        go_wp2_with (at_builtin; refine wpList_app eiPt (.tmp 75) (.tmp 81) rfl rfl w.heap.size rfl rfl (HO2.out.alloc _) (slc_new _ 2 1 95 [.int .i64 (at0 : Int), .int .i64 (n : Int)] rfl (by decide)) (one_pair at0 n) (by unfold maxLen; omega) (by omega) (by simp; omega) ?_; intro v1 w1 hown1 hg1)
        go_roundw
        case rel => exact ⟨k + 1, at0 + n, l ++ [(at0, n)], by go_num, by omega, by go_num, by omega, by simp; omega, HST.out, by rw [List.length_append, encP_snoc]; exact hown1, below_app (HB2.out.alloc hbz2 _) (HO2.out.alloc _) hg1 (Nat.le_refl _) (by simp; omega)⟩
        case measure => simp [intOf]; omega
    · obtain rfl : k = 1 := by omega
      obtain ⟨q1, q2, q3⟩ := HFS.out _ _ HNM.out
      rw [← HL.out] at q1 q2 q3
      by_cases hz : at0 + 0 = s.size
      · have hres := Go.Lib.hid (q2 hz)
        clear q2 q3
        have hz2 : (at0 : Int) + 0 = (s.size : Int) := by omega
        try simp only [Int.add_zero] at hz2
        clear hz
        go_wp2_with fail
        go_ret2
        exact retParts_some hres.out HO.out HB.out
      · have hres := Go.Lib.hid (q3 hz)
        clear q2 q3
        have hz2 : ¬ (at0 : Int) + 0 = (s.size : Int) := by omega
        try simp only [Int.add_zero] at hz2
        clear hz
        go_wp2_with fail
        go_ret2
        exact retParts_none hres.out HB.out
set_option maxRecDepth 100000 in
set_option maxHeartbeats 4000000 in
theorem Parts_33 (s : ByteArray) (w : World) (h : s.size ≤ 1000) :
    Calls Tryz.prog 61 #[.int .i64 33, .string s] w (RetParts w (Rc.partsN 33 (bl s))) := by
  have hl := size_bl s
  obtain ⟨hfn, hfs⟩ := partsN_shape (t := 33) (a := 6) (m := 1) (b := 0) rfl (d := bl s) (by omega) (by omega)
  have hen : ∀ at_ : Nat, at_ ≤ 2000 → ∀ w, Calls Tryz.prog 94 #[.string s, .int .i64 at_] w fun e w' => e = .returned (endV (bl s) at_) ∧ Below w.heap.size w w' := fun at_ hat w => end_any s at_ w (by unfold maxLen; omega) hat
  have hnn : ∀ k, Rc.names (bl s) 6 k = none → k ≤ 1 → Rc.names (bl s) 6 1 = none := fun k h1 h2 => Rc.names_none h1 h2
  have HFN := Go.Lib.hid hfn
  have HFS := Go.Lib.hid hfs
  have HEN := Go.Lib.hid hen
  have HL := Go.Lib.hid hl
  have HNN := Go.Lib.hid hnn
  clear hfn hfs hen hl hnn
  generalize Rc.partsN 33 (bl s) = res at *
  go_enter Tryz.func61, Tryz.ntmps61
  go_wp2_with fail
  go_loopw [10, 11, 12] (fun v at_ i wr => ∃ (k at0 : Nat) (l : List (Nat × Nat)), i = .int .i64 k ∧ k ≤ 1 ∧ at_ = .int .i64 at0 ∧ at0 ≤ 1010 ∧ l.length ≤ k ∧ Rc.names (bl s) 6 k = some (l, at0) ∧ wr.ownsRow w.heap.size 95 2 v l.length (encP l) ∧ Below w.heap.size w wr) (fun _ _ i _ => 1 - (intOf i).toNat)
  case atStart => exact ⟨0, 6, [], rfl, by omega, rfl, by omega, by simp, rfl, World.ownsRow_nil _ _ _ _, Below.refl _ _⟩
  case round =>
    obtain ⟨k, at0, l, rfl, hk, rfl, hat, hlk, hnm, hown, hbel⟩ := hrel
    have hbz := hbel.size
    have HNM := Go.Lib.hid hnm
    have HO := Go.Lib.hid hown
    have HB := Go.Lib.hid hbel
    clear hnm hown hbel
    by_cases hlt : k < 1
    · have hld := HEN.out at0 (by omega)
      have hstep := Rc.names_succ HNM.out
      cases hlq : Nm.lead ((bl s).drop at0) with
      | none =>
        have hv : endV (bl s) at0 = .tuple #[.int .i64 0, .bool false] := endV_none hlq
        rw [hlq] at hstep
        have hnone : Hid (res = none) := Go.Lib.hid (HFN.out (HNN.out _ hstep (by omega)))
        rw [hv] at hld
        have HLD := Go.Lib.hid hld
        clear hld
        clear hlq hstep hv
        go_wp2_with fail
        refine (HLD.out _).mono ?_; rintro e wb ⟨rfl, hx⟩
        have HB2 := Go.Lib.hid hx
        clear hx
        go_wp2_with fail
        go_ret2
        exact retParts_none hnone.out (HB.out.trans (HB2.out.mono HB.out.size))
      | some n =>
        have hv : endV (bl s) at0 = .tuple #[.int .i64 ((at0 + n : Nat) : Int), .bool true] := by unfold endV; rw [hlq]
        rw [hlq] at hstep
        simp only at hstep
        have hle := Nm.lead_le hlq
        rw [List.length_drop, ← HL.out] at hle
        rw [hv] at hld
        have HLD := Go.Lib.hid hld
        have HST := Go.Lib.hid hstep
        clear hld hstep
        clear hlq hv
        go_wp2_with fail
        refine (HLD.out _).mono ?_; rintro e wb ⟨rfl, hx⟩
        have hown := owns_below HO.out hx
        have hb := HB.out.trans (hx.mono hbz)
        have hbz2 := hb.size
        have HO2 := Go.Lib.hid hown
        have HB2 := Go.Lib.hid hb
        clear hown hb
        clear hx
        have hsub : (at0 : Int) + (n : Int) - (at0 : Int) = (n : Int) := by omega
        have hsub2 : ((at0 + n : Nat) : Int) - (at0 : Int) = (n : Int) := by omega
        go_wp2_with (at_builtin; refine wpList_app eiPt (.tmp 75) (.tmp 81) rfl rfl w.heap.size rfl rfl (HO2.out.alloc _) (slc_new _ 2 1 95 [.int .i64 (at0 : Int), .int .i64 (n : Int)] rfl (by decide)) (one_pair at0 n) (by unfold maxLen; omega) (by omega) (by simp; omega) ?_; intro v1 w1 hown1 hg1)
        go_roundw
        case rel => exact ⟨k + 1, at0 + n, l ++ [(at0, n)], by go_num, by omega, by go_num, by omega, by simp; omega, HST.out, by rw [List.length_append, encP_snoc]; exact hown1, below_app (HB2.out.alloc hbz2 _) (HO2.out.alloc _) hg1 (Nat.le_refl _) (by simp; omega)⟩
        case measure => simp [intOf]; omega
    · obtain rfl : k = 1 := by omega
      obtain ⟨q1, q2, q3⟩ := HFS.out _ _ HNM.out
      rw [← HL.out] at q1 q2 q3
      by_cases hz : at0 + 0 = s.size
      · have hres := Go.Lib.hid (q2 hz)
        clear q2 q3
        have hz2 : (at0 : Int) + 0 = (s.size : Int) := by omega
        try simp only [Int.add_zero] at hz2
        clear hz
        go_wp2_with fail
        go_ret2
        exact retParts_some hres.out HO.out HB.out
      · have hres := Go.Lib.hid (q3 hz)
        clear q2 q3
        have hz2 : ¬ (at0 : Int) + 0 = (s.size : Int) := by omega
        try simp only [Int.add_zero] at hz2
        clear hz
        go_wp2_with fail
        go_ret2
        exact retParts_none hres.out HB.out
set_option maxRecDepth 100000 in
set_option maxHeartbeats 4000000 in
theorem Parts_6 (s : ByteArray) (w : World) (h : s.size ≤ 1000) :
    Calls Tryz.prog 61 #[.int .i64 6, .string s] w (RetParts w (Rc.partsN 6 (bl s))) := by
  have hl := size_bl s
  obtain ⟨hfn, hfs⟩ := partsN_shape (t := 6) (a := 0) (m := 2) (b := 20) rfl (d := bl s) (by omega) (by omega)
  have hen : ∀ at_ : Nat, at_ ≤ 2000 → ∀ w, Calls Tryz.prog 94 #[.string s, .int .i64 at_] w fun e w' => e = .returned (endV (bl s) at_) ∧ Below w.heap.size w w' := fun at_ hat w => end_any s at_ w (by unfold maxLen; omega) hat
  have hnn : ∀ k, Rc.names (bl s) 0 k = none → k ≤ 2 → Rc.names (bl s) 0 2 = none := fun k h1 h2 => Rc.names_none h1 h2
  have HFN := Go.Lib.hid hfn
  have HFS := Go.Lib.hid hfs
  have HEN := Go.Lib.hid hen
  have HL := Go.Lib.hid hl
  have HNN := Go.Lib.hid hnn
  clear hfn hfs hen hl hnn
  generalize Rc.partsN 6 (bl s) = res at *
  go_enter Tryz.func61, Tryz.ntmps61
  go_wp2_with fail
  go_loopw [10, 11, 12] (fun v at_ i wr => ∃ (k at0 : Nat) (l : List (Nat × Nat)), i = .int .i64 k ∧ k ≤ 2 ∧ at_ = .int .i64 at0 ∧ at0 ≤ 1010 ∧ l.length ≤ k ∧ Rc.names (bl s) 0 k = some (l, at0) ∧ wr.ownsRow w.heap.size 95 2 v l.length (encP l) ∧ Below w.heap.size w wr) (fun _ _ i _ => 2 - (intOf i).toNat)
  case atStart => exact ⟨0, 0, [], rfl, by omega, rfl, by omega, by simp, rfl, World.ownsRow_nil _ _ _ _, Below.refl _ _⟩
  case round =>
    obtain ⟨k, at0, l, rfl, hk, rfl, hat, hlk, hnm, hown, hbel⟩ := hrel
    have hbz := hbel.size
    have HNM := Go.Lib.hid hnm
    have HO := Go.Lib.hid hown
    have HB := Go.Lib.hid hbel
    clear hnm hown hbel
    by_cases hlt : k < 2
    · have hld := HEN.out at0 (by omega)
      have hstep := Rc.names_succ HNM.out
      cases hlq : Nm.lead ((bl s).drop at0) with
      | none =>
        have hv : endV (bl s) at0 = .tuple #[.int .i64 0, .bool false] := endV_none hlq
        rw [hlq] at hstep
        have hnone : Hid (res = none) := Go.Lib.hid (HFN.out (HNN.out _ hstep (by omega)))
        rw [hv] at hld
        have HLD := Go.Lib.hid hld
        clear hld
        clear hlq hstep hv
        go_wp2_with fail
        refine (HLD.out _).mono ?_; rintro e wb ⟨rfl, hx⟩
        have HB2 := Go.Lib.hid hx
        clear hx
        go_wp2_with fail
        go_ret2
        exact retParts_none hnone.out (HB.out.trans (HB2.out.mono HB.out.size))
      | some n =>
        have hv : endV (bl s) at0 = .tuple #[.int .i64 ((at0 + n : Nat) : Int), .bool true] := by unfold endV; rw [hlq]
        rw [hlq] at hstep
        simp only at hstep
        have hle := Nm.lead_le hlq
        rw [List.length_drop, ← HL.out] at hle
        rw [hv] at hld
        have HLD := Go.Lib.hid hld
        have HST := Go.Lib.hid hstep
        clear hld hstep
        clear hlq hv
        go_wp2_with fail
        refine (HLD.out _).mono ?_; rintro e wb ⟨rfl, hx⟩
        have hown := owns_below HO.out hx
        have hb := HB.out.trans (hx.mono hbz)
        have hbz2 := hb.size
        have HO2 := Go.Lib.hid hown
        have HB2 := Go.Lib.hid hb
        clear hown hb
        clear hx
        have hsub : (at0 : Int) + (n : Int) - (at0 : Int) = (n : Int) := by omega
        have hsub2 : ((at0 + n : Nat) : Int) - (at0 : Int) = (n : Int) := by omega
        go_wp2_with (at_builtin; refine wpList_app eiPt (.tmp 75) (.tmp 81) rfl rfl w.heap.size rfl rfl (HO2.out.alloc _) (slc_new _ 2 1 95 [.int .i64 (at0 : Int), .int .i64 (n : Int)] rfl (by decide)) (one_pair at0 n) (by unfold maxLen; omega) (by omega) (by simp; omega) ?_; intro v1 w1 hown1 hg1)
        go_roundw
        case rel => exact ⟨k + 1, at0 + n, l ++ [(at0, n)], by go_num, by omega, by go_num, by omega, by simp; omega, HST.out, by rw [List.length_append, encP_snoc]; exact hown1, below_app (HB2.out.alloc hbz2 _) (HO2.out.alloc _) hg1 (Nat.le_refl _) (by simp; omega)⟩
        case measure => simp [intOf]; omega
    · obtain rfl : k = 2 := by omega
      obtain ⟨q1, q2, q3⟩ := HFS.out _ _ HNM.out
      rw [← HL.out] at q1 q2 q3
      by_cases hz : at0 + 20 = s.size
      · have hres := Go.Lib.hid (q2 hz)
        clear q2 q3
        have hz2 : (at0 : Int) + 20 = (s.size : Int) := by omega
        try simp only [Int.add_zero] at hz2
        clear hz
        go_wp2_with fail
        go_ret2
        exact retParts_some hres.out HO.out HB.out
      · have hres := Go.Lib.hid (q3 hz)
        clear q2 q3
        have hz2 : ¬ (at0 : Int) + 20 = (s.size : Int) := by omega
        try simp only [Int.add_zero] at hz2
        clear hz
        go_wp2_with fail
        go_ret2
        exact retParts_none hres.out HB.out
theorem Parts_any (t : Int) (s : ByteArray) (w : World) :
    Calls Tryz.prog 61 #[.int .i64 t, .string s] w (RetParts w (Rc.partsN t (bl s))) := by
  by_cases h : 1000 < s.size
  · exact Parts_big t s w h
  have h := Nat.le_of_not_lt h
  by_cases h1 : t = 1 ∨ t = 28
  · exact Parts_fix t s w h h1
  by_cases h2 : t = 16
  · subst h2; exact Parts_txt s w h
  by_cases h3 : t = 2 ∨ t = 5 ∨ t = 12 ∨ t = 15 ∨ t = 33 ∨ t = 6
  · rcases h3 with rfl | rfl | rfl | rfl | rfl | rfl
    · exact Parts_2 s w h
    · exact Parts_5 s w h
    · exact Parts_12 s w h
    · exact Parts_15 s w h
    · exact Parts_33 s w h
    · exact Parts_6 s w h
  · exact Parts_none t s w h (by omega) (by omega) h2 (by unfold Rc.shape; rw [if_neg (by omega), if_neg (by omega), if_neg (by omega), if_neg (by omega)])
end Go.Proofs.YtgbmclgnbbhcbaaGreat

/- The contract of the reference's Target. -/
namespace Go.Proofs.YtgbmclgnbbhcbaaGreat
open Go.RowKit
set_option linter.unusedVariables false

theorem soa_long {d : List UInt8} (h : Rc.dataB 6 d = true) : 20 ≤ d.length ∧ d.length ≤ 1000 := by
  unfold Rc.dataB at h
  split at h
  · cases h
  · rename_i hl
    rw [if_neg (by omega), if_neg (by omega), if_neg (by omega)] at h
    unfold Rc.placesP at h
    rw [show Rc.shape 6 = some (0, 2, 20) from rfl] at h
    simp only at h
    split at h
    · cases h
    · split at h
      · cases h
      · simp only [decide_eq_true_eq] at h
        omega
/-- a target, by the list of names: there is one just where there is one name -/
theorem targ_parts (t : Int) (d : List UInt8) : targP t d = match Rc.partsN t d with | some [x] => ((d.drop x.1).take x.2, true) | _ => ([], false) := by
  unfold targP
  by_cases ht : t = 6
  · rw [if_pos ht]
    subst ht
    cases h : Rc.partsN 6 d with
    | none => rfl
    | some l =>
      have hl : l.length = 2 := by
        unfold Rc.partsN at h
        split at h
        · rename_i hd
          simp only [Option.some.injEq] at h
          have h20 := soa_long hd
          unfold Rc.dataB at hd
          rw [if_neg (by omega), if_neg (by omega), if_neg (by omega), if_neg (by omega)] at hd
          rw [← h]
          unfold Rc.placesP at hd ⊢
          rw [show Rc.shape 6 = some (0, 2, 20) from rfl] at hd ⊢
          simp only at hd ⊢
          rw [if_neg (by omega)] at hd ⊢
          cases hn : Rc.names d 0 2 with
          | none => rw [hn] at hd; simp at hd
          | some p =>
            obtain ⟨l2, e2⟩ := p
            exact (Rc.names_chain (by omega) 2 l2 e2 hn).1
        · cases h
      match l, hl with
      | [_, _], _ => rfl
  · rw [if_neg ht]
    cases h : Rc.partsN t d with
    | none => rfl
    | some l =>
      have hl : l.length ≤ 1 := by
        unfold Rc.partsN at h
        split at h
        · simp only [Option.some.injEq] at h
          rw [← h]
          unfold Rc.placesP
          split
          · simp
          · rename_i a m b hs
            have hm : m = 1 := by
              unfold Rc.shape at hs
              repeat' split at hs
              all_goals first | (simp only [Option.some.injEq, Prod.mk.injEq] at hs; omega) | cases hs
            subst hm
            split
            · simp
            · rename_i hlen
              split
              · simp
              · rename_i l2 e2 hn
                exact Nat.le_of_eq (Rc.names_chain (by omega) 1 l2 e2 hn).1
        · cases h
      match l, hl with
      | [], _ => rfl
      | [_], _ => rfl
set_option maxRecDepth 100000 in
set_option maxHeartbeats 8000000 in
theorem refTarget_any (r : Rc.RR) (w : World) (hr : RROk r) : Calls Tryz.prog 48 #[rrV r] w fun e w' => e = .returned (targV r.ty r.data) ∧ Below w.heap.size w w' := by
  obtain ⟨rn, ty, cl, tl, rd⟩ := r
  obtain ⟨h1, h2⟩ := hr
  simp only at h1 h2
  have hp := fun W => Parts_any ty (mk rd) W
  rw [bl_mk] at hp
  have hH := World.alloc_heap_new w (.cells #[.string (mk rn), .int .i64 ty, .int .i64 cl, .int .i64 tl, .string (mk rd)] 64)
  have h0 : Below w.heap.size w (w.alloc (.cells #[.string (mk rn), .int .i64 ty, .int .i64 cl, .int .i64 tl, .string (mk rd)] 64)) := (Below.refl _ w).alloc (Nat.le_refl _) _
  simp only [rrV]
  have hvt : targV ty rd = .tuple #[.string (mk (targP ty rd).1), .bool (targP ty rd).2] := rfl
  have hone := targ_parts ty rd
  have hchain : ∀ l, Rc.partsN ty rd = some l → Rc.Chain rd 0 l := fun l h => (Rc.partsN_chain h).1
  generalize hps : Rc.partsN ty rd = ps at *
  by_cases hk : ∃ x, ps = some [x]
  · obtain ⟨x, rfl⟩ := hk
    obtain ⟨xa, xn⟩ := x
    have hmem := Rc.chain_mem _ _ (hchain _ rfl) (xa, xn) (by simp)
    simp only at hmem
    obtain ⟨_, n2, n3⟩ := hmem
    have hv : Hid (targV ty rd = .tuple #[.string (mk ((rd.drop xa).take xn)), .bool true]) := Go.Lib.hid (by rw [hvt, hone])
    have hx2 : (mk rd).extract xa (xa + xn) = mk ((rd.drop xa).take xn) := by
      apply bl_inj
      rw [bl_extract, bl_mk, bl_mk, show xa + xn - xa = xn by omega]
    have hsz : (mk rd).size = rd.length := size_mk _
    unfold maxLen at h2
    generalize targV ty rd = res at *
    generalize mk ((rd.drop xa).take xn) = part at *
    rw [← hsz] at n2 h2
    clear hsz hone hchain hps hvt h1
    generalize mk rd = s at *
    have w1 : wrap64 ((xa : Int) + (xn : Int)) = (xa : Int) + (xn : Int) := by unfold wrap64; omega
    have w1' : IntKind.i64.wrap ((xa : Int) + (xn : Int)) = (xa : Int) + (xn : Int) := by rw [IntKind.wrap_i64]; omega
    have w2' : ((xa : Int) + (xn : Int)).toNat = xa + xn := by omega
    have i3 : (xa : Int) + (xn : Int) ≤ (s.size : Int) := by omega
    have i4 : (xa : Int) ≤ (xa : Int) + (xn : Int) := by omega
    have i5 : (0 : Int) ≤ (xa : Int) + (xn : Int) := by omega
    have HP := Go.Lib.hid hp
    have HH := Go.Lib.hid hH
    have H0 := Go.Lib.hid h0
    clear hp hH h0
    go_enter Tryz.func48, Tryz.ntmps48
    go_wp2_with fail
    generalize w.alloc (.cells #[.string (mk rn), .int .i64 ty, .int .i64 cl, .int .i64 tl, .string s] 64) = X at *
    refine (HP.out _).mono ?_; rintro e X1 ⟨v, rfl, hpr, hx1⟩
    obtain ⟨pa, pc, hv0, hv1, hv2⟩ := hpr.slice
    have hv0' : v = .slice pa 1 pc := hv0
    subst hv0'
    obtain ⟨hz1, pb, po, rfl, hpb, hpc⟩ := SlC.at hpr (Nat.succ_pos 0)
    clear hz1
    have d0 : X1.cell? ⟨pb, po, none⟩ = some (.int .i64 (xa : Int)) := hpc 0 (by simp)
    have d1 : X1.cell? ⟨pb, po + 1, none⟩ = some (.int .i64 (xn : Int)) := hpc 1 (by simp)
    have hg := cell_of_heap ((hx1.block _ (Array.getElem?_eq_some_iff.1 HH.out).1).trans HH.out)
    have c4 : X1.cell? ⟨w.heap.size, 4, none⟩ = some (.string s) := hg 4
    have hb1 := H0.out.trans (hx1.mono H0.out.size)
    have HB1 := Go.Lib.hid hb1
    clear hb1
    have hsx := hx1.size
    clear hg hx1 hpr hv0 hpc
    have hw1 : w.heap.size < X1.heap.size := Nat.lt_of_lt_of_le (Array.getElem?_eq_some_iff.1 HH.out).1 hsx
    have D0 : ∀ w3 : Subtype (Below X1.heap.size X1), w3.1.cell? ⟨pb, po, none⟩ = some (.int .i64 (xa : Int)) := BelowC.cell d0 hpb
    have D1 : ∀ w3 : Subtype (Below X1.heap.size X1), w3.1.cell? ⟨pb, po + 1, none⟩ = some (.int .i64 (xn : Int)) := BelowC.cell d1 hpb
    have C4 : ∀ w3 : Subtype (Below X1.heap.size X1), w3.1.cell? ⟨w.heap.size, 4, none⟩ = some (.string s) := BelowC.cell c4 hw1
    have hnn : Nonempty (Subtype (Below X1.heap.size X1)) := ⟨⟨X1, Below.refl _ _⟩⟩
    clear d0 d1 c4
    go_wp2_with fail
    refine Go.Mix.wp_region_mix (Es := []) (Below X1.heap.size X1) mixed (by kernel_rfl) (Below.refl _ _).drew (fun _ => ?_)
    iterate 18 (refine Go.Mix.mix_step rfl (fun K hK => ?_); have HKK := Go.Lib.hid hK; clear hK; go_simp; refine HKK.out _ _ ?_; clear HKK K)
    refine Go.Mix.mix_nil ?_
    go_wp2_with fail
    go_ret2
    exact ⟨(by rw [hv.out]; rfl), HB1.out.drew⟩
  · have hv : Hid (targV ty rd = .tuple #[.string ⟨#[]⟩, .bool false]) := Go.Lib.hid (by
      rw [hvt, hone]
      match ps, hk with
      | none, _ => rfl
      | some [], _ => rfl
      | some [x], hk => exact absurd ⟨x, rfl⟩ hk
      | some (x :: y :: l), _ => rfl)
    have hch2 : ∀ l, ps = some l → l.length ≤ 2 := fun l h => (Rc.partsN_chain (hps.trans h)).2
    clear hone hchain hps hvt h1 h2
    have HP := Go.Lib.hid hp
    have HH := Go.Lib.hid hH
    have H0 := Go.Lib.hid h0
    clear hp hH h0
    go_enter Tryz.func48, Tryz.ntmps48
    go_wp2_with fail
    generalize w.alloc (.cells #[.string (mk rn), .int .i64 ty, .int .i64 cl, .int .i64 tl, .string (mk rd)] 64) = X at *
    refine (HP.out _).mono ?_; rintro e X1 ⟨v, rfl, hpr, hx1⟩
    have hb1 := H0.out.trans (hx1.mono H0.out.size)
    have HB1 := Go.Lib.hid hb1
    clear hb1
    clear hx1
    match ps, hk, hpr, hch2 with
    | none, _, _, _ =>
      go_wp2_with fail
      go_ret2
      exact ⟨(by rw [hv.out]; rfl), HB1.out⟩
    | some l, hk, hpr, hch2 =>
      obtain ⟨pa, pc, hv0, hv1, hv2⟩ := hpr.slice
      have hll := hch2 l rfl
      have hl1 : ¬ l.length = 1 := fun h => hk (by match l, h with | [x], _ => exact ⟨x, rfl⟩)
      have hv0' : v = .slice pa l.length pc := hv0
      subst hv0'
      clear hpr hv0 hv1 hv2 hk hch2
      generalize l.length = q at *
      have e1 : ((q : Int) != 1) = true := by simp; omega
      have e2 : ¬ (q : Int) = 1 := by omega
      go_wp2_with fail
      go_ret2
      exact ⟨(by rw [hv.out]; rfl), HB1.out⟩
end Go.Proofs.YtgbmclgnbbhcbaaGreat

/- Pick, against the reference: names with addresses; plain facts. -/
namespace Go.Proofs.YtgbmclgnbbhcbaaGreat
open Go.RowKit Go.Sort Go.Lib
set_option maxRecDepth 100000
set_option linter.unusedVariables false

/-- a name and its addresses, where they lie -/
structure Kn where
  nm : List UInt8
  a : Option Addr
  c : Nat
  zs : List Int
def k0 : Kn := ⟨[], none, 0, []⟩
def knC (k : Kn) : List Value := [.string (mk k.nm), .slice k.a k.zs.length k.c]
def knA (k : Kn) : Array Value := #[.string (mk k.nm), .slice k.a k.zs.length k.c]
def KnAt (w : World) (k : Kn) : Prop := Ints w (.slice k.a k.zs.length k.c) k.zs
def Kns (w : World) (v : Value) (l : List Kn) : Prop := SlC w 2 v l.length (l.flatMap knC) ∧ ∀ k ∈ l, KnAt w k
theorem Kns.below {w w' : World} {v : Value} {l : List Kn} (h : Kns w v l) (hb : Below w.heap.size w w') : Kns w' v l :=
  ⟨SlC.below h.1 hb (Nat.le_refl _), fun k hk => SlC.below (h.2 k hk) hb (Nat.le_refl _)⟩
theorem knC_get (l : List Kn) : ∀ j, j < l.length → (l.flatMap knC)[j * 2]? = some (.string (mk (l.getD j k0).nm)) ∧ (l.flatMap knC)[j * 2 + 1]? = some (.slice (l.getD j k0).a (l.getD j k0).zs.length (l.getD j k0).c) := by
  induction l with
  | nil => intro j h; simp at h
  | cons x l ih =>
    intro j h
    cases j with
    | zero => exact ⟨rfl, rfl⟩
    | succ j =>
      have h2 := ih j (by simpa using h)
      rw [show (j + 1) * 2 = j * 2 + 1 + 1 by omega]
      exact h2
theorem knC_length (l : List Kn) : (l.flatMap knC).length = l.length * 2 := by
  induction l with
  | nil => rfl
  | cons x l ih => rw [List.flatMap_cons, List.length_append, ih, List.length_cons]; show 2 + _ = _; omega
theorem one_kn (l : List Kn) : ∀ u ∈ l.flatMap knC, u.oneCell' = true := by
  intro u hu
  obtain ⟨k, _, hk⟩ := List.mem_flatMap.1 hu
  simp only [knC, List.mem_cons, List.not_mem_nil, or_false] at hk
  rcases hk with rfl | rfl <;> rfl
theorem Kns.at {w : World} {a : Option Addr} {m cap : Nat} {l : List Kn} (h : Kns w (.slice a m cap) l) (hn : 0 < l.length) :
    ∃ b off, a = some ⟨b, off, none⟩ ∧ b < w.heap.size ∧ ∀ j, j < l.length → w.cell? ⟨b, off + j * 2, none⟩ = some (.string (mk (l.getD j k0).nm)) ∧ w.cell? ⟨b, off + j * 2 + 1, none⟩ = some (.slice (l.getD j k0).a (l.getD j k0).zs.length (l.getD j k0).c) ∧ KnAt w (l.getD j k0) := by
  obtain ⟨_, b, off, ha, hlt, h4⟩ := SlC.at h.1 hn
  refine ⟨b, off, ha, hlt, fun j hj => ?_⟩
  obtain ⟨e0, e1⟩ := knC_get l j hj
  refine ⟨by rw [h4 (j * 2) (by omega), e0], by rw [Nat.add_assoc, h4 (j * 2 + 1) (by omega), e1], ?_⟩
  exact h.2 _ (by rw [List.getD_eq_getElem?_getD, List.getElem?_eq_getElem hj]; exact List.getElem_mem _)
/-- all that a list tells of a name, and how -/
def flatK (l : List Kn) (n : List UInt8) : List Int := l.flatMap fun k => if Nm.sameN k.nm n then k.zs else []
def ofN (l : List Kn) (n : List UInt8) : List Int := toldN (flatK l n)
theorem flatK_step {l : List Kn} {j : Nat} (h : j < l.length) (n : List UInt8) : flatK (l.take (j + 1)) n = flatK (l.take j) n ++ (if Nm.sameN (l.getD j k0).nm n then (l.getD j k0).zs else []) := by
  unfold flatK
  rw [List.take_succ_eq_append_getElem h, List.flatMap_append, List.getD_eq_getElem?_getD, List.getElem?_eq_getElem h]
  simp
theorem flatK_len {l : List Kn} {B : Nat} (h : ∀ k ∈ l, k.zs.length ≤ B) (n : List UInt8) : (flatK l n).length ≤ l.length * B := by
  unfold flatK
  induction l with
  | nil => simp
  | cons x l ih =>
    rw [List.flatMap_cons, List.length_append, List.length_cons, Nat.succ_mul]
    have h1 := h x (List.mem_cons_self ..)
    have h2 := ih fun k hk => h k (List.mem_cons_of_mem _ hk)
    have h3 : (if Nm.sameN x.nm n then x.zs else []).length ≤ B := by
      split
      · exact h1
      · exact Nat.zero_le _
    omega
theorem told_idem (zs : List Int) : toldN (toldN zs) = toldN zs := toldN_asc (insAll_asc od_ints (P := fun _ => True) fun _ _ => trivial).1
theorem told_snoc (zs : List Int) (x : Int) : toldN (zs ++ [x]) = insL ltI x (toldN zs) := insAll_snoc zs x
theorem told_len (zs : List Int) : (toldN zs).length ≤ zs.length := insAll_len _
/-- a number's place -/
theorem posI_next {x : Int} {l : List Int} {j : Nat} (hj : j ≤ posL ltI x l) (hl : j < l.length) (h : l.getD j 0 < x) : j + 1 ≤ posL ltI x l := by
  rcases Nat.lt_or_ge j (posL ltI x l) with h1 | h1
  · exact h1
  · have e : j = posL ltI x l := by omega
    have h2 := posL_stop (lt := ltI) x l 0 (by omega)
    rw [← e] at h2
    unfold ltI at h2
    simp only [decide_eq_false_iff_not] at h2
    exact absurd h h2
theorem posI_here {x : Int} {l : List Int} {j : Nat} (hj : j ≤ posL ltI x l) (h : ¬ l.getD j 0 < x) : j = posL ltI x l := by
  rcases Nat.lt_or_ge j (posL ltI x l) with h1 | h1
  · have h2 := posL_lt (lt := ltI) x l j 0 h1
    unfold ltI at h2
    simp only [decide_eq_true_iff] at h2
    exact absurd h2 h
  · omega
theorem posI_end {x : Int} {l : List Int} {j : Nat} (hj : j ≤ posL ltI x l) (h : ¬ j < l.length) : j = posL ltI x l := by
  have := posL_le (lt := ltI) x l
  omega
theorem insI_eq {x : Int} {l : List Int} {j : Nat} (hj : j = posL ltI x l) (hl : j < l.length) (h : l.getD j 0 = x) : insL ltI x l = l := by
  rw [insL_pos, if_pos]
  rw [← hj, List.getElem?_eq_getElem hl]
  rw [List.getD_eq_getElem?_getD, List.getElem?_eq_getElem hl] at h
  exact congrArg some h
theorem insI_ne {x : Int} {l : List Int} {j : Nat} (hj : j = posL ltI x l) (h : j < l.length → l.getD j 0 ≠ x) : insL ltI x l = l.take j ++ [x] ++ l.drop j := by
  rw [insL_pos, if_neg, ← hj]
  · simp
  · rw [← hj]
    intro e
    by_cases hl : j < l.length
    · refine h hl ?_
      rw [List.getD_eq_getElem?_getD, e]
      rfl
    · rw [List.getElem?_eq_none (by omega)] at e
      cases e
/-- a place in a list, by any order -/
theorem posG_next {α : Type} {lt : α → α → Bool} {x d : α} {l : List α} {j : Nat} (hj : j ≤ posL lt x l) (hl : j < l.length) (h : lt (l.getD j d) x = true) : j + 1 ≤ posL lt x l := by
  rcases Nat.lt_or_ge j (posL lt x l) with h1 | h1
  · exact h1
  · have e : j = posL lt x l := by omega
    have h2 := posL_stop (lt := lt) x l d (by omega)
    rw [← e, h] at h2
    cases h2
theorem posG_here {α : Type} {lt : α → α → Bool} {x d : α} {l : List α} {j : Nat} (hj : j ≤ posL lt x l) (h : lt (l.getD j d) x = false) : j = posL lt x l := by
  rcases Nat.lt_or_ge j (posL lt x l) with h1 | h1
  · have h2 := posL_lt (lt := lt) x l j d h1
    rw [h] at h2
    cases h2
  · omega
theorem posG_end {α : Type} {lt : α → α → Bool} {x : α} {l : List α} {j : Nat} (hj : j ≤ posL lt x l) (h : ¬ j < l.length) : j = posL lt x l := by
  have := posL_le (lt := lt) x l
  omega
theorem insG_eq {α : Type} [DecidableEq α] {lt : α → α → Bool} {x d : α} {l : List α} {j : Nat} (hj : j = posL lt x l) (hl : j < l.length) (h : l.getD j d = x) : insL lt x l = l := by
  rw [insL_pos, if_pos]
  rw [← hj, List.getElem?_eq_getElem hl]
  rw [List.getD_eq_getElem?_getD, List.getElem?_eq_getElem hl] at h
  exact congrArg some h
theorem insG_ne {α : Type} [DecidableEq α] {lt : α → α → Bool} {x d : α} {l : List α} {j : Nat} (hj : j = posL lt x l) (h : j < l.length → l.getD j d ≠ x) : insL lt x l = l.take j ++ [x] ++ l.drop j := by
  rw [insL_pos, if_neg, ← hj]
  · simp
  · rw [← hj]
    intro e
    by_cases hl : j < l.length
    · refine h hl ?_
      rw [List.getD_eq_getElem?_getD, e]
      rfl
    · rw [List.getElem?_eq_none (by omega)] at e
      cases e
/-- a part of a slice of one-cell elements: from a place on, up to a place -/
theorem sl1_from {α : Type} {en : α → Value} {X : World} {b off M cv j : Nat} {l : List α} (h : SlC X 1 (.slice (some ⟨b, off, none⟩) M cv) M (l.map en)) (hj : j ≤ M) : SlC X 1 (.slice (if cv = j then (some ⟨b, off, none⟩) else (some ⟨b, off + j, none⟩ : Option Addr)) (M - j) (cv - j)) (M - j) ((l.drop j).map en) := by
  have hc : M ≤ cv := by obtain ⟨_, _, _, e, h1, _⟩ := h; simp only [Value.slice.injEq] at e; omega
  have hl : (l.map en).length = M * 1 := h.1
  have h2 := SlC.sub h (i := j) (j := M) hj (Nat.le_refl _) (a' := if cv = j then (some ⟨b, off, none⟩ : Option Addr) else some ⟨b, off + j, none⟩) (fun h => by rw [if_neg (by omega), Nat.mul_one]) (fun h => by split at h <;> cases h)
  have e : ((l.map en).drop (j * 1)).take ((M - j) * 1) = (l.drop j).map en := by
    rw [Nat.mul_one, Nat.mul_one, List.take_of_length_le (by rw [List.length_drop, hl]; omega), List.map_drop]
  rw [e] at h2
  exact h2
theorem sl1_to {α : Type} {en : α → Value} {X : World} {b off M cv j : Nat} {l : List α} (h : SlC X 1 (.slice (some ⟨b, off, none⟩) M cv) M (l.map en)) (hj : j ≤ M) : SlC X 1 (.slice (some ⟨b, off, none⟩) j cv) j ((l.take j).map en) := by
  have h2 := SlC.sub h (i := 0) (j := j) (Nat.zero_le _) hj (a' := some ⟨b, off, none⟩) (fun _ => by simp) (fun h => by cases h)
  rw [Nat.sub_zero, Nat.sub_zero, Nat.zero_mul, List.drop_zero, Nat.mul_one, ← List.map_take] at h2
  exact h2
end Go.Proofs.YtgbmclgnbbhcbaaGreat

/- Pick, against the reference: a number into a list that rises (rise). -/
namespace Go.Proofs.YtgbmclgnbbhcbaaGreat
open Go.RowKit Go.Sort Go.Lib
set_option maxRecDepth 100000
set_option linter.unusedVariables false
set_option linter.unusedSimpArgs false

theorem infoIZ : (Tryz.prog.info? 3).map (fun i => (i.zero, i.size, i.bytes)) = some (some (.int .i64 0), 1, 8) := by kernel_rfl
theorem eiIZ : EI Tryz.prog 33 3 1 8 := ei_of Tryz.underlying33 infoIZ rfl (by decide)
set_option maxHeartbeats 8000000 in
theorem rise_any (l : List Int) (x : Int) (v : Value) (B : Nat) (w : World) (hl : w.ownsRow B 3 1 v l.length (l.map (Value.int .i64))) (hB : B ≤ w.heap.size) (hn : l.length ≤ 100000) :
    Calls Tryz.prog 22 #[v, .int .i64 x] w fun e w' => ∃ v', e = .returned v' ∧ w'.ownsRow B 3 1 v' (insL ltI x l).length ((insL ltI x l).map (Value.int .i64)) ∧ Below w.heap.size w w' := by
  have mixed : Tryz.prog.follows .mixedOrders = true := by kernel_rfl
  have hpb := posL_le (lt := ltI) x l
  have hil : ∀ j, j = posL ltI x l → (j < l.length → l.getD j 0 ≠ x) → insL ltI x l = l.take j ++ [x] ++ l.drop j := fun j h1 h2 => insI_ne h1 h2
  have hie : ∀ j, j = posL ltI x l → j < l.length → l.getD j 0 = x → insL ltI x l = l := fun j h1 h2 h3 => insI_eq h1 h2 h3
  have hnx : ∀ j, j ≤ posL ltI x l → j < l.length → l.getD j 0 < x → j + 1 ≤ posL ltI x l := fun j h1 h2 h3 => posI_next h1 h2 h3
  have hhe : ∀ j, j ≤ posL ltI x l → ¬ l.getD j 0 < x → j = posL ltI x l := fun j h1 h2 => posI_here h1 h2
  have hen : ∀ j, j ≤ posL ltI x l → ¬ j < l.length → j = posL ltI x l := fun j h1 h2 => posI_end h1 h2
  obtain ⟨av, cv, rfl, _, _⟩ := (SlC.of_owns hl).slice
  generalize hR : insL ltI x l = R at *
  generalize hM : l.length = M at *
  have HL := Go.Lib.hid hl
  have HR := Go.Lib.hid hR
  have HM := Go.Lib.hid hM
  have HIL := Go.Lib.hid hil
  have HIE := Go.Lib.hid hie
  have HNX := Go.Lib.hid hnx
  have HHE := Go.Lib.hid hhe
  have HEN := Go.Lib.hid hen
  clear hl hR hM hil hie hnx hhe hen
  go_enter Tryz.func22, Tryz.ntmps22
  go_wp2_with fail
  go_loopw [5] (fun j wq => wq = w ∧ ∃ jn : Nat, j = .int .i64 jn ∧ jn ≤ posL ltI x l) (fun j _ => M - (intOf j).toNat)
  case atStart => exact ⟨rfl, 0, rfl, Nat.zero_le _⟩
  case round =>
    obtain ⟨rfl, jn, rfl, hjn⟩ := hrel
    by_cases hjl : jn < M
    · have hjl2 : (jn : Int) < (M : Int) := by omega
      rcases HL.out.2 with ⟨_, hz⟩ | ⟨b2, cap', cur, hv, _⟩
      · omega
      obtain ⟨off2, hoff⟩ : ∃ o : Nat, o = 0 := ⟨0, rfl⟩
      rw [← hoff] at hv
      simp only [Value.slice.injEq] at hv
      obtain ⟨rfl, _, rfl⟩ := hv
      have hsx := SlC.of_owns HL.out
      obtain ⟨b3, off3, e, hbb, hcell⟩ := Ints.at (show Ints wr (.slice (some ⟨b2, off2, none⟩) M cv) l by unfold Ints; rw [HM.out]; exact hsx) (by rw [HM.out]; omega)
      simp only [Option.some.injEq, Addr.mk.injEq, and_true] at e
      obtain ⟨rfl, rfl⟩ := e
      have f0 := hcell jn (by rw [HM.out]; exact hjl)
      have hnx := HNX.out jn hjn hjl
      have hhe := HHE.out jn hjn
      have hie := fun h => HIE.out jn h hjl
      have hil := fun h h2 => HIL.out jn h (fun _ => h2)
      generalize l.getD jn 0 = y at *
      clear hcell hoff
      by_cases hlt : y < x
      · have hn1 := hnx hlt
        have HSX := Go.Lib.hid hsx
        have HN1 := Go.Lib.hid hn1
        clear hsx hn1
        clear hnx hhe hie hil
        go_wp2_with fail
        go_roundw
        case rel => exact ⟨by first | rfl | trivial, jn + 1, by go_num, HN1.out⟩
        case measure => simp [intOf]; omega
      · have hj := hhe (by omega)
        by_cases heq : y = x
        · have hr2 := hie hj heq
          have q0 : (y == x) = true := beq_iff_eq.2 heq
          have hres : wr.ownsRow B 3 1 (.slice (some ⟨b2, off2, none⟩) M cv) R.length (R.map (Value.int .i64)) := by
            rw [hr2, HM.out]; exact HL.out
          have HRES := Go.Lib.hid hres
          have HJ := Go.Lib.hid hj
          have HSX := Go.Lib.hid hsx
          have HR2 := Go.Lib.hid hr2
          have HEQ := Go.Lib.hid heq
          clear hres hj hsx hr2 heq
          clear hnx hhe hie hil
          go_wp2_with fail
          go_ret
          exact ⟨_, rfl, HRES.out, Below.refl _ _⟩
        · have hins := hil hj heq
          have q0 : (y == x) = false := beq_eq_false_iff_ne.2 heq
          have hsx2 := hsx
          have HJ := Go.Lib.hid hj
          have HINS := Go.Lib.hid hins
          have HEQ := Go.Lib.hid heq
          have HSX := Go.Lib.hid hsx
          clear hj hins heq hsx
          clear hnx hhe hie hil hsx2
          go_wp2_with fail
          obtain ⟨Fl, hFl⟩ : ∃ Fl, Fl = (l.take jn ++ [x] ++ l.drop jn).map (Value.int .i64) := ⟨_, rfl⟩
          have hjM : jn ≤ M := by omega
          have hlenO := HM.out
          have hif : InsF 1 jn M ((l.take jn).map (Value.int .i64)) ((l.drop jn).map (Value.int .i64)) Fl [.int .i64 x] := ⟨hjM, by rw [List.length_map, List.length_take]; omega, rfl, by rw [List.length_map, List.length_drop]; omega, by rw [hFl]; simp⟩
          obtain ⟨A2, hA, hA2⟩ : ∃ A2 : Option Addr, (if cv = jn then (some ⟨b2, off2, none⟩) else (some ⟨b2, off2 + jn, none⟩ : Option Addr)) = A2 ∧ SlC wr 1 (.slice A2 (M - jn) (cv - jn)) (M - jn) ((l.drop jn).map (Value.int .i64)) := ⟨_, rfl, sl1_from HSX.out hjM⟩
          have hs1 : SlC wr 1 (.slice (some ⟨b2, off2, none⟩) jn cv) jn ((l.take jn).map (Value.int .i64)) := sl1_to HSX.out hjM
          have hb6 : jn ≤ cv := by have := HSX.out; obtain ⟨_, _, _, e, h1, _⟩ := this; simp only [Value.slice.injEq] at e; omega
          have hb3 : (jn : Int) ≤ (M : Int) := by omega
          have hone1 : ∀ u ∈ (l.take jn).map (Value.int .i64), u.oneCell' = true := fun u hu => by
            obtain ⟨y, _, rfl⟩ := List.mem_map.1 hu
            rfl
          have hone2 : ∀ u ∈ (l.drop jn).map (Value.int .i64), u.oneCell' = true := fun u hu => by
            obtain ⟨y, _, rfl⟩ := List.mem_map.1 hu
            rfl
          have hone3 : ∀ u ∈ ([.int .i64 x] : List Value), u.oneCell' = true := fun u hu => by rw [List.mem_singleton] at hu; subst hu; rfl
          obtain ⟨Y, hY⟩ : ∃ Y, Y = wr := ⟨_, rfl⟩
          have hXY : Below wr.heap.size wr Y.drew := by rw [hY]; exact (Below.refl wr.heap.size wr).drew
          have hneG : Nonempty (Subtype (GA 3 1 wr.heap.size Fl [.int .i64 x] Y.drew)) := ⟨⟨Y.drew, GA.refl _ _ _ _⟩⟩
          have hin : ∀ W, GA 3 1 wr.heap.size Fl [.int .i64 x] Y.drew W → wr.heap.size ≤ W.heap.size ∧ Below wr.heap.size wr W := fun W h => by
            have h1 := h.bl.size
            have h2 := hXY.size
            exact ⟨by omega, hXY.trans h.bl⟩
          try rw [← hY]
          have HFL := Go.Lib.hid hFl
          have HLENO := Go.Lib.hid hlenO
          have HIF := Go.Lib.hid hif
          have HA2 := Go.Lib.hid hA2
          have HS1 := Go.Lib.hid hs1
          have HO1 := Go.Lib.hid hone1
          have HO2 := Go.Lib.hid hone2
          have HO3 := Go.Lib.hid hone3
          have HXY := Go.Lib.hid hXY
          have HIN2 := Go.Lib.hid hin
          clear hFl hlenO hif hA2 hs1 hone1 hone2 hone3 hXY hin
          clear hY
          refine Go.Mix.wp_region_mixD [0, 4, 6, 7, 11] 12 (GA 3 1 wr.heap.size Fl [.int .i64 x]) (FAdd 3 1 (0, 4, 6, 7, 11) wr.heap.size jn M Fl [.int .i64 x]) SAdd [(4, 0, 33), (7, 4, 37), (7, 6, 39), (11, 7, 40)] mixed (by kernel_rfl) (fun i e q hm => ?hz1) GA.trans (GA.refl _ _ _) (fun i v w w' h hg => h.stable HIF.out.hk HIF.out.len hg) SAdd.inh ?_
          case hz1 =>
            simp only [List.mem_cons, Prod.mk.injEq, List.not_mem_nil, or_false] at hm
            rcases hm with ⟨_, _, rfl⟩ | ⟨_, _, rfl⟩ | ⟨_, _, rfl⟩ | ⟨_, _, rfl⟩ <;> exact of_decide_eq_true rfl
          refine Go.Mix.mixD_eff rfl rfl (fun w7 hw7 hn7 => ?_) (fun v1 hv1 => ?_)
          · clear hn7
            obtain ⟨i1, i2⟩ := HIN2.out w7 hw7
            go_simp
            have hnew := World.alloc_heap_new w7 (.cells #[] 3)
            refine ⟨GA.of_below ((Below.refl _ _).alloc (Nat.le_refl _) _) i1, ⟨_, _, _, rfl⟩, ⟨fun _ => ⟨⟨by simp, .inr ⟨w7.heap.size, 0, #[], rfl, i1, hnew, Nat.le_refl _, Nat.zero_le _, rfl, by simp⟩⟩, fun _ => ⟨_, rfl⟩⟩, fun h => absurd h (by decide), fun h => absurd h (by decide), fun h => absurd h (by decide), fun h => absurd h (by decide)⟩⟩
          obtain ⟨a1, n1, c1', rfl⟩ := hv1
          iterate 3 (refine Go.Mix.mixD_step rfl (fun K hK => ?_); have HKK := Go.Lib.hid hK; clear hK; go_simp; refine HKK.out _ ?_; clear HKK K)
          refine Go.Mix.mixD_eff rfl rfl (fun w7 hw7 hn7 => ?_) (fun v8 hv8 => ?_)
          · have f1 : FOwn 3 1 wr.heap.size Fl 0 (.slice a1 n1 c1') w7 := (hn7 0 33 (by simp)).f0 rfl
            obtain ⟨i1, i2⟩ := HIN2.out w7 hw7
            obtain ⟨v', w', hr, g1, g2, a', c', rfl⟩ := app_effect eiIZ (sC := [.int .i64 x]) f1 i1 (HS1.out.below i2 (Nat.le_refl _)) HO1.out HIF.out.q1 (HIF.out.le _ (by omega)) (by unfold maxLen; omega) (by omega) 33
            simp only [Nat.zero_add] at hr g2
            exact effR_run (.tmp 33) (.tmp 36) rfl rfl rfl hr ⟨g1, ⟨_, _, _, rfl⟩, ⟨fun h => absurd h (by decide), fun _ => g2, fun h => absurd h (by decide), fun h => absurd h (by decide), fun h => absurd h (by decide)⟩⟩
          obtain ⟨a8, n8, c8, rfl⟩ := hv8
          iterate 1 (refine Go.Mix.mixD_step rfl (fun K hK => ?_); have HKK := Go.Lib.hid hK; clear hK; go_simp; refine HKK.out _ ?_; clear HKK K)
          refine Go.Mix.mixD_eff rfl rfl (fun w7 hw7 hn7 => ?_) (fun v10 hv10 => ?_)
          · clear hn7
            obtain ⟨i1, i2⟩ := HIN2.out w7 hw7
            go_simp
            have hnew := World.alloc_heap_new w7 (.cells #[.int .i64 x] 3)
            refine ⟨GA.of_below ((Below.refl _ _).alloc (Nat.le_refl _) _) i1, ⟨_, _, _, rfl⟩, ⟨fun h => absurd h (by decide), fun h => absurd h (by decide), fun _ => ⟨w7.heap.size, rfl, i1, _, hnew, rfl, rfl⟩, fun h => absurd h (by decide), fun h => absurd h (by decide)⟩⟩
          obtain ⟨a10, n10, c10, rfl⟩ := hv10
          refine Go.Mix.mixD_eff rfl rfl (fun w7 hw7 hn7 => ?_) (fun v11 hv11 => ?_)
          · have f8 : FOwn 3 1 wr.heap.size Fl jn (.slice a8 n8 c8) w7 := (hn7 4 37 (by simp)).f1 rfl
            have f10 : FNew 3 1 wr.heap.size [.int .i64 x] (.slice a10 n10 c10) w7 := (hn7 6 39 (by simp)).f2 rfl
            obtain ⟨i1, i2⟩ := HIN2.out w7 hw7
            obtain ⟨v', w', hr, g1, g2, a', c', rfl⟩ := app_effect eiIZ (sC := [.int .i64 x]) f8 i1 (f10.slc rfl) HO3.out HIF.out.q2 (HIF.out.le _ (by omega)) (by unfold maxLen; omega) (by omega) 33
            exact effR_run (.tmp 37) (.tmp 39) rfl rfl rfl hr ⟨g1, ⟨_, _, _, rfl⟩, ⟨fun h => absurd h (by decide), fun h => absurd h (by decide), fun h => absurd h (by decide), fun _ => g2, fun h => absurd h (by decide)⟩⟩
          obtain ⟨a11, n11, c11, rfl⟩ := hv11
          iterate 3 (refine Go.Mix.mixD_step rfl (fun K hK => ?_); have HKK := Go.Lib.hid hK; clear hK; go_simp; refine HKK.out _ ?_; clear HKK K)
          refine Go.Mix.mixD_eff rfl rfl (fun w7 hw7 hn7 => ?_) (fun v18 hv18 => ?_)
          · have f11 : FOwn 3 1 wr.heap.size Fl (jn + 1) (.slice a11 n11 c11) w7 := (hn7 7 40 (by simp)).f3 rfl
            obtain ⟨i1, i2⟩ := HIN2.out w7 hw7
            obtain ⟨v', w', hr, g1, g2, a', c', rfl⟩ := app_effect eiIZ (sC := [.int .i64 x]) f11 i1 (HA2.out.below i2 (Nat.le_refl _)) HO2.out HIF.out.q3 (HIF.out.le _ (by omega)) (by unfold maxLen; omega) (by omega) 33
            exact effR_run (.tmp 40) (.tmp 43) rfl rfl rfl hr ⟨g1, ⟨_, _, _, rfl⟩, ⟨fun h => absurd h (by decide), fun h => absurd h (by decide), fun h => absurd h (by decide), fun h => absurd h (by decide), fun _ => g2⟩⟩
          obtain ⟨a18, n18, c18, rfl⟩ := hv18
          refine Go.Mix.mixD_last rfl (fun w9 hg9 hP K hK => ?_)
          have f18 : FOwn 3 1 wr.heap.size Fl (jn + 1 + (M - jn)) (.slice a18 n18 c18) w9 := hP.2.f4 rfl
          clear hP
          obtain ⟨i1, i2⟩ := HIN2.out w9 hg9
          have hres : w9.ownsRow wr.heap.size 3 1 (.slice a18 n18 c18) (R).length ((R).map (Value.int .i64)) := by
            have e : (l.take jn ++ [x] ++ l.drop jn).length = M + 1 := by have := HLENO.out; rw [List.length_append, List.length_append, List.length_take, List.length_drop]; simp only [List.length_cons, List.length_nil]; omega
            have h := f18.1
            rw [show jn + 1 + (M - jn) = M + 1 by omega, List.take_of_length_le (by rw [HIF.out.len]; exact Nat.le_refl _)] at h
            rw [HINS.out, ← HFL.out, e]
            exact h
          have HKK := Go.Lib.hid hK
          have HB9 := Go.Lib.hid i2
          have HRES := Go.Lib.hid hres
          clear hK i2 hres
          clear f18 hg9 hneG i1
          rw [if_pos (show Region.wanted _ _ = true from rfl)]
          go_simp
          refine HKK.out _ _ ?_
          clear HKK K
          go_wp2_with fail
          go_ret
          exact ⟨_, rfl, owns_base HRES.out hB, HB9.out⟩
    · have hjl2 : ¬ (jn : Int) < (M : Int) := by omega
      have hj := HEN.out jn hjn (by exact hjl)
      have hins := HIL.out jn hj (fun h => absurd h hjl)
      have hpl := hpb
      have HJ := Go.Lib.hid hj
      have HINS := Go.Lib.hid hins
      clear hj hins
      rcases HL.out.2 with ⟨hv, hn0⟩ | ⟨b2, cap', cur, hv, _⟩
      · simp only [Value.slice.injEq] at hv
        obtain ⟨rfl, rfl, rfl⟩ := hv
        obtain rfl : jn = 0 := by omega
        go_wp2_with fail
        obtain ⟨Fl, hFl⟩ : ∃ Fl, Fl = (l.take 0 ++ [x] ++ l.drop 0).map (Value.int .i64) := ⟨_, rfl⟩
        have hjM : 0 ≤ 0 := by omega
        have hlenO := HM.out
        have hif : InsF 1 0 0 ((l.take 0).map (Value.int .i64)) ((l.drop 0).map (Value.int .i64)) Fl [.int .i64 x] := ⟨hjM, by rw [List.length_map, List.length_take]; omega, rfl, by rw [List.length_map, List.length_drop]; omega, by rw [hFl]; simp⟩
        have hO0 : l = [] := List.eq_nil_of_length_eq_zero HM.out
        have hA2 : SlC wr 1 (.slice none 0 0) (0 - 0) ((l.drop 0).map (Value.int .i64)) := by rw [hO0]; exact SlC.nil _ _
        have hs1 : SlC wr 1 (.slice none 0 0) 0 ((l.take 0).map (Value.int .i64)) := by rw [hO0]; exact SlC.nil _ _
        clear hO0
        have hb6 : 0 ≤ 0 := by omega
        have hb3 : (0 : Int) ≤ (0 : Int) := by omega
        have hone1 : ∀ u ∈ (l.take 0).map (Value.int .i64), u.oneCell' = true := fun u hu => by
          obtain ⟨y, _, rfl⟩ := List.mem_map.1 hu
          rfl
        have hone2 : ∀ u ∈ (l.drop 0).map (Value.int .i64), u.oneCell' = true := fun u hu => by
          obtain ⟨y, _, rfl⟩ := List.mem_map.1 hu
          rfl
        have hone3 : ∀ u ∈ ([.int .i64 x] : List Value), u.oneCell' = true := fun u hu => by rw [List.mem_singleton] at hu; subst hu; rfl
        obtain ⟨Y, hY⟩ : ∃ Y, Y = wr := ⟨_, rfl⟩
        have hXY : Below wr.heap.size wr Y.drew := by rw [hY]; exact (Below.refl wr.heap.size wr).drew
        have hneG : Nonempty (Subtype (GA 3 1 wr.heap.size Fl [.int .i64 x] Y.drew)) := ⟨⟨Y.drew, GA.refl _ _ _ _⟩⟩
        have hin : ∀ W, GA 3 1 wr.heap.size Fl [.int .i64 x] Y.drew W → wr.heap.size ≤ W.heap.size ∧ Below wr.heap.size wr W := fun W h => by
          have h1 := h.bl.size
          have h2 := hXY.size
          exact ⟨by omega, hXY.trans h.bl⟩
        try rw [← hY]
        have HFL := Go.Lib.hid hFl
        have HLENO := Go.Lib.hid hlenO
        have HIF := Go.Lib.hid hif
        have HA2 := Go.Lib.hid hA2
        have HS1 := Go.Lib.hid hs1
        have HO1 := Go.Lib.hid hone1
        have HO2 := Go.Lib.hid hone2
        have HO3 := Go.Lib.hid hone3
        have HXY := Go.Lib.hid hXY
        have HIN2 := Go.Lib.hid hin
        clear hFl hlenO hif hA2 hs1 hone1 hone2 hone3 hXY hin
        clear hY
        refine Go.Mix.wp_region_mixD [0, 4, 6, 7, 11] 12 (GA 3 1 wr.heap.size Fl [.int .i64 x]) (FAdd 3 1 (0, 4, 6, 7, 11) wr.heap.size 0 0 Fl [.int .i64 x]) SAdd [(4, 0, 33), (7, 4, 37), (7, 6, 39), (11, 7, 40)] mixed (by kernel_rfl) (fun i e q hm => ?hz2) GA.trans (GA.refl _ _ _) (fun i v w w' h hg => h.stable HIF.out.hk HIF.out.len hg) SAdd.inh ?_
        case hz2 =>
          simp only [List.mem_cons, Prod.mk.injEq, List.not_mem_nil, or_false] at hm
          rcases hm with ⟨_, _, rfl⟩ | ⟨_, _, rfl⟩ | ⟨_, _, rfl⟩ | ⟨_, _, rfl⟩ <;> exact of_decide_eq_true rfl
        refine Go.Mix.mixD_eff rfl rfl (fun w7 hw7 hn7 => ?_) (fun v1 hv1 => ?_)
        · clear hn7
          obtain ⟨i1, i2⟩ := HIN2.out w7 hw7
          go_simp
          have hnew := World.alloc_heap_new w7 (.cells #[] 3)
          refine ⟨GA.of_below ((Below.refl _ _).alloc (Nat.le_refl _) _) i1, ⟨_, _, _, rfl⟩, ⟨fun _ => ⟨⟨by simp, .inr ⟨w7.heap.size, 0, #[], rfl, i1, hnew, Nat.le_refl _, Nat.zero_le _, rfl, by simp⟩⟩, fun _ => ⟨_, rfl⟩⟩, fun h => absurd h (by decide), fun h => absurd h (by decide), fun h => absurd h (by decide), fun h => absurd h (by decide)⟩⟩
        obtain ⟨a1, n1, c1', rfl⟩ := hv1
        iterate 3 (refine Go.Mix.mixD_step rfl (fun K hK => ?_); have HKK := Go.Lib.hid hK; clear hK; go_simp; refine HKK.out _ ?_; clear HKK K)
        refine Go.Mix.mixD_eff rfl rfl (fun w7 hw7 hn7 => ?_) (fun v8 hv8 => ?_)
        · have f1 : FOwn 3 1 wr.heap.size Fl 0 (.slice a1 n1 c1') w7 := (hn7 0 33 (by simp)).f0 rfl
          obtain ⟨i1, i2⟩ := HIN2.out w7 hw7
          obtain ⟨v', w', hr, g1, g2, a', c', rfl⟩ := app_effect eiIZ (sC := [.int .i64 x]) f1 i1 (HS1.out.below i2 (Nat.le_refl _)) HO1.out HIF.out.q1 (HIF.out.le _ (by omega)) (by unfold maxLen; omega) (by omega) 33
          simp only [Nat.zero_add] at hr g2
          exact effR_run (.tmp 33) (.tmp 36) rfl rfl rfl hr ⟨g1, ⟨_, _, _, rfl⟩, ⟨fun h => absurd h (by decide), fun _ => g2, fun h => absurd h (by decide), fun h => absurd h (by decide), fun h => absurd h (by decide)⟩⟩
        obtain ⟨a8, n8, c8, rfl⟩ := hv8
        iterate 1 (refine Go.Mix.mixD_step rfl (fun K hK => ?_); have HKK := Go.Lib.hid hK; clear hK; go_simp; refine HKK.out _ ?_; clear HKK K)
        refine Go.Mix.mixD_eff rfl rfl (fun w7 hw7 hn7 => ?_) (fun v10 hv10 => ?_)
        · clear hn7
          obtain ⟨i1, i2⟩ := HIN2.out w7 hw7
          go_simp
          have hnew := World.alloc_heap_new w7 (.cells #[.int .i64 x] 3)
          refine ⟨GA.of_below ((Below.refl _ _).alloc (Nat.le_refl _) _) i1, ⟨_, _, _, rfl⟩, ⟨fun h => absurd h (by decide), fun h => absurd h (by decide), fun _ => ⟨w7.heap.size, rfl, i1, _, hnew, rfl, rfl⟩, fun h => absurd h (by decide), fun h => absurd h (by decide)⟩⟩
        obtain ⟨a10, n10, c10, rfl⟩ := hv10
        refine Go.Mix.mixD_eff rfl rfl (fun w7 hw7 hn7 => ?_) (fun v11 hv11 => ?_)
        · have f8 : FOwn 3 1 wr.heap.size Fl 0 (.slice a8 n8 c8) w7 := (hn7 4 37 (by simp)).f1 rfl
          have f10 : FNew 3 1 wr.heap.size [.int .i64 x] (.slice a10 n10 c10) w7 := (hn7 6 39 (by simp)).f2 rfl
          obtain ⟨i1, i2⟩ := HIN2.out w7 hw7
          obtain ⟨v', w', hr, g1, g2, a', c', rfl⟩ := app_effect eiIZ (sC := [.int .i64 x]) f8 i1 (f10.slc rfl) HO3.out HIF.out.q2 (HIF.out.le _ (by omega)) (by unfold maxLen; omega) (by omega) 33
          exact effR_run (.tmp 37) (.tmp 39) rfl rfl rfl hr ⟨g1, ⟨_, _, _, rfl⟩, ⟨fun h => absurd h (by decide), fun h => absurd h (by decide), fun h => absurd h (by decide), fun _ => g2, fun h => absurd h (by decide)⟩⟩
        obtain ⟨a11, n11, c11, rfl⟩ := hv11
        iterate 3 (refine Go.Mix.mixD_step rfl (fun K hK => ?_); have HKK := Go.Lib.hid hK; clear hK; go_simp; refine HKK.out _ ?_; clear HKK K)
        refine Go.Mix.mixD_eff rfl rfl (fun w7 hw7 hn7 => ?_) (fun v18 hv18 => ?_)
        · have f11 : FOwn 3 1 wr.heap.size Fl (0 + 1) (.slice a11 n11 c11) w7 := (hn7 7 40 (by simp)).f3 rfl
          obtain ⟨i1, i2⟩ := HIN2.out w7 hw7
          obtain ⟨v', w', hr, g1, g2, a', c', rfl⟩ := app_effect eiIZ (sC := [.int .i64 x]) f11 i1 (HA2.out.below i2 (Nat.le_refl _)) HO2.out HIF.out.q3 (HIF.out.le _ (by omega)) (by unfold maxLen; omega) (by omega) 33
          exact effR_run (.tmp 40) (.tmp 43) rfl rfl rfl hr ⟨g1, ⟨_, _, _, rfl⟩, ⟨fun h => absurd h (by decide), fun h => absurd h (by decide), fun h => absurd h (by decide), fun h => absurd h (by decide), fun _ => g2⟩⟩
        obtain ⟨a18, n18, c18, rfl⟩ := hv18
        refine Go.Mix.mixD_last rfl (fun w9 hg9 hP K hK => ?_)
        have f18 : FOwn 3 1 wr.heap.size Fl (0 + 1 + (0 - 0)) (.slice a18 n18 c18) w9 := hP.2.f4 rfl
        clear hP
        obtain ⟨i1, i2⟩ := HIN2.out w9 hg9
        have hres : w9.ownsRow wr.heap.size 3 1 (.slice a18 n18 c18) (R).length ((R).map (Value.int .i64)) := by
          have e : (l.take 0 ++ [x] ++ l.drop 0).length = 0 + 1 := by have := HLENO.out; rw [List.length_append, List.length_append, List.length_take, List.length_drop]; simp only [List.length_cons, List.length_nil]; omega
          have h := f18.1
          rw [show 0 + 1 + (0 - 0) = 0 + 1 by omega, List.take_of_length_le (by rw [HIF.out.len]; exact Nat.le_refl _)] at h
          rw [HINS.out, ← HFL.out, e]
          exact h
        have HKK := Go.Lib.hid hK
        have HB9 := Go.Lib.hid i2
        have HRES := Go.Lib.hid hres
        clear hK i2 hres
        clear f18 hg9 hneG i1
        rw [if_pos (show Region.wanted _ _ = true from rfl)]
        go_simp
        refine HKK.out _ _ ?_
        clear HKK K
        go_wp2_with fail
        go_ret
        exact ⟨_, rfl, owns_base HRES.out hB, HB9.out⟩
      · obtain ⟨off2, hoff⟩ : ∃ o : Nat, o = 0 := ⟨0, rfl⟩
        rw [← hoff] at hv
        simp only [Value.slice.injEq] at hv
        obtain ⟨rfl, _, rfl⟩ := hv
        have hsx := SlC.of_owns HL.out
        have HSX := Go.Lib.hid hsx
        clear hsx
        clear hoff
        go_wp2_with fail
        obtain ⟨Fl, hFl⟩ : ∃ Fl, Fl = (l.take jn ++ [x] ++ l.drop jn).map (Value.int .i64) := ⟨_, rfl⟩
        have hjM : jn ≤ M := by omega
        have hlenO := HM.out
        have hif : InsF 1 jn M ((l.take jn).map (Value.int .i64)) ((l.drop jn).map (Value.int .i64)) Fl [.int .i64 x] := ⟨hjM, by rw [List.length_map, List.length_take]; omega, rfl, by rw [List.length_map, List.length_drop]; omega, by rw [hFl]; simp⟩
        obtain ⟨A2, hA, hA2⟩ : ∃ A2 : Option Addr, (if cv = jn then (some ⟨b2, off2, none⟩) else (some ⟨b2, off2 + jn, none⟩ : Option Addr)) = A2 ∧ SlC wr 1 (.slice A2 (M - jn) (cv - jn)) (M - jn) ((l.drop jn).map (Value.int .i64)) := ⟨_, rfl, sl1_from HSX.out hjM⟩
        have hs1 : SlC wr 1 (.slice (some ⟨b2, off2, none⟩) jn cv) jn ((l.take jn).map (Value.int .i64)) := sl1_to HSX.out hjM
        have hb6 : jn ≤ cv := by have := HSX.out; obtain ⟨_, _, _, e, h1, _⟩ := this; simp only [Value.slice.injEq] at e; omega
        have hb3 : (jn : Int) ≤ (M : Int) := by omega
        have hone1 : ∀ u ∈ (l.take jn).map (Value.int .i64), u.oneCell' = true := fun u hu => by
          obtain ⟨y, _, rfl⟩ := List.mem_map.1 hu
          rfl
        have hone2 : ∀ u ∈ (l.drop jn).map (Value.int .i64), u.oneCell' = true := fun u hu => by
          obtain ⟨y, _, rfl⟩ := List.mem_map.1 hu
          rfl
        have hone3 : ∀ u ∈ ([.int .i64 x] : List Value), u.oneCell' = true := fun u hu => by rw [List.mem_singleton] at hu; subst hu; rfl
        obtain ⟨Y, hY⟩ : ∃ Y, Y = wr := ⟨_, rfl⟩
        have hXY : Below wr.heap.size wr Y.drew := by rw [hY]; exact (Below.refl wr.heap.size wr).drew
        have hneG : Nonempty (Subtype (GA 3 1 wr.heap.size Fl [.int .i64 x] Y.drew)) := ⟨⟨Y.drew, GA.refl _ _ _ _⟩⟩
        have hin : ∀ W, GA 3 1 wr.heap.size Fl [.int .i64 x] Y.drew W → wr.heap.size ≤ W.heap.size ∧ Below wr.heap.size wr W := fun W h => by
          have h1 := h.bl.size
          have h2 := hXY.size
          exact ⟨by omega, hXY.trans h.bl⟩
        try rw [← hY]
        have HFL := Go.Lib.hid hFl
        have HLENO := Go.Lib.hid hlenO
        have HIF := Go.Lib.hid hif
        have HA2 := Go.Lib.hid hA2
        have HS1 := Go.Lib.hid hs1
        have HO1 := Go.Lib.hid hone1
        have HO2 := Go.Lib.hid hone2
        have HO3 := Go.Lib.hid hone3
        have HXY := Go.Lib.hid hXY
        have HIN2 := Go.Lib.hid hin
        clear hFl hlenO hif hA2 hs1 hone1 hone2 hone3 hXY hin
        clear hY
        refine Go.Mix.wp_region_mixD [0, 4, 6, 7, 11] 12 (GA 3 1 wr.heap.size Fl [.int .i64 x]) (FAdd 3 1 (0, 4, 6, 7, 11) wr.heap.size jn M Fl [.int .i64 x]) SAdd [(4, 0, 33), (7, 4, 37), (7, 6, 39), (11, 7, 40)] mixed (by kernel_rfl) (fun i e q hm => ?hz3) GA.trans (GA.refl _ _ _) (fun i v w w' h hg => h.stable HIF.out.hk HIF.out.len hg) SAdd.inh ?_
        case hz3 =>
          simp only [List.mem_cons, Prod.mk.injEq, List.not_mem_nil, or_false] at hm
          rcases hm with ⟨_, _, rfl⟩ | ⟨_, _, rfl⟩ | ⟨_, _, rfl⟩ | ⟨_, _, rfl⟩ <;> exact of_decide_eq_true rfl
        refine Go.Mix.mixD_eff rfl rfl (fun w7 hw7 hn7 => ?_) (fun v1 hv1 => ?_)
        · clear hn7
          obtain ⟨i1, i2⟩ := HIN2.out w7 hw7
          go_simp
          have hnew := World.alloc_heap_new w7 (.cells #[] 3)
          refine ⟨GA.of_below ((Below.refl _ _).alloc (Nat.le_refl _) _) i1, ⟨_, _, _, rfl⟩, ⟨fun _ => ⟨⟨by simp, .inr ⟨w7.heap.size, 0, #[], rfl, i1, hnew, Nat.le_refl _, Nat.zero_le _, rfl, by simp⟩⟩, fun _ => ⟨_, rfl⟩⟩, fun h => absurd h (by decide), fun h => absurd h (by decide), fun h => absurd h (by decide), fun h => absurd h (by decide)⟩⟩
        obtain ⟨a1, n1, c1', rfl⟩ := hv1
        iterate 3 (refine Go.Mix.mixD_step rfl (fun K hK => ?_); have HKK := Go.Lib.hid hK; clear hK; go_simp; refine HKK.out _ ?_; clear HKK K)
        refine Go.Mix.mixD_eff rfl rfl (fun w7 hw7 hn7 => ?_) (fun v8 hv8 => ?_)
        · have f1 : FOwn 3 1 wr.heap.size Fl 0 (.slice a1 n1 c1') w7 := (hn7 0 33 (by simp)).f0 rfl
          obtain ⟨i1, i2⟩ := HIN2.out w7 hw7
          obtain ⟨v', w', hr, g1, g2, a', c', rfl⟩ := app_effect eiIZ (sC := [.int .i64 x]) f1 i1 (HS1.out.below i2 (Nat.le_refl _)) HO1.out HIF.out.q1 (HIF.out.le _ (by omega)) (by unfold maxLen; omega) (by omega) 33
          simp only [Nat.zero_add] at hr g2
          exact effR_run (.tmp 33) (.tmp 36) rfl rfl rfl hr ⟨g1, ⟨_, _, _, rfl⟩, ⟨fun h => absurd h (by decide), fun _ => g2, fun h => absurd h (by decide), fun h => absurd h (by decide), fun h => absurd h (by decide)⟩⟩
        obtain ⟨a8, n8, c8, rfl⟩ := hv8
        iterate 1 (refine Go.Mix.mixD_step rfl (fun K hK => ?_); have HKK := Go.Lib.hid hK; clear hK; go_simp; refine HKK.out _ ?_; clear HKK K)
        refine Go.Mix.mixD_eff rfl rfl (fun w7 hw7 hn7 => ?_) (fun v10 hv10 => ?_)
        · clear hn7
          obtain ⟨i1, i2⟩ := HIN2.out w7 hw7
          go_simp
          have hnew := World.alloc_heap_new w7 (.cells #[.int .i64 x] 3)
          refine ⟨GA.of_below ((Below.refl _ _).alloc (Nat.le_refl _) _) i1, ⟨_, _, _, rfl⟩, ⟨fun h => absurd h (by decide), fun h => absurd h (by decide), fun _ => ⟨w7.heap.size, rfl, i1, _, hnew, rfl, rfl⟩, fun h => absurd h (by decide), fun h => absurd h (by decide)⟩⟩
        obtain ⟨a10, n10, c10, rfl⟩ := hv10
        refine Go.Mix.mixD_eff rfl rfl (fun w7 hw7 hn7 => ?_) (fun v11 hv11 => ?_)
        · have f8 : FOwn 3 1 wr.heap.size Fl jn (.slice a8 n8 c8) w7 := (hn7 4 37 (by simp)).f1 rfl
          have f10 : FNew 3 1 wr.heap.size [.int .i64 x] (.slice a10 n10 c10) w7 := (hn7 6 39 (by simp)).f2 rfl
          obtain ⟨i1, i2⟩ := HIN2.out w7 hw7
          obtain ⟨v', w', hr, g1, g2, a', c', rfl⟩ := app_effect eiIZ (sC := [.int .i64 x]) f8 i1 (f10.slc rfl) HO3.out HIF.out.q2 (HIF.out.le _ (by omega)) (by unfold maxLen; omega) (by omega) 33
          exact effR_run (.tmp 37) (.tmp 39) rfl rfl rfl hr ⟨g1, ⟨_, _, _, rfl⟩, ⟨fun h => absurd h (by decide), fun h => absurd h (by decide), fun h => absurd h (by decide), fun _ => g2, fun h => absurd h (by decide)⟩⟩
        obtain ⟨a11, n11, c11, rfl⟩ := hv11
        iterate 3 (refine Go.Mix.mixD_step rfl (fun K hK => ?_); have HKK := Go.Lib.hid hK; clear hK; go_simp; refine HKK.out _ ?_; clear HKK K)
        refine Go.Mix.mixD_eff rfl rfl (fun w7 hw7 hn7 => ?_) (fun v18 hv18 => ?_)
        · have f11 : FOwn 3 1 wr.heap.size Fl (jn + 1) (.slice a11 n11 c11) w7 := (hn7 7 40 (by simp)).f3 rfl
          obtain ⟨i1, i2⟩ := HIN2.out w7 hw7
          obtain ⟨v', w', hr, g1, g2, a', c', rfl⟩ := app_effect eiIZ (sC := [.int .i64 x]) f11 i1 (HA2.out.below i2 (Nat.le_refl _)) HO2.out HIF.out.q3 (HIF.out.le _ (by omega)) (by unfold maxLen; omega) (by omega) 33
          exact effR_run (.tmp 40) (.tmp 43) rfl rfl rfl hr ⟨g1, ⟨_, _, _, rfl⟩, ⟨fun h => absurd h (by decide), fun h => absurd h (by decide), fun h => absurd h (by decide), fun h => absurd h (by decide), fun _ => g2⟩⟩
        obtain ⟨a18, n18, c18, rfl⟩ := hv18
        refine Go.Mix.mixD_last rfl (fun w9 hg9 hP K hK => ?_)
        have f18 : FOwn 3 1 wr.heap.size Fl (jn + 1 + (M - jn)) (.slice a18 n18 c18) w9 := hP.2.f4 rfl
        clear hP
        obtain ⟨i1, i2⟩ := HIN2.out w9 hg9
        have hres : w9.ownsRow wr.heap.size 3 1 (.slice a18 n18 c18) (R).length ((R).map (Value.int .i64)) := by
          have e : (l.take jn ++ [x] ++ l.drop jn).length = M + 1 := by have := HLENO.out; rw [List.length_append, List.length_append, List.length_take, List.length_drop]; simp only [List.length_cons, List.length_nil]; omega
          have h := f18.1
          rw [show jn + 1 + (M - jn) = M + 1 by omega, List.take_of_length_le (by rw [HIF.out.len]; exact Nat.le_refl _)] at h
          rw [HINS.out, ← HFL.out, e]
          exact h
        have HKK := Go.Lib.hid hK
        have HB9 := Go.Lib.hid i2
        have HRES := Go.Lib.hid hres
        clear hK i2 hres
        clear f18 hg9 hneG i1
        rw [if_pos (show Region.wanted _ _ = true from rfl)]
        go_simp
        refine HKK.out _ _ ?_
        clear HKK K
        go_wp2_with fail
        go_ret
        exact ⟨_, rfl, owns_base HRES.out hB, HB9.out⟩
end Go.Proofs.YtgbmclgnbbhcbaaGreat

