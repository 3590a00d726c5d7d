/- Words that all walks of this seat use: texts as lists of bytes, what a slice reads as, and the step from a walk to a statement. No conditions. -/
import Derived.Test.YtblbphnmflbepaaRows
import Derived.Test.YtblbphnmflbepaaOrd
import Derived.WalkKit
import Derived.ProofKit
import Derived.OpenShut
import Derived.ShutString
import Derived.ChangeOld
import Derived.WalkLawsBesides
import Derived.WalkSpells
import Derived.SizedLaws
import Derived.DataElems
import Derived.Lib.Hide
import Derived.Lib.Strings
namespace Go.Proofs.Ytblbphnmflbepaa
open Go.ChangeShapes Go.WideShapes Go.ChangeAt Go.RowKit
open Go.ChangeMaps (open_string shut_string)

theorem mixed : Try.prog.follows .mixedOrders = true := by kernel_rfl
theorem own : ownKnob Try.prog.godebug = none := by kernel_rfl
theorem laidOut : laidOutB Try.prog = true := by kernel_rfl
theorem underBool : Try.prog.underlying 4 = some .bool := by kernel_rfl

theorem ret_int {k : IntKind} {a b : Int} (h : a = b) : Ending.returned (.int k a) = .returned (.int k b) := by rw [h]
theorem ret_bool {a b : Bool} (h : a = b) : Ending.returned (.bool a) = .returned (.bool b) := by rw [h]
theorem ret_str {a b : ByteArray} (h : a = b) : Ending.returned (.string a) = .returned (.string b) := by rw [h]

/-- a number fits int -/
def Fits (a : Int) : Prop := -9223372036854775808 ≤ a ∧ a ≤ 9223372036854775807

/-! ### texts -/
def bl (s : ByteArray) : List UInt8 := s.data.toList
def mk (l : List UInt8) : ByteArray := ⟨l.toArray⟩
theorem bl_mk (l : List UInt8) : bl (mk l) = l := by simp [bl, mk]
theorem mk_bl (s : ByteArray) : mk (bl s) = s := by simp [bl, mk]
theorem bl_inj {a b : ByteArray} (h : bl a = bl b) : a = b := by rw [← mk_bl a, ← mk_bl b, h]
theorem size_bl (s : ByteArray) : s.size = (bl s).length := Go.Lib.size_eq s
theorem size_mk (l : List UInt8) : (mk l).size = l.length := by rw [size_bl, bl_mk]
theorem toList_bl (s : ByteArray) : s.toList = bl s := by
  have h := Go.Lib.extract_toList s 0 s.size
  have h2 : s.extract 0 s.size = s := ByteArray.extract_zero_size
  rw [h2] at h
  rw [h]
  simp only [List.drop_zero, Nat.sub_zero]
  exact List.take_of_length_le (by rw [Go.Lib.size_eq]; exact Nat.le_refl _)
theorem bl_extract (s : ByteArray) (a b : Nat) : bl (s.extract a b) = ((bl s).drop a).take (b - a) := Go.Lib.extract_data s a b
theorem bl_append (a b : ByteArray) : bl (a ++ b) = bl a ++ bl b := by
  simp [bl]
theorem get_bl (s : ByteArray) (k : Nat) (h : k < s.size) : s[k] = (bl s)[k]'(by rw [← size_bl]; exact h) := by
  rfl

/-! ### slices: what one reads as, cell by cell -/
/-- the slice v has n elements of sz cells each: the cells cs -/
def SlC (w : World) (sz : Nat) (v : Value) (n : Nat) (cs : List Value) : Prop :=
  cs.length = n * sz ∧ ∃ a cap, v = .slice a n cap ∧ n ≤ cap ∧ cap ≤ maxLen ∧ (a = none → cap = 0) ∧
    (n = 0 ∨ ∃ b off, a = some ⟨b, off, none⟩ ∧ b < w.heap.size ∧ ∀ j, j < n * sz → w.cell? ⟨b, off + j, none⟩ = cs[j]?)

theorem SlC.below {B : Nat} {w w' : World} {sz n : Nat} {v : Value} {cs : List Value} (h : SlC w sz v n cs) (hb : Below B w w') (hB : w.heap.size ≤ B) : SlC w' sz v n cs := by
  obtain ⟨h1, a, cap, hv, h2, h3, hz, h4⟩ := h
  refine ⟨h1, a, cap, hv, h2, h3, hz, ?_⟩
  rcases h4 with h4 | ⟨b, off, ha, hlt, h4⟩
  · exact .inl h4
  · exact .inr ⟨b, off, ha, by have := hb.size; omega, fun j hj => by rw [hb.cell (p := ⟨b, off + j, none⟩) (by show b < B; omega)]; exact h4 j hj⟩

theorem SlC.nil (w : World) (sz : Nat) : SlC w sz (.slice none 0 0) 0 [] := ⟨by simp, none, 0, rfl, Nat.le_refl _, Nat.zero_le _, fun _ => rfl, .inl rfl⟩

theorem SlC.of_owns {w : World} {base e sz n : Nat} {v : Value} {cs : List Value} (h : w.ownsRow base e sz v n cs) : SlC w sz v n cs := by
  have hl := h.lt
  obtain ⟨h1, h2⟩ := h
  refine ⟨h1, ?_⟩
  rcases h2 with ⟨rfl, rfl⟩ | ⟨g, cap, cur, rfl, _, hg, hn, hm, hs, ht⟩
  · exact ⟨none, 0, rfl, Nat.le_refl _, Nat.zero_le _, fun _ => rfl, .inl rfl⟩
  · refine ⟨_, _, rfl, hn, hm, fun h => (by cases h), .inr ⟨g, 0, rfl, (hl g rfl).2, fun j hj => ?_⟩⟩
    rw [cell_of_row w g (0 + j) cur e (0, 0) hg, ← ht, List.getElem?_take]
    simp [hj]

theorem SlC.drew {w : World} {sz n : Nat} {v : Value} {cs : List Value} (h : SlC w sz v n cs) : SlC w.drew sz v n cs := h

/-- two slices' places behind 'Below' -/
theorem SlC.slice {w : World} {sz n : Nat} {v : Value} {cs : List Value} (h : SlC w sz v n cs) : ∃ a cap, v = .slice a n cap ∧ n ≤ cap ∧ cap ≤ maxLen := by
  obtain ⟨_, a, cap, hv, h2, h3, _, _⟩ := h
  exact ⟨a, cap, hv, h2, h3⟩

theorem SlC.cap {w : World} {sz n : Nat} {a : Option Addr} {m cap : Nat} {cs : List Value} (h : SlC w sz (.slice a m cap) n cs) : m = n ∧ n ≤ cap ∧ cap ≤ maxLen := by
  obtain ⟨_, a', cap', hv, h1, h2, _, _⟩ := h
  simp only [Value.slice.injEq] at hv
  obtain ⟨_, rfl, rfl⟩ := hv
  exact ⟨rfl, h1, h2⟩

theorem SlC.at {w : World} {sz n : Nat} {a : Option Addr} {m cap : Nat} {cs : List Value} (h : SlC w sz (.slice a m cap) n cs) (hn : 0 < n) :
    m = n ∧ ∃ b off, a = some ⟨b, off, none⟩ ∧ b < w.heap.size ∧ ∀ j, j < n * sz → w.cell? ⟨b, off + j, none⟩ = cs[j]? := by
  obtain ⟨_, a', cap', hv, _, _, _, h4⟩ := h
  cases hv
  rcases h4 with h4 | ⟨b, off, ha, hlt, h4⟩
  · omega
  · exact ⟨rfl, b, off, ha, hlt, h4⟩

/-- a piece of a slice -/
theorem SlC.sub {w : World} {sz n : Nat} {b off cap : Nat} {cs : List Value} (h : SlC w sz (.slice (some ⟨b, off, none⟩) n cap) n cs) {i j : Nat} (hij : i ≤ j) (hj : j ≤ n) {a' : Option Addr}
    (ha : i < j → a' = some ⟨b, off + i * sz, none⟩) (hz : a' = none → cap - i = 0) : SlC w sz (.slice a' (j - i) (cap - i)) (j - i) ((cs.drop (i * sz)).take ((j - i) * sz)) := by
  obtain ⟨hl, _, cap', hv, hn, hm, _, hc⟩ := h
  simp only [Value.slice.injEq] at hv
  obtain ⟨rfl, _, rfl⟩ := hv
  have e1 : j * sz ≤ n * sz := Nat.mul_le_mul_right _ hj
  have e2 : (j - i) * sz = j * sz - i * sz := Nat.sub_mul _ _ _
  have e3 : i * sz ≤ j * sz := Nat.mul_le_mul_right _ hij
  refine ⟨by rw [List.length_take, List.length_drop]; omega, a', cap - i, rfl, by omega, by omega, hz, ?_⟩
  by_cases h0 : j - i = 0
  · exact .inl h0
  right
  rcases hc with hc | ⟨b', off', hv', hlt, hcell⟩
  · omega
  · simp only [Option.some.injEq, Addr.mk.injEq] at hv'
    obtain ⟨rfl, rfl, _⟩ := hv'
    refine ⟨b, off + i * sz, ha (by omega), hlt, fun q hq => ?_⟩
    have := hcell (i * sz + q) (by omega)
    rw [Nat.add_assoc, this, List.getElem?_take, if_pos hq, List.getElem?_drop]

/-- a list of texts -/
def Strs (w : World) (v : Value) (ls : List (List UInt8)) : Prop := SlC w 1 v ls.length (ls.map fun l => .string (mk l))
/-- a list of ints -/
def Ints (w : World) (v : Value) (ls : List Int) : Prop := SlC w 1 v ls.length (ls.map fun n => .int .i64 n)
/-- a list of bytes -/
def Byts (w : World) (v : Value) (ls : List UInt8) : Prop := SlC w 1 v ls.length (ls.map fun n => .int .u8 n.toNat)

theorem Strs.below {B : Nat} {w w' : World} {v : Value} {ls : List (List UInt8)} (h : Strs w v ls) (hb : Below B w w') (hB : w.heap.size ≤ B) : Strs w' v ls := SlC.below h hb hB
theorem Ints.below {B : Nat} {w w' : World} {v : Value} {ls : List Int} (h : Ints w v ls) (hb : Below B w w') (hB : w.heap.size ≤ B) : Ints w' v ls := SlC.below h hb hB
theorem Byts.below {B : Nat} {w w' : World} {v : Value} {ls : List UInt8} (h : Byts w v ls) (hb : Below B w w') (hB : w.heap.size ≤ B) : Byts w' v ls := SlC.below h hb hB

theorem Strs.at {w : World} {a : Option Addr} {m cap : Nat} {ls : List (List UInt8)} (h : Strs w (.slice a m cap) ls) (hn : 0 < ls.length) :
    ∃ b off, a = some ⟨b, off, none⟩ ∧ b < w.heap.size ∧ ∀ j, j < ls.length → w.cell? ⟨b, off + j, none⟩ = some (.string (mk (ls.getD j []))) := by
  obtain ⟨_, b, off, ha, hlt, h4⟩ := SlC.at h hn
  refine ⟨b, off, ha, hlt, fun j hj => ?_⟩
  rw [h4 j (by omega)]
  simp [hj]
theorem Ints.at {w : World} {a : Option Addr} {m cap : Nat} {ls : List Int} (h : Ints w (.slice a m cap) ls) (hn : 0 < ls.length) :
    ∃ b off, a = some ⟨b, off, none⟩ ∧ b < w.heap.size ∧ ∀ j, j < ls.length → w.cell? ⟨b, off + j, none⟩ = some (.int .i64 (ls.getD j 0)) := by
  obtain ⟨_, b, off, ha, hlt, h4⟩ := SlC.at h hn
  refine ⟨b, off, ha, hlt, fun j hj => ?_⟩
  rw [h4 j (by omega)]
  simp [hj]
theorem Byts.at {w : World} {a : Option Addr} {m cap : Nat} {ls : List UInt8} (h : Byts w (.slice a m cap) ls) (hn : 0 < ls.length) :
    ∃ b off, a = some ⟨b, off, none⟩ ∧ b < w.heap.size ∧ ∀ j, j < ls.length → w.cell? ⟨b, off + j, none⟩ = some (.int .u8 (ls.getD j 0).toNat) := by
  obtain ⟨_, b, off, ha, hlt, h4⟩ := SlC.at h hn
  refine ⟨b, off, ha, hlt, fun j hj => ?_⟩
  rw [h4 j (by omega)]
  simp [hj]

/-- a slice that was built just now -/
theorem slc_new (w : World) (sz n e : Nat) (cs : List Value) (h : cs.length = n * sz) (hn : n ≤ maxLen) : SlC (w.alloc (.cells cs.toArray e)) sz (.slice (some ⟨w.heap.size, 0, none⟩) n n) n cs := by
  refine ⟨h, _, _, rfl, Nat.le_refl _, hn, fun h => (by cases h), .inr ⟨_, _, rfl, by simp, fun j _ => ?_⟩⟩
  rw [World.cell?_alloc_at (hn := rfl)]
  simp

/-- what came in as a slice, opened: its cells, element by element -/
theorem slc_of_cells {w : World} {x : Addr} {len cap : Nat} {sz : Nat} {cs all : List Value} (hsz : 0 < sz) (hl : len ≤ cap) (hm : cap ≤ maxLen) (hcs : cs = all.take (len * sz)) (hlen : len * sz ≤ all.length)
    (hcell : ∀ i, i < all.length → w.cell? (x.add i) = all[i]?) : SlC w sz (.slice (some x) len cap) len cs := by
  subst hcs
  refine ⟨by rw [List.length_take]; omega, some x, cap, rfl, hl, hm, fun h => (by cases h), ?_⟩
  by_cases h0 : len = 0
  · exact .inl h0
  right
  have hpos : 0 < len * sz := Nat.mul_pos (by omega) hsz
  have h1 := hcell 0 (by omega)
  have hx : x.add 0 = x := by simp [Addr.add]
  rw [hx] at h1
  obtain ⟨b, off, sp⟩ := x
  have hsp : sp = none := by
    cases sp with
    | none => rfl
    | some q =>
      exfalso
      unfold World.cell? at h1
      have : all[0]? ≠ none := by rw [List.getElem?_eq_getElem (by omega)]; simp
      apply this
      rw [← h1]
      split <;> simp
  subst hsp
  refine ⟨b, off, rfl, ?_, fun j hj => ?_⟩
  · exact World.block_lt_of_cell? (u := all[0]'(by omega)) w ⟨b, off, none⟩ (by rw [h1]; exact List.getElem?_eq_getElem (by omega))
  · have := hcell j (by omega)
    rw [Addr.add_lit] at this
    rw [this, List.getElem?_take, if_pos hj]

theorem open_Ints {H : Type} {enc : TypeId × Value → H} {w : World} {t e : TypeId} {v : Value} {d : DataW H} {ps : List MemPlace} {base : Nat} (ht : Try.prog.underlying t = some (.slice e)) (he : Try.prog.underlying e = some (.int .i64))
    (hc : Try.prog.cellsOf e = 1) (hval : Value.okWide Try.prog w .any base t v) (hd : DataW.Trod enc Try.prog w 0 (fun _ => true) true t v d ps) :
    ∃ a zs cap, v = .slice a zs.length cap ∧ Ints w v zs ∧ ∀ n ∈ zs, Fits n := by
  obtain ⟨a, len, cap, rfl⟩ := okWide_slice ht hval
  obtain ⟨fuel, hf⟩ := hd
  rcases open_ints ht he hc hf with ⟨hcs, _⟩ | ⟨x, l, c, zs, hcs, _, hl, hm, hz, _, hcell, hwz⟩
  · simp [Value.cells] at hcs
    obtain ⟨rfl, rfl, rfl⟩ := hcs
    exact ⟨none, [], 0, rfl, SlC.nil _ _, by simp⟩
  · simp [Value.cells] at hcs
    obtain ⟨rfl, rfl, rfl⟩ := hcs
    have hz' : zs.length = cap := by simpa using hz
    have hlen : (zs.take len).length = len := by rw [List.length_take]; omega
    refine ⟨_, zs.take len, cap, by rw [hlen], ?_, fun n hn => ?_⟩
    · unfold Ints
      rw [hlen]
      refine slc_of_cells (all := zs.map fun n => .int .i64 n) (by omega) hl hm (by rw [List.map_take]; simp) (by simp; omega) fun i hi => ?_
      simp at hi
      rw [hcell i hi]
      simp [hi]
    · have := hwz n (List.mem_of_mem_take hn)
      simpa [Fits, Lit.wf, IntKind.min, IntKind.max, IntKind.signed, IntKind.bits] using this

theorem open_Byts {H : Type} {enc : TypeId × Value → H} {w : World} {t e : TypeId} {v : Value} {d : DataW H} {ps : List MemPlace} {base : Nat} (ht : Try.prog.underlying t = some (.slice e)) (he : Try.prog.underlying e = some (.int .u8))
    (hc : Try.prog.cellsOf e = 1) (hval : Value.okWide Try.prog w .any base t v) (hd : DataW.Trod enc Try.prog w 0 (fun _ => true) true t v d ps) :
    ∃ a zs cap, v = .slice a (zs : List UInt8).length cap ∧ Byts w v zs := by
  obtain ⟨a, len, cap, rfl⟩ := okWide_slice ht hval
  obtain ⟨fuel, hf⟩ := hd
  rcases open_ints ht he hc hf with ⟨hcs, _⟩ | ⟨x, l, c, zs, hcs, _, hl, hm, hz, _, hcell, hwz⟩
  · simp [Value.cells] at hcs
    obtain ⟨rfl, rfl, rfl⟩ := hcs
    exact ⟨none, [], 0, rfl, SlC.nil _ _⟩
  · simp [Value.cells] at hcs
    obtain ⟨rfl, rfl, rfl⟩ := hcs
    have hz' : zs.length = cap := by simpa using hz
    have hlen : ((zs.take len).map fun n => UInt8.ofNat n.toNat).length = len := by rw [List.length_map, List.length_take]; omega
    refine ⟨_, (zs.take len).map (fun n => UInt8.ofNat n.toNat), cap, by rw [hlen], ?_⟩
    unfold Byts
    rw [hlen]
    refine slc_of_cells (all := zs.map fun n => .int .u8 n) (by omega) hl hm ?_ (by simp; omega) fun i hi => ?_
    · rw [List.map_map, List.map_take]
      simp only [Nat.mul_one]
      congr 1
      refine List.map_congr_left fun n hn => ?_
      have := hwz n hn
      have h2 : 0 ≤ n ∧ n ≤ 255 := by simpa [Lit.wf, IntKind.min, IntKind.max, IntKind.signed, IntKind.bits] using this
      simp only [Function.comp]
      congr 1
      simp
      omega
    · simp at hi
      rw [hcell i hi]
      simp [hi]

theorem open_Strs {H : Type} {enc : TypeId × Value → H} {w : World} {t e : TypeId} {v : Value} {d : DataW H} {ps : List MemPlace} {base : Nat} (ht : Try.prog.underlying t = some (.slice e)) (he : Try.prog.underlying e = some .string)
    (hc : Try.prog.cellsOf e = 1) (hval : Value.okWide Try.prog w .any base t v) (hd : DataW.Trod enc Try.prog w 0 (fun _ => true) true t v d ps) :
    ∃ a ls cap, v = .slice a (ls : List (List UInt8)).length cap ∧ Strs w v ls ∧ ∀ l ∈ ls, l.length ≤ maxLen := by
  obtain ⟨a, len, cap, rfl⟩ := okWide_slice ht hval
  obtain ⟨fuel, hf⟩ := hd
  rcases open_strings ht he hc hf with ⟨hcs, _⟩ | ⟨x, l, c, zs, hcs, _, hl, hm, hz, _, hcell, hwz⟩
  · simp [Value.cells] at hcs
    obtain ⟨rfl, rfl, rfl⟩ := hcs
    exact ⟨none, [], 0, rfl, SlC.nil _ _, by simp⟩
  · simp [Value.cells] at hcs
    obtain ⟨rfl, rfl, rfl⟩ := hcs
    have hz' : zs.length = cap := by simpa using hz
    have hlen : ((zs.take len).map bl).length = len := by rw [List.length_map, List.length_take]; omega
    refine ⟨_, (zs.take len).map bl, cap, by rw [hlen], ?_, fun l hl => ?_⟩
    · unfold Strs
      rw [hlen]
      refine slc_of_cells (all := zs.map fun n => .string n) (by omega) hl hm (by rw [List.map_map, List.map_take]; simp [Function.comp_def, mk_bl]) (by simp; omega) fun i hi => ?_
      simp at hi
      rw [hcell i hi]
      simp [hi]
    · obtain ⟨s, hs, rfl⟩ := List.mem_map.1 hl
      rw [← size_bl]
      exact hwz s (List.mem_of_mem_take hs)

theorem Ints.sub {w : World} {n b off cap : Nat} {l : List Int} (h : Ints w (.slice (some ⟨b, off, none⟩) n cap) l) (hn : l.length = n) {i j : Nat} (hij : i ≤ j) (hj : j ≤ n) {a' : Option Addr}
    (ha : i < j → a' = some ⟨b, off + i, none⟩) (hz : a' = none → cap - i = 0) : Ints w (.slice a' (j - i) (cap - i)) ((l.drop i).take (j - i)) := by
  subst hn
  have := SlC.sub h hij hj (a' := a') (by simpa using ha) hz
  unfold Ints
  have e : ((l.drop i).take (j - i)).length = j - i := by rw [List.length_take, List.length_drop]; omega
  rw [e]
  simpa [List.map_drop, List.map_take] using this
theorem Strs.sub {w : World} {n b off cap : Nat} {l : List (List UInt8)} (h : Strs w (.slice (some ⟨b, off, none⟩) n cap) l) (hn : l.length = n) {i j : Nat} (hij : i ≤ j) (hj : j ≤ n) {a' : Option Addr}
    (ha : i < j → a' = some ⟨b, off + i, none⟩) (hz : a' = none → cap - i = 0) : Strs w (.slice a' (j - i) (cap - i)) ((l.drop i).take (j - i)) := by
  subst hn
  have := SlC.sub h hij hj (a' := a') (by simpa using ha) hz
  unfold Strs
  have e : ((l.drop i).take (j - i)).length = j - i := by rw [List.length_take, List.length_drop]; omega
  rw [e]
  simpa [List.map_drop, List.map_take] using this
theorem Byts.sub {w : World} {n b off cap : Nat} {l : List UInt8} (h : Byts w (.slice (some ⟨b, off, none⟩) n cap) l) (hn : l.length = n) {i j : Nat} (hij : i ≤ j) (hj : j ≤ n) {a' : Option Addr}
    (ha : i < j → a' = some ⟨b, off + i, none⟩) (hz : a' = none → cap - i = 0) : Byts w (.slice a' (j - i) (cap - i)) ((l.drop i).take (j - i)) := by
  subst hn
  have := SlC.sub h hij hj (a' := a') (by simpa using ha) hz
  unfold Byts
  have e : ((l.drop i).take (j - i)).length = j - i := by rw [List.length_take, List.length_drop]; omega
  rw [e]
  simpa [List.map_drop, List.map_take] using this

/-! ### from a walk to a statement -/
theorem below_all {H : Type} {enc : TypeId × Value → H} {W W' : World} (hb : Below W.heap.size W W') :
    ∀ (ts : List TypeId) (vs : List Value) (ds : List (DataW H)) (ps : List MemPlace), (∀ t ∈ ts, Try.prog.readableRec t = true ∧ t < Try.prog.types.size) →
      DataW.TrodAll enc Try.prog W 0 (fun _ => true) true ts vs ds ps → DataW.TrodAll enc Try.prog W' 0 (fun b => decide (b < W.heap.size)) true ts vs ds ps
  | [], [], [], _, _, h => h
  | t :: ts, v :: vs, d :: ds, ps, hr, h => by
    obtain ⟨p, q, h1, h2, h3⟩ := h
    have hlt : ∀ x ∈ p, x.block < W.heap.size := by obtain ⟨m, hm⟩ := h1; exact DataW.trod_lt m _ _ _ hm
    exact ⟨p, q, Below.trod laidOut (hr t (by simp)).1 (hr t (by simp)).2 h1 hb hlt, below_all hb ts vs ds q (fun t ht => hr t (List.mem_cons_of_mem _ ht)) h2, h3⟩
  | [], _ :: _, _, _, _, h => h.elim
  | [], [], _ :: _, _, _, h => h.elim
  | _ :: _, [], _, _, _, h => h.elim
  | _ :: _, _ :: _, [], _, _, h => h.elim

theorem trodAll_length {H : Type} {enc : TypeId × Value → H} {P : Program} {w : World} {base : Nat} {spare : Nat → Bool} {held : Bool} :
    ∀ (ts : List TypeId) (vs : List Value) (ds : List (DataW H)) (ps : List MemPlace), DataW.TrodAll enc P w base spare held ts vs ds ps → ds.length = ts.length
  | [], [], [], _, _ => rfl
  | _ :: ts, _ :: vs, _ :: ds, _, h => by
    obtain ⟨p, q, _, h2, _⟩ := h
    simp [trodAll_length ts vs ds q h2]
  | [], _ :: _, _, _, h => h.elim
  | [], [], _ :: _, _, h => h.elim
  | _ :: _, [], _, _, h => h.elim
  | _ :: _, _ :: _, [], _, h => h.elim

/-- A law's walk: it returns true, and of what was there nothing has turned: then what the statement asks behind the call holds. -/
theorem law_post {H : Type} (enc : TypeId × Value → H) {f : FuncId} {fn : Func} {s : ChangeSpec} {W : World} {args : Array Value} {ds gs : List (DataW H)} {before : List MemPlace}
    (n : Nat) (hn : fn.params.toList.length = n) (hvars : s.vars = []) (hres : fn.resultTypes = #[4])
    (hread : (fn.params.toList.all fun t => Try.prog.readableRec t && decide (t < Try.prog.types.size)) = true)
    (hfn : ∀ ds : List (DataW H), ds.length = n → s.fn H (ds ++ []) = { results := [.lit (.bool true)], args := ds })
    (hW : DataW.Whole enc Try.prog fn.params.toList s.vars false W args.toList ds gs before)
    (walk : Calls Try.prog f args W fun e W' => e = .returned (.bool true) ∧ Below W.heap.size W W') :
    Calls Try.prog f args W fun e W' => ∃ v, e = .returned v ∧ s.post enc Try.prog fn false true false false W args v W' := by
  refine walk.mono fun e W' ⟨he, hb⟩ => ⟨_, he, ?_⟩
  have hW' := hW
  obtain ⟨p, q, hA, hV, hpq, _, _⟩ := hW
  rw [hvars] at hV
  obtain ⟨rfl, rfl⟩ := trodVars_none hV
  have hf := hfn ds ((trodAll_length _ _ _ _ hA).trans hn)
  refine ⟨ds, [], before, [], p, [], hW', ?_, ?_, ?_, hb.frame _, fun h => by cases h⟩
  · rw [hf, hres]
    exact trodAll_mk1 (shut_bool underBool _)
  · rw [hf]
    exact below_all hb _ _ _ _ (fun t ht => by have := List.all_eq_true.1 hread t ht; simpa using this) hA
  · rw [hf, hvars]
    rfl

/-! ### opening arguments, one by one -/
theorem fits_of_wf {a : Int} (h : (Lit.int .i64 a).wf = true) : Fits a := by
  simpa [Fits, Lit.wf, IntKind.min, IntKind.max, IntKind.signed, IntKind.bits] using h

end Go.Proofs.Ytblbphnmflbepaa
