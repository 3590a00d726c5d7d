/- (*strings.Builder).copyCheck, WriteByte, WriteString at this dump: what each leaves of a builder that the call has made itself. Conditions: the new length takes at most 2^47 bytes. -/
import Derived.Test.YtfmhmhekildfbaaShelf
import Derived.Test.YtfmhmhekildfbaaKit
import Derived.Laws.IdiomCopy
import Derived.Lib.AppendStr
namespace Go.Proofs.Ytfmhmhekildfbaa
open Go.RowKit

def IsB (B b : Nat) (l : List UInt8) (w : World) : Prop := Lib.IsBuilder 61 5 B b (Lib.byteCells l) w

/-- what a builder (block b) leaves as it was: every row of another type than a byte -/
def Keeps (b : Nat) (w w' : World) : Prop := w.heap.size ≤ w'.heap.size ∧ ∀ k cs T fr, k ≠ b → T ≠ 5 → w.heap[k]? = some (.cells cs T fr) → w'.heap[k]? = some (.cells cs T fr)
theorem Keeps.refl (b : Nat) (w : World) : Keeps b w w := ⟨Nat.le_refl _, fun _ _ _ _ _ _ h => h⟩
theorem Keeps.trans {b : Nat} {w w1 w2 : World} (h : Keeps b w w1) (h2 : Keeps b w1 w2) : Keeps b w w2 := ⟨Nat.le_trans h.1 h2.1, fun k cs T fr hk hT hh => h2.2 k cs T fr hk hT (h.2 k cs T fr hk hT hh)⟩
theorem Keeps.set {b : Nat} {w w1 : World} (h : Keeps b w w1) (o : Nat) (v : Value) : Keeps b w (w1.setCell ⟨b, o, none⟩ v) :=
  ⟨Nat.le_trans h.1 (by simp [World.setCell]), fun k cs T fr hk hT hh => by rw [Below.heap_setCell _ _ _ _ hk]; exact h.2 k cs T fr hk hT hh⟩
theorem Keeps.alloc {b : Nat} {w w1 : World} (h : Keeps b w w1) (o : Obj) : Keeps b w (w1.alloc o) :=
  ⟨Nat.le_trans h.1 (by simp), fun k cs T fr hk hT hh => by
    have := h.2 k cs T fr hk hT hh
    rw [Lib.alloc_old w1 o k (Array.getElem?_eq_some_iff.1 this).1]; exact this⟩
theorem Keeps.grown {b B n : Nat} {w w1 w2 : World} {v : Value} {xs : List Value} (h : Keeps b w w1) (hg : w1.grownBy w2 v.ownBlock) (hown : w1.ownsRow B 5 1 v n xs) : Keeps b w w2 :=
  ⟨Nat.le_trans h.1 hg.size, fun k cs T fr hk hT hh => by
    have := h.2 k cs T fr hk hT hh
    rw [hg.block k (Array.getElem?_eq_some_iff.1 this).1 (fun e => Lib.ownBlock_ne hown this hT e.symm)]; exact this⟩
theorem Keeps.owns {b base e n : Nat} {w w1 : World} {v : Value} {xs : List Value} {cs : Array Value} {T : TypeId} {fr : Nat × Nat} (h : Keeps b w w1) (hown : w.ownsRow base e 1 v n xs) (he : e ≠ 5) (hb : w.heap[b]? = some (.cells cs T fr)) (hT : T ≠ e) : w1.ownsRow base e 1 v n xs := by
  have hne := Lib.ownBlock_ne hown hb hT
  refine ⟨hown.1, ?_⟩
  rcases hown.2 with hn | ⟨g, cap, cur, rfl, hb2, hg, r⟩
  · exact .inl hn
  · exact .inr ⟨g, cap, cur, rfl, hb2, h.2 _ _ _ _ (fun e => hne (by simp [Value.ownBlock, e])) he hg, r⟩

theorem keeps_below (b : Nat) {w w' : World} (h : Below w.heap.size w w') : Keeps b w w' :=
  ⟨h.size, fun k cs T fr _ _ hh => by rw [h.block k (Array.getElem?_eq_some_iff.1 hh).1]; exact hh⟩

theorem bld_size : (Try.prog.info? 61).map (·.size) = some 2 := by kernel_rfl
theorem bld_lies : liesAt Try.prog Try.prog.depth 61 (2 / Try.prog.cellsOf 61) 0 61 1 = true := by kernel_rfl
theorem byte_info : (Try.prog.info? 5).map (fun i => (i.zero, i.size, i.bytes)) = some (some (.int .u8 0), 1, 1) := by kernel_rfl
theorem u_ptr : Try.prog.underlying 59 = some (.pointer 61) := by kernel_rfl
theorem u_unsafe : Try.prog.underlying 78 = some .unsafePointer := by kernel_rfl
theorem u_bytes : Try.prog.underlying 44 = some (.slice 5) := by kernel_rfl
theorem u_string : Try.prog.underlying 9 = some .string := by kernel_rfl

set_option maxHeartbeats 1000000 in
set_option maxRecDepth 100000 in
theorem copyCheck_used (b : Nat) (w : World) (h0 : w.cell? ⟨b, 0, none⟩ = some (.pointer (some ⟨b, 0, none⟩))) :
    Calls Try.prog 54 #[.pointer (some ⟨b, 0, none⟩)] w fun e w' => e = .returned (.tuple #[]) ∧ w' = w := by
  obtain ⟨j, hj, _⟩ := Option.map_eq_some_iff.1 bld_size
  go_enter Try.func54, Try.ntmps54
  go_wp2
  rw [Lib.run_neq_ptr_same w _ u_ptr hj]
  go_wp2
  go_end0
  exact ⟨rfl, rfl⟩

set_option maxHeartbeats 1000000 in
set_option maxRecDepth 100000 in
theorem copyCheck_fresh (b : Nat) (w : World) (h0 : w.cell? ⟨b, 0, none⟩ = some (.pointer none)) (hsh : w.shape? b = some (61, 2)) (hfz : w.frozen? ⟨b, 0, none⟩ = false) :
    Calls Try.prog 54 #[.pointer (some ⟨b, 0, none⟩)] w fun e w' => e = .returned (.tuple #[]) ∧ w' = w.setCell ⟨b, 0, none⟩ (.pointer (some ⟨b, 0, none⟩)) := by
  obtain ⟨j, hj, hjs⟩ := Option.map_eq_some_iff.1 bld_size
  go_enter Try.func54, Try.ntmps54
  go_wp2
  rw [Lib.run_to_unsafe w ⟨b, 0, none⟩ u_ptr u_unsafe hj (by rw [hjs]; decide) hsh (Nat.zero_lt_succ 1)]
  simp only [Result.andThen]
  rw [Oper.upon_value]
  go_wp2
  rw [run_callFunc_extern Try.func58 (by kernel_rfl) (by kernel_rfl) (by kernel_rfl) (e := Extern.AbiNoEscape.same) (by kernel_rfl)]
  rw [Lib.run_noEscape]
  simp only [Result.andThen]
  rw [Oper.upon_value]
  go_wp2
  rw [Lib.run_from_unsafe w ⟨b, 0, none⟩ u_unsafe u_ptr hj hsh bld_lies]
  simp only [Result.andThen]
  rw [Oper.upon_value]
  go_wp2
  go_end0
  exact ⟨rfl, rfl⟩

theorem copyCheck_any (B b : Nat) (bs : List Value) (w : World) (h : Lib.IsBuilder 61 5 B b bs w) :
    Calls Try.prog 54 #[.pointer (some ⟨b, 0, none⟩)] w fun e w' => e = .returned (.tuple #[]) ∧ (Lib.BuilderAt 61 5 B b (.pointer (some ⟨b, 0, none⟩)) bs w' ∧ Below B w w' ∧ Keeps b w w') := by
  rcases h with h | h
  · refine (copyCheck_fresh b w h.cell0 h.shape h.frozen0).mono ?_
    rintro e w' ⟨rfl, rfl⟩
    exact ⟨rfl, h.used _, (Below.refl B w).setCell (p := ⟨b, 0, none⟩) h.1 _, (Keeps.refl b w).set 0 _⟩
  · refine (copyCheck_used b w h.cell0).mono ?_
    rintro e w' ⟨rfl, rfl⟩
    exact ⟨rfl, h, Below.refl B _, Keeps.refl b _⟩

set_option maxHeartbeats 2000000 in
set_option maxRecDepth 100000 in
theorem writeByte_cells (B b : Nat) (bs : List Value) (c : Int) (w : World) (h : Lib.IsBuilder 61 5 B b bs w) (hlen : bs.length + 1 ≤ 140737488355328) (hBw : B ≤ w.heap.size) :
    Calls Try.prog 47 #[.pointer (some ⟨b, 0, none⟩), .int .u8 c] w fun e w' => e = .returned .nilIface ∧ (Lib.BuilderAt 61 5 B b (.pointer (some ⟨b, 0, none⟩)) (bs ++ [.int .u8 c]) w' ∧ Below B w w' ∧ Keeps b w w') := by
  obtain ⟨i0, hi, hz0, hz1, hz2⟩ := info_parts byte_info
  go_enter Try.func47, Try.ntmps47
  go_wp2_with (go_at_call 54; refine (copyCheck_any B b bs _ h).mono ?_)
  rintro e w1 ⟨rfl, h1, hb1, hk1⟩
  obtain ⟨hB, v, hbk, hown, hne⟩ := h1
  have c0 : w1.cell? ⟨b, 0, none⟩ = some (.pointer (some ⟨b, 0, none⟩)) := by rw [Lib.cell_of_heap hbk]; rfl
  have c1 : w1.cell? ⟨b, 1, none⟩ = some v := by rw [Lib.cell_of_heap hbk]; rfl
  go_wp2_with (at_builtin; refine wpList_append_own _ rfl _ _ 44 rfl B 5 i0 (.int .u8 0) 1 1 u_bytes hi hz0 hz1 hz2 rfl (by decide) _ _ _ rfl (hown.alloc _) ⟨w1.heap.size, 0, none⟩ 1 1 [.int .u8 c] rfl rfl ?c1 ?c2 ?c3 ?c4 ?c5 ?_)
  case c1 =>
    intro j u hj
    match j, hj with
    | 0, hj => simp at hj; subst hj; simp [Addr.add]
  case c2 => intro u hu; simp at hu; subst hu; rfl
  case c3 => unfold maxLen; omega
  case c4 => omega
  case c5 => have := hb1.size; simp; omega
  intro v' w2 hown' hgrow _
  have hlt : b < w1.heap.size := by
    rcases Nat.lt_or_ge b w1.heap.size with h' | h'
    · exact h'
    · simp [Array.getElem?_eq_none h'] at hbk
  have hb2 : w2.heap[b]? = some (.cells #[.pointer (some ⟨b, 0, none⟩), v] 61 (0, 0)) := by
    rw [hgrow.block b (by simp; omega) (fun e => hne e.symm), Lib.alloc_old w1 _ b hlt]
    exact hbk
  have d0 : w2.cell? ⟨b, 0, none⟩ = some (.pointer (some ⟨b, 0, none⟩)) := by rw [Lib.cell_of_heap hb2]; rfl
  have d1 : w2.cell? ⟨b, 1, none⟩ = some v := by rw [Lib.cell_of_heap hb2]; rfl
  have f1 : w2.frozen? ⟨b, 1, none⟩ = false := Lib.frozen_of_heap hb2 1
  obtain ⟨g, cap, rfl⟩ : ∃ g cap, v' = .slice (some ⟨g, 0, none⟩) (bs.length + 1) cap := by
    rcases hown'.2 with ⟨_, h0⟩ | ⟨g, cap, cur, hv, _⟩
    · omega
    · exact ⟨g, cap, hv⟩
  go_wp2
  go_ret
  refine ⟨rfl, ?_, ?_, ?_⟩
  · exact Lib.BuilderAt.put (T := 61) (e := 5) hB hb2 (bs' := bs ++ [.int .u8 c]) (by simpa using hown') (by decide)
  · exact ((hb1.alloc (by have := hb1.size; omega) _).grown hgrow (by have := hb1.size; simp; omega) (fun k hk => (hown.lt k hk).1)).setCell (p := ⟨b, 1, none⟩) hB _
  · exact ((hk1.alloc _).grown hgrow (hown.alloc _)).set 1 _

set_option maxHeartbeats 2000000 in
set_option maxRecDepth 100000 in
theorem writeString_cells (B b : Nat) (bs : List Value) (s : ByteArray) (w : World) (h : Lib.IsBuilder 61 5 B b bs w) (hlen : bs.length + s.size ≤ 140737488355328) (hBw : B ≤ w.heap.size) :
    Calls Try.prog 45 #[.pointer (some ⟨b, 0, none⟩), .string s] w fun e w' => e = .returned (.tuple #[.int .i64 s.size, .nilIface]) ∧ (Lib.BuilderAt 61 5 B b (.pointer (some ⟨b, 0, none⟩)) (bs ++ Lib.strCells s) w' ∧ Below B w w' ∧ Keeps b w w') := by
  obtain ⟨i0, hi, hz0, hz1, hz2⟩ := info_parts byte_info
  go_enter Try.func45, Try.ntmps45
  go_wp2_with (go_at_call 54; refine (copyCheck_any B b bs _ h).mono ?_)
  rintro e w1 ⟨rfl, h1, hb1, hk1⟩
  obtain ⟨hB, v, hbk, hown, hne⟩ := h1
  have c0 : w1.cell? ⟨b, 0, none⟩ = some (.pointer (some ⟨b, 0, none⟩)) := by rw [Lib.cell_of_heap hbk]; rfl
  have c1 : w1.cell? ⟨b, 1, none⟩ = some v := by rw [Lib.cell_of_heap hbk]; rfl
  go_wp2_with (at_builtin; refine Lib.wpList_append_own_string _ rfl _ _ 44 9 rfl B 5 i0 u_bytes u_string hi hz0 hz1 hz2 _ _ _ rfl hown s rfl ?c3 ?c4 ?c5 ?_)
  case c3 => unfold maxLen; omega
  case c4 => omega
  case c5 => have := hb1.size; omega
  intro v' w2 hown' hgrow _
  have hlt : b < w1.heap.size := by
    rcases Nat.lt_or_ge b w1.heap.size with h' | h'
    · exact h'
    · simp [Array.getElem?_eq_none h'] at hbk
  have hb2 : w2.heap[b]? = some (.cells #[.pointer (some ⟨b, 0, none⟩), v] 61 (0, 0)) := by
    rw [hgrow.block b hlt (fun e => hne e.symm)]
    exact hbk
  have d0 : w2.cell? ⟨b, 0, none⟩ = some (.pointer (some ⟨b, 0, none⟩)) := by rw [Lib.cell_of_heap hb2]; rfl
  have d1 : w2.cell? ⟨b, 1, none⟩ = some v := by rw [Lib.cell_of_heap hb2]; rfl
  have f1 : w2.frozen? ⟨b, 1, none⟩ = false := Lib.frozen_of_heap hb2 1
  obtain ⟨ao, n', cap, rfl⟩ : ∃ ao n' cap, v' = .slice ao n' cap := by
    rcases hown'.2 with ⟨hv, _⟩ | ⟨g, cap, cur, hv, _⟩
    · exact ⟨_, _, _, hv⟩
    · exact ⟨_, _, _, hv⟩
  go_wp2
  go_ret2
  refine ⟨rfl, ?_, ?_, ?_⟩
  · exact Lib.BuilderAt.put (T := 61) (e := 5) hB hb2 (bs' := bs ++ Lib.strCells s) (by simpa [Lib.strCells_length] using hown') (by decide)
  · exact (hb1.grown hgrow (by have := hb1.size; omega) (fun k hk => (hown.lt k hk).1)).setCell (p := ⟨b, 1, none⟩) hB _
  · exact (hk1.grown hgrow hown).set 1 _

/-! ### the same, of bytes -/
theorem byteCells_append (a b : List UInt8) : Lib.byteCells (a ++ b) = Lib.byteCells a ++ Lib.byteCells b := by simp [Lib.byteCells]
theorem strCells_mk (l : List UInt8) : Lib.strCells (mk l) = Lib.byteCells l := rfl

theorem writeByte_any (B b : Nat) (l : List UInt8) (c : UInt8) (w : World) (h : IsB B b l w) (hlen : l.length + 1 ≤ 140737488355328) (hBw : B ≤ w.heap.size) :
    Calls Try.prog 47 #[.pointer (some ⟨b, 0, none⟩), .int .u8 c.toNat] w fun e w' => e = .returned .nilIface ∧ IsB B b (l ++ [c]) w' ∧ Below B w w' ∧ Keeps b w w' := by
  refine (writeByte_cells B b _ c.toNat w h (by rw [Lib.byteCells_length]; exact hlen) hBw).mono ?_
  rintro e w' ⟨rfl, h1, h2⟩
  refine ⟨rfl, .inr ?_, h2⟩
  rw [byteCells_append]
  exact h1

theorem writeString_any (B b : Nat) (l : List UInt8) (s : ByteArray) (w : World) (h : IsB B b l w) (hlen : l.length + s.size ≤ 140737488355328) (hBw : B ≤ w.heap.size) :
    Calls Try.prog 45 #[.pointer (some ⟨b, 0, none⟩), .string s] w fun e w' => e = .returned (.tuple #[.int .i64 s.size, .nilIface]) ∧ IsB B b (l ++ bl s) w' ∧ Below B w w' ∧ Keeps b w w' := by
  refine (writeString_cells B b _ s w h (by rw [Lib.byteCells_length]; exact hlen) hBw).mono ?_
  rintro e w' ⟨rfl, h1, h2⟩
  refine ⟨rfl, .inr ?_, h2⟩
  rw [byteCells_append]
  rw [← mk_bl s, strCells_mk] at h1
  exact h1

theorem builderLen_any (B b : Nat) (l : List UInt8) (w : World) (h : IsB B b l w) :
    Calls Try.prog 49 #[.pointer (some ⟨b, 0, none⟩)] w fun e w' => e = .returned (.int .i64 l.length) ∧ w' = w := by
  have := Try.Builder_Len B b _ w h
  rw [Lib.byteCells_length] at this
  exact this

theorem builderString_any (B b : Nat) (l : List UInt8) (w : World) (h : IsB B b l w) (hBw : B ≤ w.heap.size) :
    Calls Try.prog 48 #[.pointer (some ⟨b, 0, none⟩)] w fun e w' => e = .returned (.string (mk l)) ∧ Below B w w' :=
  Try.Builder_String_any B b l w h hBw

theorem isB_fresh (w : World) : IsB w.heap.size w.heap.size [] (w.alloc (.cells #[.pointer none, .slice none 0 0] 61)) := Lib.fresh_isBuilder _ _ w
theorem IsB.block {B b : Nat} {l : List UInt8} {w : World} (h : IsB B b l w) : ∃ cs, w.heap[b]? = some (.cells cs 61 (0, 0)) := by
  rcases h with ⟨_, v, h, _⟩ | ⟨_, v, h, _⟩ <;> exact ⟨_, h⟩
theorem IsB.below {B B' b : Nat} {l : List UInt8} {w w' : World} (h : IsB B b l w) (hb : Below B' w w') (hB : w.heap.size ≤ B') : IsB B b l w' := by
  have key : ∀ p, Lib.BuilderAt 61 5 B b p (Lib.byteCells l) w → Lib.BuilderAt 61 5 B b p (Lib.byteCells l) w' := by
    rintro p ⟨h1, v, h2, h3, h4⟩
    have hlt := (Array.getElem?_eq_some_iff.1 h2).1
    refine ⟨h1, v, by rw [hb.block b (by omega)]; exact h2, ?_, h4⟩
    refine ⟨h3.1, ?_⟩
    rcases h3.2 with hn | ⟨g, cap, cur, rfl, hb2, hg, r⟩
    · exact .inl hn
    · have := (Array.getElem?_eq_some_iff.1 hg).1
      exact .inr ⟨g, cap, cur, rfl, hb2, by rw [hb.block g (by omega)]; exact hg, r⟩
  rcases h with h | h
  · exact .inl (key _ h)
  · exact .inr (key _ h)
theorem IsB.drew {B b : Nat} {l : List UInt8} {w : World} (h : IsB B b l w) : IsB B b l w.drew := h
end Go.Proofs.Ytfmhmhekildfbaa

