/- Texts and rows of bytes: '[]byte(s)', 'string(b)', and a row of the call's own that is written cell by cell. No conditions. -/
import Derived.Test.YtblbphnmflbepaaApp
import Derived.Laws.BytesArg
namespace Go.Proofs.Ytblbphnmflbepaa
open Go.RowKit

/-- block g is a row of the call's own whose first cells are cs; none of them is frozen -/
def Row (w : World) (g : Nat) (cs : List Value) : Prop :=
  ∃ (C : Array Value) (e lo hi : Nat), w.heap[g]? = some (.cells C e (lo, hi)) ∧ C.toList.take cs.length = cs ∧ cs.length ≤ C.size ∧ (cs.length ≤ lo ∨ hi = 0)

theorem Row.lt {w : World} {g : Nat} {cs : List Value} (h : Row w g cs) : g < w.heap.size := by
  obtain ⟨C, e, lo, hi, hg, _⟩ := h
  exact (Array.getElem?_eq_some_iff.1 hg).1
theorem Row.cell {w : World} {g : Nat} {cs : List Value} (h : Row w g cs) {j : Nat} (hj : j < cs.length) : w.cell? ⟨g, j, none⟩ = cs[j]? := by
  obtain ⟨C, e, lo, hi, hg, ht, hl, hf⟩ := h
  rw [cell_of_row w g j C e (lo, hi) hg]
  conv => rhs; rw [← ht]
  rw [List.getElem?_take, if_pos hj]
  simp
theorem Row.free {w : World} {g : Nat} {cs : List Value} (h : Row w g cs) {j : Nat} (hj : j < cs.length) : w.frozen? ⟨g, j, none⟩ = false := by
  obtain ⟨C, e, lo, hi, hg, ht, hl, hf⟩ := h
  simp only [World.frozen?, hg]
  rcases hf with hf | hf
  · have : ¬ lo ≤ j := by omega
    simp [this]
  · simp [hf]
theorem Row.slc {w : World} {g n cap : Nat} {cs : List Value} (h : Row w g cs) (hn : cs.length = n) (hc : n ≤ cap) (hm : cap ≤ maxLen) : SlC w 1 (.slice (some ⟨g, 0, none⟩) n cap) n cs :=
  ⟨by omega, _, _, rfl, hc, hm, fun h => (by cases h), .inr ⟨g, 0, rfl, h.lt, fun j hj => by rw [Nat.zero_add]; exact h.cell (by omega)⟩⟩
theorem Row.keep {B : Nat} {w w' : World} {g : Nat} {cs : List Value} (h : Row w g cs) (hb : Below B w w') (hg : g < B) : Row w' g cs := by
  obtain ⟨C, e, lo, hi, h1, h2⟩ := h
  exact ⟨C, e, lo, hi, by rw [hb.block g hg]; exact h1, h2⟩
theorem Row.set {w : World} {g : Nat} {cs : List Value} (h : Row w g cs) (j : Nat) (v : Value) : Row (w.setCell ⟨g, j, none⟩ v) g (cs.set j v) := by
  obtain ⟨C, e, lo, hi, hg, ht, hl, hf⟩ := h
  refine ⟨C.setIfInBounds j v, e, lo, hi, ?_, ?_, by simpa using hl, by simpa using hf⟩
  · simp only [World.setCell, Array.getElem?_modify]
    simp [hg]
  · rw [List.length_set, Array.toList_setIfInBounds]
    conv => rhs; rw [← ht]
    exact List.take_set
theorem Row.drew {w : World} {g : Nat} {cs : List Value} (h : Row w g cs) : Row w.drew g cs := h

/-- '[]byte(s)' -/
theorem conv_bytes {P : Program} (w : World) (src dst e : TypeId) (s : ByteArray) (hs : P.underlying src = some .string) (hd : P.underlying dst = some (.slice e)) (he : P.underlying e = some (.int .u8)) (hm : s.size ≤ maxLen) :
    ∃ cap w', (convert src dst (.string s)).run P w = .ok (.slice (some ⟨w.heap.size, 0, none⟩) s.size cap) w' ∧ s.size ≤ cap ∧ cap ≤ maxLen ∧
      Row w' w.heap.size ((bl s).map fun b => .int .u8 b.toNat) ∧ Below w.heap.size w w' ∧ w'.heap.size = w.heap.size + 1 := by
  refine ⟨_, _, run_bytes_of_string w src dst e s hs hd he, grownCap_ge w s.size 0 e, grownCap_le_maxLen w s.size 0 e hm, ?_, ?_, ?_⟩
  · have hsz : (bytesRow s (grownCap w s.size 0 e)).size = s.size + (grownCap w s.size 0 e - s.size) := by simp [bytesRow]
    refine ⟨_, _, _, _, heap_alloc_new w.drew _, ?_, ?_, .inl ?_⟩
    · rw [List.length_map, ← size_bl]
      simp only [bytesRow, Array.toList_append]
      rw [List.take_append_of_le_length (by simp)]
      simp only [Array.toList_map]
      rw [List.take_of_length_le (by simp)]
      rfl
    · rw [List.length_map, ← size_bl, hsz]; omega
    · rw [List.length_map, ← size_bl, hsz]; omega
  · exact ((Below.refl _ _).drew).alloc (Nat.le_refl _) _
  · simp

/-- 'string(b)' -/
theorem conv_string {P : Program} {w : World} {src dst e : TypeId} {v : Value} {l : List UInt8} (h : Byts w v l) (hs : P.underlying src = some (.slice e)) (he : P.underlying e = some (.int .u8)) (hd : P.underlying dst = some .string) :
    (convert src dst v).run P w = .ok (.string (mk l)) w := by
  obtain ⟨_, a, cap, rfl, _, _, _, hc⟩ := h
  have hdata : strOfNums (l.map fun b => (b.toNat : Int)) = mk l := by
    apply bl_inj
    rw [bl_mk]
    unfold bl
    rw [strOfNums_data, List.map_map]
    have : ((fun n : Int => UInt8.ofNat n.toNat) ∘ fun b : UInt8 => (b.toNat : Int)) = id := by
      funext b; simp
    rw [this, List.map_id]
  cases a with
  | none =>
    have hl : l = [] := by
      rcases hc with hc | ⟨b, off, h, _⟩
      · exact List.eq_nil_of_length_eq_zero hc
      · cases h
    subst hl
    exact run_convert_bytes_nil w src e hs he _ _ dst hd
  | some x =>
    rcases hc with hc | ⟨b, off, hx, _, hcell⟩
    · have hl : l = [] := List.eq_nil_of_length_eq_zero hc
      subst hl
      have h0 : (loadCells x 0).run P w = .ok #[] w := by
        have := run_loadCells_list (P := P) w x [] (fun j v hj => by simp at hj)
        simpa using this
      rw [run_convert_bytes_string w src dst e _ _ cap hs he hd]
      have := run_bytesToString w x 0 cap [] (by simpa using h0)
      exact this
    · simp only [Option.some.injEq] at hx
      subst hx
      rw [← hdata]
      refine run_convert_bytes_arg w src e hs he b off l.length cap _ (by simp) (fun i hi => ?_) dst hd
      rw [hcell i (by omega)]
      simp [hi]

theorem run_conv_bytes (s : ByteArray) (hm : s.size ≤ maxLen) (w : World) :
    ∃ cap w', (convert 9 97 (.string s)).run Try.prog w = .ok (.slice (some ⟨w.heap.size, 0, none⟩) s.size cap) w' ∧ s.size ≤ cap ∧ cap ≤ maxLen ∧
      Row w' w.heap.size ((bl s).map fun b => .int .u8 b.toNat) ∧ Below w.heap.size w w' ∧ w'.heap.size = w.heap.size + 1 :=
  conv_bytes w _ _ _ s Try.underlying9 Try.underlying97 Try.underlying5 hm

theorem run_conv_string {w : World} {v : Value} {l : List UInt8} (h : Byts w v l) : (convert 97 9 v).run Try.prog w = .ok (.string (mk l)) w :=
  conv_string h Try.underlying97 Try.underlying5 Try.underlying9
end Go.Proofs.Ytblbphnmflbepaa
