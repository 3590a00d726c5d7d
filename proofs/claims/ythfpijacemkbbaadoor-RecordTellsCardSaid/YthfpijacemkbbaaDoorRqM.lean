/- Sets of records built just now, records in boxes: what loads of them read; and: data of one name folds as the name. -/
import Derived.Test.YthfpijacemkbbaaDoorRqL
namespace Go.Proofs.YthfpijacemkbbaaDoor
open Go.RowKit
set_option linter.unusedVariables false

theorem two_sets (W : World) (l1 l2 : List Rc.RR) (h1 : l1.length ≤ maxLen) (h2 : l2.length ≤ maxLen) :
    RRs ((W.alloc (.cells (encR l1).toArray 23)).alloc (.cells (encR l2).toArray 23)) (.slice (some ⟨W.heap.size, 0, none⟩) l1.length l1.length) l1 ∧
    RRs ((W.alloc (.cells (encR l1).toArray 23)).alloc (.cells (encR l2).toArray 23)) (.slice (some ⟨W.heap.size + 1, 0, none⟩) l2.length l2.length) l2 ∧
    Below W.heap.size W ((W.alloc (.cells (encR l1).toArray 23)).alloc (.cells (encR l2).toArray 23)) := by
  have ra : RRs (W.alloc (.cells (encR l1).toArray 23)) (.slice (some ⟨W.heap.size, 0, none⟩) l1.length l1.length) l1 := slc_new W 5 l1.length 23 _ (encR_length l1) h1
  have rb : RRs ((W.alloc (.cells (encR l1).toArray 23)).alloc (.cells (encR l2).toArray 23)) (.slice (some ⟨(W.alloc (.cells (encR l1).toArray 23)).heap.size, 0, none⟩) l2.length l2.length) l2 := slc_new _ 5 l2.length 23 _ (encR_length l2) h2
  rw [World.size_alloc] at rb
  exact ⟨ra.below ((Below.refl _ (W.alloc (.cells (encR l1).toArray 23))).alloc (Nat.le_refl _) _) (Nat.le_refl _), rb, ((Below.refl _ W).alloc (Nat.le_refl _) _).alloc (by simp) _⟩
theorem three_rows (w : World) (x y z : Array Value) (T : TypeId) :
    (((w.alloc (.cells x T)).alloc (.cells y T)).alloc (.cells z T)).drew.heap[w.heap.size]? = some (.cells x T (0, 0)) ∧
    (((w.alloc (.cells x T)).alloc (.cells y T)).alloc (.cells z T)).drew.heap[w.heap.size + 1]? = some (.cells y T (0, 0)) ∧
    (((w.alloc (.cells x T)).alloc (.cells y T)).alloc (.cells z T)).drew.heap[w.heap.size + 1 + 1]? = some (.cells z T (0, 0)) ∧
    Below w.heap.size w (((w.alloc (.cells x T)).alloc (.cells y T)).alloc (.cells z T)).drew := by
  refine ⟨?_, ?_, ?_, ((((Below.refl _ w).alloc (Nat.le_refl _) _).alloc (by simp) _).alloc (by simp; omega) _).drew⟩
  · exact (Below.heap_alloc _ _ _ (by simp; omega)).trans ((Below.heap_alloc _ _ _ (by simp)).trans (World.alloc_heap_new w _))
  · have := World.alloc_heap_new (w.alloc (.cells x T)) (.cells y T)
    rw [World.size_alloc] at this
    exact (Below.heap_alloc _ _ _ (by simp)).trans this
  · have := World.alloc_heap_new ((w.alloc (.cells x T)).alloc (.cells y T)) (.cells z T)
    rw [World.size_alloc, World.size_alloc] at this
    exact this
/-- a record in a box, in whatever world comes later -/
theorem rr_cells {X : World} {g : Nat} {n d : List UInt8} {t c l : Int} {T : TypeId} (h : X.heap[g]? = some (.cells (rrC ⟨n, t, c, l, d⟩) T (0, 0))) :
    (∀ W', Below X.heap.size X W' → W'.cell? ⟨g, 0, none⟩ = some (.string (mk n))) ∧ (∀ W', Below X.heap.size X W' → W'.cell? ⟨g, 1, none⟩ = some (.int .i64 t)) ∧ (∀ W', Below X.heap.size X W' → W'.cell? ⟨g, 2, none⟩ = some (.int .i64 c)) ∧
    (∀ W', Below X.heap.size X W' → W'.cell? ⟨g, 3, none⟩ = some (.int .i64 l)) ∧ (∀ W', Below X.heap.size X W' → W'.cell? ⟨g, 4, none⟩ = some (.string (mk d))) := by
  have hg := cell_of_heap h
  have hl := (Array.getElem?_eq_some_iff.1 h).1
  exact ⟨fun W' k => (k.cell (p := ⟨g, 0, none⟩) hl).trans (hg 0), fun W' k => (k.cell (p := ⟨g, 1, none⟩) hl).trans (hg 1), fun W' k => (k.cell (p := ⟨g, 2, none⟩) hl).trans (hg 2), fun W' k => (k.cell (p := ⟨g, 3, none⟩) hl).trans (hg 3), fun W' k => (k.cell (p := ⟨g, 4, none⟩) hl).trans (hg 4)⟩
theorem heap_later {B : Nat} {W W' : World} {g : Nat} {o : Obj} (h : W.heap[g]? = some o) (hb : Below W.heap.size W W') : W'.heap[g]? = some o := (hb.block _ (Array.getElem?_eq_some_iff.1 h).1).trans h

/-! ### plain -/
theorem parts_one {t : Int} (ht : t = 2 ∨ t = 5 ∨ t = 12) {d : List UInt8} (hv : Nm.valid d = true) : Rc.dataB t d = true ∧ Rc.partsN t d = some [(0, d.length)] := by
  have hl := (Nm.labs_valid hv).2.2
  have hld : Nm.lead d = some d.length := by
    have := Rc.take_lead (s := d) (m := d.length) (Nat.le_refl _) (by rw [List.take_length]; exact hv)
    exact this
  have hs : Rc.shape t = some (0, 1, 0) := by unfold Rc.shape; rw [if_pos ht]
  have hp : Rc.placesP t d = ([(0, d.length)], true) := by
    unfold Rc.placesP
    rw [hs]
    simp only
    rw [if_neg (by omega)]
    simp [Rc.names, hld]
  have hd : Rc.dataB t d = true := by
    unfold Rc.dataB
    rw [if_neg (by omega), if_neg (by omega), if_neg (by omega), if_neg (by omega), hp]
  refine ⟨hd, ?_⟩
  rw [Rc.partsN_some hd, hp]
theorem foldD_one {t : Int} (ht : t = 2 ∨ t = 5 ∨ t = 12) {d : List UInt8} (hv : Nm.valid d = true) : Rc.foldD t d = Nm.foldN d := by
  unfold Rc.foldD
  rw [(parts_one ht hv).2]
  simp [Rc.foldAt, Rc.foldStep]
end Go.Proofs.YthfpijacemkbbaaDoor

