/- For ranges over functions: what the body of a round keeps for the iterator: the blocks of a span. -/
import Derived.RangeFuncBox
import Derived.RangeFuncNested
import Derived.RangeFuncBound
import Derived.RangeFuncCalls
import Derived.RangeFuncLeaves
import Derived.Shelf.Abstract
import Derived.WalkKit
import Derived.OwnWalkIn
import Derived.TacticsInMore
import Derived.LoopNIn
import Derived.LoopIn
import Derived.Maps.AppendAt
import Derived.Test.YtblbphnmflbepaaApp
namespace Go.Proofs.Ytblbphnmflbepaa
open Go.RowKit

/-- the blocks from lo to hi lie as they lay -/
def Kr (lo hi : Nat) (W W' : World) : Prop := ∀ k, lo ≤ k → k < hi → W'.heap[k]? = W.heap[k]?
theorem Kr.refl (lo hi : Nat) (W : World) : Kr lo hi W W := fun _ _ _ => rfl
theorem Kr.trans {lo hi : Nat} {A B C : World} (h : Kr lo hi A B) (k : Kr lo hi B C) : Kr lo hi A C := fun j h1 h2 => (k j h1 h2).trans (h j h1 h2)
theorem Kr.put {lo hi : Nat} {w : World} (hn : hi ≤ w.heap.size) (W : World) (l : Nat) (o o' : Obj) (hl : w.heap.size ≤ l) (_ : W.heap[l]? = some o) (_ : o.isCells = false) (_ : o.isWalk = false) : Kr lo hi W (W.putObj l o') :=
  fun k _ h2 => World.putObj_heap_other (fun e => by omega)
theorem Kr.cell {lo hi : Nat} {A B : World} (h : Kr lo hi A B) {p : Addr} (h1 : lo ≤ p.block) (h2 : p.block < hi) (hp : p.spot = none) : B.cell? p = A.cell? p := by
  obtain ⟨b, o, _⟩ := p
  subst hp
  simp only [World.cell?, h b h1 h2]
theorem Kr.of_below {lo hi B : Nat} {A C : World} (h : Below B A C) (hB : hi ≤ B) : Kr lo hi A C := fun k _ h2 => h.block k (by omega)
theorem Kr.alloc {lo hi : Nat} {A C : World} (h : Kr lo hi A C) (o : Obj) (hs : hi ≤ C.heap.size) : Kr lo hi A (C.alloc o) := fun k h1 h2 => by
  rw [heap_alloc_old C o k (by omega)]; exact h k h1 h2
theorem Kr.grown {lo hi : Nat} {A C D : World} {row : Option Nat} (h : Kr lo hi A C) (hg : C.grownBy D row) (hs : hi ≤ C.heap.size) (hr : ∀ k, row = some k → hi ≤ k) : Kr lo hi A D := fun k h1 h2 => by
  rw [hg.block k (by omega) (fun e => by have := hr k e.symm; omega)]; exact h k h1 h2
theorem Kr.set {lo hi : Nat} {A C : World} (h : Kr lo hi A C) {p : Addr} (hp : p.block < lo ∨ hi ≤ p.block) (v : Value) : Kr lo hi A (C.setCell p v) := fun k h1 h2 => by
  rw [Below.heap_setCell _ _ _ _ (by omega)]; exact h k h1 h2
theorem owns_base {w : World} {lo hi e sz n : Nat} {v : Value} {xs : List Value} (h : w.ownsRow hi e sz v n xs) (hl : lo ≤ hi) : w.ownsRow lo e sz v n xs := by
  refine ⟨h.1, ?_⟩
  rcases h.2 with hn | ⟨g, cap, cur, rfl, hb, r⟩
  · exact .inl hn
  · exact .inr ⟨g, cap, cur, rfl, Nat.le_trans hl hb, r⟩

/-- 'out = append(out, ..)' of a variable in a box B; its row lies beyond the span that the iterator reads -/
theorem boxed_app {W w1 : World} {n₀ lo hi B : Nat} {t e : TypeId} {size : Nat} {v v' : Value} {k m : Nat} {xs ys : List Value} {tmp : Obj}
    (hv : Boxed W B t v) (hte : t ≠ e) (hrow : W.ownsRow hi e size v k xs) (hhi : hi ≤ W.heap.size) (hlo : n₀ ≤ hi) (hB : n₀ ≤ B) (hBl : B < lo)
    (hown' : w1.ownsRow hi e size v' m ys) (hgrow : (W.alloc tmp).grownBy w1 v.ownBlock) :
    Boxed w1 B t v ∧ Boxed (w1.setCell ⟨B, 0, none⟩ v') B t v' ∧ (w1.setCell ⟨B, 0, none⟩ v').ownsRow hi e size v' m ys ∧ KeepsOthers W (w1.setCell ⟨B, 0, none⟩ v') ∧ Below n₀ W (w1.setCell ⟨B, 0, none⟩ v') ∧ Kr lo hi W (w1.setCell ⟨B, 0, none⟩ v') := by
  have hrow0 := owns_base hrow hlo
  obtain ⟨h1, h2, _, h4, h5⟩ := hv.appended hte hrow0 (Nat.le_trans hlo hhi) hB (owns_base hown' hlo) hgrow
  refine ⟨h1, h2, hown'.kept (grownBy_setCell' w1 B v') (.inr (h1.not_row hte hown').symm), h4, h5, ?_⟩
  refine ((((Kr.refl lo hi W).alloc tmp hhi).grown hgrow (by simp; omega) fun j ej => ?_).set (p := ⟨B, 0, none⟩) (.inl hBl) v')
  rcases hrow.2 with ⟨rfl, _⟩ | ⟨g, cap, cur, rfl, hb, _, _⟩
  · simp [Value.ownBlock] at ej
  · obtain rfl : g = j := by simpa [Value.ownBlock] using ej
    exact hb
theorem boxed_app_other {W w1 : World} {B B2 hi : Nat} {t2 e : TypeId} {size : Nat} {v v' u : Value} {k : Nat} {xs : List Value} {tmp : Obj}
    (hu : Boxed W B2 t2 u) (ht2 : t2 ≠ e) (hne : B2 ≠ B) (hrow : W.ownsRow hi e size v k xs) (hgrow : (W.alloc tmp).grownBy w1 v.ownBlock) : Boxed (w1.setCell ⟨B, 0, none⟩ v') B2 t2 u :=
  ((hu.alloc tmp).kept hgrow (hu.not_row ht2 hrow)).kept (grownBy_setCell' w1 B v') (by simpa using hne)
end Go.Proofs.Ytblbphnmflbepaa
