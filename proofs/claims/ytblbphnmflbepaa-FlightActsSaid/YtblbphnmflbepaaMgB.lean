/- Small words of other texts (laid by slim.py). -/
import Derived.Test.YtblbphnmflbepaaRR
import Derived.Test.YtblbphnmflbepaaOrdR
import Derived.Test.YtblbphnmflbepaaApp2
namespace Go.Proofs.Ytblbphnmflbepaa
open Go.RowKit Go.Shelf Go.Sq
set_option linter.unusedVariables false

theorem infoRR : (Try.prog.info? 90).map (fun i => (i.zero, i.size, i.bytes)) = some (some (.agg #[.string ⟨#[]⟩, .int .i64 0, .int .i64 0, .int .i64 0, .string ⟨#[]⟩]), 5, 56) := by kernel_rfl
theorem eiRR : EI Try.prog 38 90 5 56 := ei_of Try.underlying38 infoRR rfl (by decide)
/-- nothing that was there is changed -/
def GB (w w' : World) : Prop := Below w.heap.size w w'
theorem GB.trans {A B C : World} (h : GB A B) (k : GB B C) : GB A C := Below.trans h (Below.mono k (Below.size h))
theorem GB.refl (A : World) : GB A A := Below.refl _ _
theorem GB.size {A B : World} (h : GB A B) : A.heap.size ≤ B.heap.size := Below.size h
theorem GB.cell {W : World} {p : Addr} {v : Value} (h : W.cell? p = some v) (hp : p.block < W.heap.size) (w3 : Subtype (GB W.drew)) : w3.1.cell? p = some v := (Below.cell w3.2 (p := p) hp).trans h
theorem GB.heap {A B : World} (h : GB A B) {k : Nat} {o : Obj} (hk : A.heap[k]? = some o) : B.heap[k]? = some o := (Below.block h k (Array.getElem?_eq_some_iff.1 hk).1).trans hk
theorem rows_apart {w : World} {b1 b2 e1 e2 s1 s2 n1 n2 : Nat} {v1 v2 : Value} {x1 x2 : List Value} (h1 : w.ownsRow b1 e1 s1 v1 n1 x1) (h2 : w.ownsRow b2 e2 s2 v2 n2 x2) (he : e1 ≠ e2) : v1.ownBlock = none ∨ v1.ownBlock ≠ v2.ownBlock := by
  rcases h1.2 with ⟨rfl, _⟩ | ⟨g, cap, cur, rfl, _, hg, _⟩
  · exact .inl (by simp [Value.ownBlock])
  · right
    rcases h2.2 with ⟨rfl, _⟩ | ⟨g2, cap2, cur2, rfl, _, hg2, _⟩
    · simp [Value.ownBlock]
    · intro e
      simp only [Value.ownBlock, Option.some.injEq] at e
      subst e
      rw [hg] at hg2
      simp only [Option.some.injEq, Obj.cells.injEq] at hg2
      exact he hg2.2.1
theorem getD_snoc_lt {α : Type} (l : List α) (x d : α) {i : Nat} (h : i < l.length) : (l ++ [x]).getD i d = l.getD i d := by
  rw [List.getD_eq_getElem?_getD, List.getElem?_append_left h, ← List.getD_eq_getElem?_getD]
theorem getD_snoc_eq {α : Type} (l : List α) (x d : α) : (l ++ [x]).getD l.length d = x := by simp
/-- a record put to a group's list -/
theorem getD_set_eq' {α : Type} (l : List α) (d x : α) {q : Nat} (h : q < l.length) : (l.set q x).getD q d = x := by simp [List.getD_eq_getElem?_getD, h]
theorem getD_set_ne' {α : Type} (l : List α) (d x : α) {q i : Nat} (h : i ≠ q) : (l.set q x).getD i d = l.getD i d := by simp [List.getD_eq_getElem?_getD, Ne.symm h]
theorem heap_kept {W W' : World} {k : Nat} {cs : Array Value} {T : TypeId} {fr : Nat × Nat} (h : W.heap[k]? = some (.cells cs T fr)) {base e sz n : Nat} {v : Value} {xs : List Value} (hown : W.ownsRow base e sz v n xs) (hT : T ≠ e) (hg : W.grownBy W' v.ownBlock) : W'.heap[k]? = some (.cells cs T fr) := by
  refine (hg.block k (Array.getElem?_eq_some_iff.1 h).1 ?_).trans h
  rcases hown.2 with ⟨rfl, _⟩ | ⟨g, cap, cur, rfl, _, hgh, _⟩
  · simp [Value.ownBlock]
  · intro e'
    simp only [Value.ownBlock, Option.some.injEq] at e'
    subst e'
    rw [h] at hgh
    simp only [Option.some.injEq, Obj.cells.injEq] at hgh
    exact hT hgh.2.1
theorem heap_old {W : World} {k : Nat} {o : Obj} (h : W.heap[k]? = some o) (o' : Obj) : (W.alloc o').heap[k]? = some o := (Below.heap_alloc _ _ _ (Array.getElem?_eq_some_iff.1 h).1).trans h
theorem new_cells (W : World) (cs : List Value) (T : TypeId) : ∀ j u, cs[j]? = some u → (W.alloc (.cells cs.toArray T)).cell? ((⟨W.heap.size, 0, none⟩ : Addr).add j) = some u := fun j u h => by
  rw [Addr.add_lit, World.cell?_alloc_at (hn := rfl)]
  simpa using h
theorem getD_mem' {α : Type} {l : List α} {q : Nat} {d : α} (h : q < l.length) : l.getD q d ∈ l := by
  rw [List.getD_eq_getElem?_getD, List.getElem?_eq_getElem h]
  simp
end Go.Proofs.Ytblbphnmflbepaa

