/- Small words of other texts (laid by slim.py). -/
import Derived.Test.YtblbphnmflbepaaRefA
import Derived.Test.YtblbphnmflbepaaOrdT
import Derived.Test.YtblbphnmflbepaaOrdI
import Derived.Test.YtblbphnmflbepaaRc
import Derived.Test.YtblbphnmflbepaaSeqR
namespace Go.Proofs.Ytblbphnmflbepaa
open Go.RowKit Go.Shelf Go.Sq
set_option linter.unusedVariables false

theorem abides_below {β : Type} {B : Nat} {J : β → World → Prop} (hJ : AbidesFrom B J) {s : β} {W W' : World} (h : J s W) (hb : Below W.heap.size W W') : J s W' :=
  hJ s W W' none h ⟨hb.os, hb.tape, hb.output, hb.size, fun k hk _ => hb.block k hk⟩ (fun r e => by cases e)
theorem BelowC.cell {W : World} {p : Addr} {v : Value} (h : W.cell? p = some v) (hp : p.block < W.heap.size) (w3 : Subtype (Below W.heap.size W)) : w3.1.cell? p = some v := (w3.2.cell hp).trans h
theorem keepsFrom_below {B : Nat} {W W' : World} (h : Below W.heap.size W W') : KeepsFrom B W W' := KeepsFrom.of_grownBy (row := none) ⟨h.os, h.tape, h.output, h.size, fun k hk _ => h.block k hk⟩ (fun j e => by cases e)
/-- a record as a value, and as cells -/
def rrC (r : Rc.RR) : Array Value := #[.string (mk r.name), .int .i64 r.ty, .int .i64 r.cl, .int .i64 r.ttl, .string (mk r.data)]
abbrev rrV (r : Rc.RR) : Value := .agg #[.string (mk r.name), .int .i64 r.ty, .int .i64 r.cl, .int .i64 r.ttl, .string (mk r.data)]
/-- its texts are texts of a machine -/
def RROk (r : Rc.RR) : Prop := r.name.length ≤ maxLen ∧ r.data.length ≤ maxLen
theorem two_boxes (w : World) (x y : Array Value) (T : TypeId) :
    ((w.alloc (.cells x T)).alloc (.cells y T)).heap[w.heap.size]? = some (.cells x T (0, 0)) ∧ ((w.alloc (.cells x T)).alloc (.cells y T)).heap[w.heap.size + 1]? = some (.cells y T (0, 0)) := by
  constructor
  · exact (Below.heap_alloc _ _ _ (by simp)).trans (World.alloc_heap_new w _)
  · have := World.alloc_heap_new (w.alloc (.cells x T)) (.cells y T)
    rwa [World.size_alloc] at this
theorem cell_of_heap {W : World} {B : Nat} {cs : Array Value} {T : TypeId} (h : W.heap[B]? = some (.cells cs T (0, 0))) (j : Nat) : W.cell? ⟨B, j, none⟩ = cs[j]? := by
  simp [World.cell?, h]
end Go.Proofs.Ytblbphnmflbepaa

