/- The contracts of record.made, MakeA. -/
import Derived.Test.YthfpijacemkbbaaDoorRqC
import Derived.Laws.CopyOwn
namespace Go.Proofs.YthfpijacemkbbaaDoor
open Go.RowKit
set_option linter.unusedVariables false

/-- no record -/
def rZ : Rc.RR := ⟨[], 0, 0, 0, []⟩
theorem undRR : ∃ fs, Tryd.prog.underlying 23 = some (.struct fs) := ⟨_, Tryd.underlying23⟩
theorem infoR5 : (Tryd.prog.info? 23).map (·.size) = some 5 := by kernel_rfl
theorem ret_rr {fn : Func} {p : Tmp} {a : Act} {W : World} {R : Ending → World → Prop} {r : Rc.RR} {g : Nat} (hr : fn.results = #[.cell p 23]) (hp : a.tmps.getD p undef = .pointer (some ⟨g, 0, none⟩)) (hd : a.defers = [])
    (hg : W.heap[g]? = some (.cells (rrC r) 23 (0, 0))) (h : R (.returned (rrV r)) W) : bodyPost Tryd.prog fn R Exit.ret a W := by
  obtain ⟨fs, hu⟩ := undRR
  exact bodyPost_ret (results_cell_row hr _ _ g _ _ (0, 0) _ hp hg hu rfl infoR5) hd h
def madeN (r : Rc.RR) : Rc.RR := if checkB r then r else rZ
set_option maxRecDepth 100000 in
set_option maxHeartbeats 4000000 in
theorem made_any (n d : List UInt8) (t ttl : Int) (w : World) (hn : n.length ≤ maxLen) (hd : d.length ≤ maxLen) :
    Calls Tryd.prog 54 #[.string (mk n), .int .i64 t, .int .i64 ttl, .string (mk d)] w fun e w' => e = .returned (rrV (madeN ⟨n, t, 1, ttl, d⟩)) ∧ Below w.heap.size w w' := by
  have hc := Check_any ⟨n, t, 1, ttl, d⟩
  have hch := fun W => hc W ⟨hn, hd⟩
  clear hc
  have hm : madeN ⟨n, t, 1, ttl, d⟩ = if checkB ⟨n, t, 1, ttl, d⟩ then ⟨n, t, 1, ttl, d⟩ else rZ := rfl
  generalize checkB ⟨n, t, 1, ttl, d⟩ = cb at *
  have HCH := Go.Lib.hid hch
  have HM := Go.Lib.hid hm
  clear hch hm
  go_enter Tryd.func54, Tryd.ntmps54
  go_wp2_with fail
  obtain ⟨hZ, hR⟩ := two_boxes w (rrC rZ) (rrC ⟨n, t, 1, ttl, d⟩) 23
  have hb0 : Below w.heap.size w ((w.alloc (.cells (rrC rZ) 23)).alloc (.cells (rrC ⟨n, t, 1, ttl, d⟩) 23)) := ((Below.refl _ w).alloc (Nat.le_refl _) _).alloc (by simp) _
  change Calls _ _ _ ((w.alloc (.cells (rrC rZ) 23)).alloc (.cells (rrC ⟨n, t, 1, ttl, d⟩) 23)) _
  generalize (w.alloc (.cells (rrC rZ) 23)).alloc (.cells (rrC ⟨n, t, 1, ttl, d⟩) 23) = X at *
  refine (HCH.out _).mono ?_; rintro e X1 ⟨rfl, hx⟩
  have hZ1 := (hx.block _ (Array.getElem?_eq_some_iff.1 hZ).1).trans hZ
  have hR1 := (hx.block _ (Array.getElem?_eq_some_iff.1 hR).1).trans hR
  have hb1 := hb0.trans (hx.mono hb0.size)
  have hg := cell_of_heap hR1
  have c0 : X1.cell? ⟨w.heap.size + 1, 0, none⟩ = some (.string (mk n)) := hg 0
  have c1 : X1.cell? ⟨w.heap.size + 1, 1, none⟩ = some (.int .i64 t) := hg 1
  have c2 : X1.cell? ⟨w.heap.size + 1, 2, none⟩ = some (.int .i64 1) := hg 2
  have c3 : X1.cell? ⟨w.heap.size + 1, 3, none⟩ = some (.int .i64 ttl) := hg 3
  have c4 : X1.cell? ⟨w.heap.size + 1, 4, none⟩ = some (.string (mk d)) := hg 4
  have hone1 : (rrC rZ).all (·.oneCell') = true := by simp [rrC, Value.oneCell']
  have hone2 : (rrC ⟨n, t, 1, ttl, d⟩).all (·.oneCell') = true := by simp [rrC, Value.oneCell']
  have HZ := Go.Lib.hid hZ1
  have HB := Go.Lib.hid hb1
  have HONE1 := Go.Lib.hid hone1
  have HONE2 := Go.Lib.hid hone2
  clear hZ1 hb1 hone1 hone2
  clear hg hx hZ hR hR1 hb0
  cases cb with
  | false =>
    go_wp2_with (refine wpList_store_row rfl 23 (.tmp 8) (.tmp 18) rfl w.heap.size (rrC rZ) rfl rfl _ _ HZ.out infoR5 rfl HONE1.out ?_)
    refine ret_rr (r := rZ) rfl rfl rfl (setRow_heap X1 w.heap.size _ (rrC rZ) _ _ HZ.out) ⟨by rw [HM.out]; rfl, below_setRow HB.out (Nat.le_refl _) _⟩
  | true =>
    go_wp2_with (refine wpList_store_row rfl 23 (.tmp 8) (.tmp 19) rfl w.heap.size (rrC ⟨n, t, 1, ttl, d⟩) rfl rfl _ _ HZ.out infoR5 rfl HONE2.out ?_)
    refine ret_rr (r := ⟨n, t, 1, ttl, d⟩) rfl rfl rfl (setRow_heap X1 w.heap.size _ (rrC ⟨n, t, 1, ttl, d⟩) _ _ HZ.out) ⟨by rw [HM.out]; rfl, below_setRow HB.out (Nat.le_refl _) _⟩
end Go.Proofs.YthfpijacemkbbaaDoor

