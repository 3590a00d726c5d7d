/- Flight: rows of truths and numbers beside a table. -/
import Derived.Test.YtblbphnmflbepaaFlO
import Derived.Deep.OwnRows
namespace Go.Proofs.Ytblbphnmflbepaa
open Go.RowKit Go.Shelf Go.Sq
set_option linter.unusedVariables false

def RBl (w : World) (g : Nat) (A : List Bool) : Prop := w.heap[g]? = some (.cells (A.map Value.bool).toArray 4 (0, 0))
def RIn (w : World) (g : Nat) (A : List Int) : Prop := w.heap[g]? = some (.cells (A.map (Value.int .i64)).toArray 3 (0, 0))
theorem RBl.cell {w : World} {g : Nat} {A : List Bool} (h : RBl w g A) {k : Nat} (hk : k < A.length) : w.cell? ⟨g, k, none⟩ = some (.bool (A.getD k false)) := by
  unfold RBl at h
  simp [World.cell?, h, List.getD_eq_getElem?_getD, hk]
theorem RIn.cell {w : World} {g : Nat} {A : List Int} (h : RIn w g A) {k : Nat} (hk : k < A.length) : w.cell? ⟨g, k, none⟩ = some (.int .i64 (A.getD k 0)) := by
  unfold RIn at h
  simp [World.cell?, h, List.getD_eq_getElem?_getD, hk]
theorem RBl.setRow {w : World} {g : Nat} {A : List Bool} (h : RBl w g A) (k : Nat) (x : Bool) : w.setCell ⟨g, k, none⟩ (.bool x) = w.setRow g ((A.set k x).map Value.bool).toArray := by
  rw [setCell_eq_setRow w g k _ _ (0, 0) (.bool x) h]
  simp [List.map_set]
theorem RIn.setRow {w : World} {g : Nat} {A : List Int} (h : RIn w g A) (k : Nat) (x : Int) : w.setCell ⟨g, k, none⟩ (.int .i64 x) = w.setRow g ((A.set k x).map (Value.int .i64)).toArray := by
  rw [setCell_eq_setRow w g k _ _ (0, 0) (.int .i64 x) h]
  simp [List.map_set]
theorem made_bools : madeCells #[.bool false] 12 = ((List.replicate 12 false).map Value.bool).toArray := by kernel_rfl
theorem made_ints : madeCells #[.int .i64 0] 12 = ((List.replicate 12 (0 : Int)).map (Value.int .i64)).toArray := by kernel_rfl

theorem heap5 (w : World) (o1 o2 o3 o4 o5 : Obj) : ∀ W, W = ((((w.alloc o1).alloc o2).alloc o3).alloc o4).alloc o5 →
    W.heap[w.heap.size]? = some o1 ∧ W.heap[w.heap.size + 1]? = some o2 ∧ W.heap[w.heap.size + 1 + 1]? = some o3 ∧ W.heap[w.heap.size + 1 + 1 + 1]? = some o4 ∧ W.heap[w.heap.size + 1 + 1 + 1 + 1]? = some o5 ∧ W.heap.size = w.heap.size + 5 ∧ Below w.heap.size w W := by
  intro W hW
  obtain ⟨h1, h2, h3, h4, h5, _, h7, h8⟩ := heap6 w o1 o2 o3 o4 o5 o5 _ rfl
  subst hW
  have old : ∀ (W : World) (o : Obj) (k : Nat), k < W.heap.size → (W.alloc o).heap[k]? = W.heap[k]? := fun W o k h => Lib.alloc_old W o k h
  have hz : (((((w.alloc o1).alloc o2).alloc o3).alloc o4).alloc o5).heap.size = w.heap.size + 5 := by simp only [World.size_alloc]
  rw [old _ _ _ (by rw [hz]; omega)] at h1 h2 h3 h4 h5
  exact ⟨h1, h2, h3, h4, h5, hz, (((((Below.refl _ w).alloc (by simp) _).alloc (by simp) _).alloc (by simp; omega) _).alloc (by simp; omega) _).alloc (by simp; omega) _⟩
/-- a truth in a variable of its own -/
theorem results_box {fn : Func} {q : Tmp} (h : fn.results = #[.cell q 4]) (tmps : Array Value) (w : World) (b : Nat) (y : Bool)
    (hq : tmps.getD q undef = .pointer (some ⟨b, 0, none⟩)) (hy : w.heap[b]? = some (.cells #[.bool y] 4 (0, 0))) :
    (results fn tmps).run Try.prog w = .ok (.bool y) w := by
  have hb : ∀ w, (isAgg 4).run Try.prog w = .ok false w := fun w => by simp [isAgg, go_sem]
  have hq' : tmps[q]?.getD undef = .pointer (some ⟨b, 0, none⟩) := by simpa using hq
  have hyc : w.cell? ⟨b, 0, none⟩ = some (.bool y) := by simp [World.cell?, hy]
  have hl2 : (loadVar 4 ⟨b, 0, none⟩).run Try.prog w = .ok (.bool y) w := by
    simp [loadVar, load, Sem.run_bind, hb, Result.andThen, go_sem]
    simp [Sem.run, hyc]
  simp [results, h, hq', asAddr, hl2]

/-- the boxes of the room's law: blocks b4 (the answer), g6, b6 (who is in), g7, b7 (their numbers), b8 (how many) -/
structure RB (b4 g6 : Nat) (A : List Bool) (I : List Int) (n : Int) (W : World) : Prop where
  bl : RBl W g6 A
  il : RIn W (g6 + 1 + 1) I
  h4 : W.heap[b4]? = some (.cells #[.bool false] 4 (0, 0))
  h6 : W.heap[g6 + 1]? = some (.cells #[.slice (some ⟨g6, 0, none⟩) 12 12] 67 (0, 0))
  h7 : W.heap[g6 + 1 + 1 + 1]? = some (.cells #[.slice (some ⟨g6 + 1 + 1, 0, none⟩) 12 12] 66 (0, 0))
  h8 : W.heap[g6 + 1 + 1 + 1 + 1]? = some (.cells #[.int .i64 n] 3 (0, 0))
theorem RB.map {b4 g6 : Nat} {A : List Bool} {I : List Int} {n : Int} {W W' : World} (h : RB b4 g6 A I n W) (hm : ∀ k cs T fr, T ≠ 36 → (k = b4 ∨ g6 ≤ k) → W.heap[k]? = some (.cells cs T fr) → W'.heap[k]? = some (.cells cs T fr)) : RB b4 g6 A I n W' :=
  ⟨hm _ _ _ _ (by decide) (by omega) h.bl, hm _ _ _ _ (by decide) (by omega) h.il, hm _ _ _ _ (by decide) (by omega) h.h4, hm _ _ _ _ (by decide) (by omega) h.h6, hm _ _ _ _ (by decide) (by omega) h.h7, hm _ _ _ _ (by decide) (by omega) h.h8⟩
theorem RB.below {b4 g6 : Nat} {A : List Bool} {I : List Int} {n : Int} {W W' : World} (h : RB b4 g6 A I n W) (hb : Below W.heap.size W W') : RB b4 g6 A I n W' :=
  h.map fun k cs T fr _ _ hk => (hb.block k (Array.getElem?_eq_some_iff.1 hk).1).trans hk
theorem RB.keeps {b4 g6 base b : Nat} {most : Int} {l : List Sn} {A : List Bool} {I : List Int} {n : Int} {W W' : World} (h : RB b4 g6 A I n W) (hk : KeepsT b W W') (hT : IsTab base b most l W) (h4 : b4 < b) (h6 : b < g6) : RB b4 g6 A I n W' :=
  h.map fun k cs T fr hT2 hkk hh => hk.ty hT (by omega) hT2 hh
theorem ownFrom_const {β : Type} (B : Nat) (p : Prop) : OwnFrom B (fun (_ : β) _ => p) := fun _ _ _ _ hs _ _ => hs
theorem act_gen {F : Fence} {n : Nat} {P : Program} {c : Code} {Q : Exit → Act → World → Prop} {T : Array Value} {W : World} (h : ∀ T', T' = T → c.wpIn F n P Q ⟨T', []⟩ W) : c.wpIn F n P Q ⟨T, []⟩ W := h T rfl
theorem ownFrom_size {β : Type} (B n : Nat) : OwnFrom B (fun (_ : β) W => n ≤ W.heap.size) := fun _ _ _ _ hs hg _ => Nat.le_trans hs hg.size
theorem ownFrom_RB {β : Type} (B b4 g6 : Nat) (A : List Bool) (I : List Int) (f : β → Int) : OwnFrom B (fun s W => RB b4 g6 A I (f s) W) := fun s W W' row hs hg hr =>
  ⟨ownFrom_heap B _ (fun _ : β => _) _ _ s W W' row hs.bl hg hr, ownFrom_heap B _ (fun _ : β => _) _ _ s W W' row hs.il hg hr, ownFrom_heap B _ (fun _ : β => _) _ _ s W W' row hs.h4 hg hr, ownFrom_heap B _ (fun _ : β => _) _ _ s W W' row hs.h6 hg hr, ownFrom_heap B _ (fun _ : β => _) _ _ s W W' row hs.h7 hg hr, ownFrom_heap B _ (fun s : β => #[.int .i64 (f s)]) _ _ s W W' row hs.h8 hg hr⟩
def lastJ (pre : List Sn) : Int := match pre.getLast? with
  | some s => s.job
  | none => -1
theorem lastJ_snoc (pre : List Sn) (x : Sn) : lastJ (pre ++ [x]) = x.job := by simp [lastJ]
theorem lastJ_lt {pre l : List Sn} {x : Sn} (h : pre ++ [x] <+: l) (hup : JobsUp l) (h0 : 0 ≤ x.job) : lastJ pre < x.job := by
  obtain ⟨t, rfl⟩ := h
  unfold lastJ
  rcases List.eq_nil_or_concat pre with rfl | ⟨p, y, rfl⟩
  · simp; omega
  · have := hup p.length (p.length + 1) (by omega) (by simp)
    simp [jobAt] at this ⊢
    exact this
structure RBF (b4 g6 : Nat) (A : List Bool) (I : List Int) (n : Int) (q : Nat) (W : World) : Prop where
  c0 : W.cell? ⟨g6, q, none⟩ = some (.bool (A.getD q false))
  c1 : W.cell? ⟨g6 + 1, 0, none⟩ = some (.slice (some ⟨g6, 0, none⟩) 12 12)
  c2 : W.cell? ⟨g6 + 1 + 1, q, none⟩ = some (.int .i64 (I.getD q 0))
  c3 : W.cell? ⟨g6 + 1 + 1 + 1, 0, none⟩ = some (.slice (some ⟨g6 + 1 + 1, 0, none⟩) 12 12)
  c4 : W.cell? ⟨g6 + 1 + 1 + 1 + 1, 0, none⟩ = some (.int .i64 n)
  f0 : W.frozen? ⟨g6, q, none⟩ = false
  f2 : W.frozen? ⟨g6 + 1 + 1, q, none⟩ = false
  f4 : W.frozen? ⟨g6 + 1 + 1 + 1 + 1, 0, none⟩ = false
theorem RB.f {b4 g6 : Nat} {A : List Bool} {I : List Int} {n : Int} {W : World} (h : RB b4 g6 A I n W) {q : Nat} (hA : q < A.length) (hI : q < I.length) : RBF b4 g6 A I n q W :=
  ⟨h.bl.cell hA, by simp [World.cell?, h.h6], h.il.cell hI, by simp [World.cell?, h.h7], by simp [World.cell?, h.h8], frozen_row h.bl _, frozen_row h.il _, frozen_row h.h8 _⟩
/-- one block turned -/
theorem RB.row {b4 g6 : Nat} {A : List Bool} {I : List Int} {n : Int} {W : World} (h : RB b4 g6 A I n W) {k : Nat} {cs : Array Value} (hk : k ≠ g6 ∧ k ≠ g6 + 1 + 1 ∧ k ≠ b4 ∧ k ≠ g6 + 1 ∧ k ≠ g6 + 1 + 1 + 1 ∧ k ≠ g6 + 1 + 1 + 1 + 1) : RB b4 g6 A I n (W.setRow k cs) :=
  ⟨(setRow_other _ _ _ _ (Ne.symm hk.1)).trans h.bl, (setRow_other _ _ _ _ (Ne.symm hk.2.1)).trans h.il, (setRow_other _ _ _ _ (Ne.symm hk.2.2.1)).trans h.h4, (setRow_other _ _ _ _ (Ne.symm hk.2.2.2.1)).trans h.h6, (setRow_other _ _ _ _ (Ne.symm hk.2.2.2.2.1)).trans h.h7, (setRow_other _ _ _ _ (Ne.symm hk.2.2.2.2.2)).trans h.h8⟩
theorem RB.drew {b4 g6 : Nat} {A : List Bool} {I : List Int} {n : Int} {W : World} (h : RB b4 g6 A I n W) : RB b4 g6 A I n W.drew := ⟨h.bl, h.il, h.h4, h.h6, h.h7, h.h8⟩
theorem RB.set6 {b4 g6 : Nat} {A : List Bool} {I : List Int} {n : Int} {W : World} (h : RB b4 g6 A I n W) (hb : b4 < g6) (k : Nat) (x : Bool) : RB b4 g6 (A.set k x) I n (W.setCell ⟨g6, k, none⟩ (.bool x)) := by
  rw [h.bl.setRow]
  exact ⟨heap_row h.bl, (setRow_other _ _ _ _ (by omega)).trans h.il, (setRow_other _ _ _ _ (by omega)).trans h.h4, (setRow_other _ _ _ _ (by omega)).trans h.h6, (setRow_other _ _ _ _ (by omega)).trans h.h7, (setRow_other _ _ _ _ (by omega)).trans h.h8⟩
theorem RB.set7 {b4 g6 : Nat} {A : List Bool} {I : List Int} {n : Int} {W : World} (h : RB b4 g6 A I n W) (hb : b4 < g6) (k : Nat) (x : Int) : RB b4 g6 A (I.set k x) n (W.setCell ⟨g6 + 1 + 1, k, none⟩ (.int .i64 x)) := by
  rw [h.il.setRow]
  exact ⟨(setRow_other _ _ _ _ (by omega)).trans h.bl, heap_row h.il, (setRow_other _ _ _ _ (by omega)).trans h.h4, (setRow_other _ _ _ _ (by omega)).trans h.h6, (setRow_other _ _ _ _ (by omega)).trans h.h7, (setRow_other _ _ _ _ (by omega)).trans h.h8⟩
theorem RB.set8 {b4 g6 : Nat} {A : List Bool} {I : List Int} {n : Int} {W : World} (h : RB b4 g6 A I n W) (hb : b4 < g6) (x : Int) : RB b4 g6 A I x (W.setCell ⟨g6 + 1 + 1 + 1 + 1, 0, none⟩ (.int .i64 x)) := by
  rw [setCell_eq_setRow W _ 0 _ _ (0, 0) (.int .i64 x) h.h8]
  exact ⟨(setRow_other _ _ _ _ (by omega)).trans h.bl, (setRow_other _ _ _ _ (by omega)).trans h.il, (setRow_other _ _ _ _ (by omega)).trans h.h4, (setRow_other _ _ _ _ (by omega)).trans h.h6, (setRow_other _ _ _ _ (by omega)).trans h.h7, heap_row h.h8⟩
/-- a table keeps when a block of another type is turned -/
theorem tab_set {w : World} {g base b k : Nat} {most : Int} {l : List Sn} {cs : Array Value} {T : TypeId} {fr : Nat × Nat} {x : Value} (hT : IsTab base b most l w) (h : w.heap[g]? = some (.cells cs T fr)) (hg : g ≠ b) (hTy : T ≠ 36) : IsTab base b most l (w.setCell ⟨g, k, none⟩ x) := by
  rw [setCell_eq_setRow w g k _ _ fr x h]
  obtain ⟨h0, v, h1, h2⟩ := hT
  have hne : v.ownBlock ≠ some g := own_ne h2 h hTy
  refine ⟨h0, v, (setRow_other _ _ _ _ (Ne.symm hg)).trans h1, h2.kept (row := some g) ⟨rfl, rfl, rfl, by rw [setRow_size]; exact Nat.le_refl _, fun k hk hn => setRow_other _ _ _ _ (fun e => hn (by rw [e]))⟩ (.inr hne)⟩
/-- who is in, and with what number -/
def gR (A : List Bool) (I : List Int) (i : Nat) : Option Sn := if A.getD i false then some (sentN i (I.getD i 0) 9 7) else none
theorem gR_true {A : List Bool} {I : List Int} {i : Nat} (h : A.getD i false = true) : gR A I i = some (sentN i (I.getD i 0) 9 7) := by unfold gR; rw [h]; rfl
theorem gR_false {A : List Bool} {I : List Int} {i : Nat} (h : A.getD i false = false) : gR A I i = none := by unfold gR; rw [h]; rfl
theorem gR_jobs (A : List Bool) (I : List Int) : Jobs (gR A I) := fun k s h => by
  unfold gR at h
  split at h
  · cases h; rfl
  · cases h
theorem gR_set {A : List Bool} {I : List Int} {k : Nat} (hk : k < A.length) (hi : k < I.length) (x : Int) : gR (A.set k true) (I.set k x) = upd (gR A I) k (some (sentN k x 9 7)) := by
  funext j
  unfold gR upd
  by_cases h : j = k
  · subst h
    rw [if_pos rfl, getD_set_eq' A _ _ hk, getD_set_eq' I _ _ hi]; rfl
  · rw [if_neg h, getD_set_ne' A _ _ h, getD_set_ne' I _ _ h]
theorem gR_none (N : Nat) : LF N (gR (List.replicate 12 false) (List.replicate 12 0)) = [] := by
  unfold LF
  refine List.eq_nil_iff_forall_not_mem.2 fun s hs => ?_
  obtain ⟨k, _, h2, h3⟩ := mem_part hs
  rw [gR_false (by rw [List.getD_eq_getElem?_getD, List.getElem?_replicate]; split <;> rfl)] at h3
  cases h3
theorem gR_ok (N : Nat) (A : List Bool) (I : List Int) : SnOk (LF N (gR A I)) := fun s hs => by
  obtain ⟨k, _, h⟩ := LF_mem hs
  unfold gR at h
  split at h
  · cases h; exact (by decide : (3 : Nat) ≤ maxLen)
  · cases h
/-- one more: what is told, and what is there -/
theorem room_add {A : List Bool} {I : List Int} {k : Nat} (hA : A.length = 12) (hI : I.length = 12) (hk : k < 12) (x most : Int) :
    addN most (LF 12 (gR A I)) (sentN k x 9 7) = (if A.getD k false = true ∨ ((LF 12 (gR A I)).length : Int) < most then (LF 12 (gR (A.set k true) (I.set k x)), 0) else (LF 12 (gR A I), 4)) ∧
    (LF 12 (gR (A.set k true) (I.set k x))).length = (LF 12 (gR A I)).length + (if A.getD k false then 0 else 1) := by
  have hset := gR_set (A := A) (I := I) (by omega : k < A.length) (by omega) x
  cases h : A.getD k false with
  | true =>
    rw [LF_add_some (gR_jobs A I) hk (gR_true h) rfl, if_pos (.inl rfl), hset]
    exact ⟨rfl, LF_len_some hk (gR_true h) _⟩
  | false =>
    rw [LF_add_none (gR_jobs A I) hk (gR_false h) rfl, hset]
    refine ⟨?_, LF_len_none hk (gR_false h) _⟩
    by_cases hm : most ≤ ((LF 12 (gR A I)).length : Int)
    · rw [if_pos hm, if_neg (by simp; omega)]
    · rw [if_neg hm, if_pos (.inr (by omega))]
end Go.Proofs.Ytblbphnmflbepaa

