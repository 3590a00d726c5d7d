/- A range over a function whose rounds come in a known way: the caller owes a round only for what may come next. No conditions beside. -/
import Derived.Test.YtblbphnmflbepaaSeq
namespace Go.Sq
open Go Go.RowKit

/-- an iterator's contract: 'Ok xs': xs may come so; a round is asked only where that holds with the new one -/
def SeqOk {α : Type} (F : Fence) (n : Nat) (P : Program) (g : Nat) (lb : Array Value) (encs : α → Array Value) (Kp : World → World → Prop) (Ok S Sp : List α → Prop) (w : World) : Prop :=
  ∀ (l : Nat) (J Jx : List α → World → Prop) (W : World), Below w.heap.size w W → AbidesFrom W.heap.size J → AbidesFrom W.heap.size Jx →
    (∀ pre x W1, J pre W1 → Ok (pre ++ [x]) → YieldAt F (n - 1) P l (encs x) W1 fun e W' =>
      (e = .returned (.bool true) ∧ J (pre ++ [x]) W' ∧ Kp W1 W') ∨ (e = .returned (.bool false) ∧ Jx (pre ++ [x]) W')) →
    J [] W →
    CallsIn F n P g (#[.func (.yield l) #[] #[]] ++ lb) W fun e W' => (∃ v, e = .returned v) ∧ ((∃ xs, S xs ∧ J xs W') ∨ (∃ pre, Sp pre ∧ Jx pre W'))

/-- the loop's two blocks of book-keeping -/
structure Held (B : Nat) (r : Loop) (W : World) : Prop where
  loop : W.heap[B + 1]? = some (.loop r)
  calls : W.heap[B]? = some (.deferred (some []))

theorem Held.lt {B : Nat} {r : Loop} {W : World} (h : Held B r W) : B + 1 < W.heap.size := (Array.getElem?_eq_some_iff.1 h.loop).1
theorem Held.walks {B : Nat} {r : Loop} {W W' : World} {row : Option Nat} (h : Held B r W) (hg : W.grownBy W' row) (hr : ∀ k, row = some k → ∃ o : Obj, W.heap[k]? = some o ∧ o.isWalk = true) : Held B r W' :=
  ⟨(grownBy_keeps hg hr h.loop rfl).trans h.loop, (grownBy_keeps hg hr h.calls rfl).trans h.calls⟩
theorem Held.from {B : Nat} {r : Loop} {W W' : World} (h : Held B r W) (hk : KeepsFrom B W W') : Held B r W' := ⟨hk.same _ _ (by omega) h.loop rfl, hk.same _ _ (Nat.le_refl _) h.calls rfl⟩
theorem Held.put {B : Nat} {r : Loop} {W : World} (h : Held B r W) (r' : Loop) : Held B r' (W.putObj (B + 1) (.loop r')) :=
  ⟨World.putObj_heap_same h.lt, (World.putObj_heap_other (by omega)).trans h.calls⟩

variable {F : Fence} {n : Nat} {P : Program}

theorem wpIn_rangeFunc_ok {α : Type} {g : Operand} {ps : Array Tmp} {assign body : Code} {Q : Exit → Act → World → Prop} {a : Act} {w : World}
    (hro : F.round = none) (h1 : 1 ≤ n) {gf : Nat} {lb : Array Value} (hg : a.eval g = .func (.func gf) #[] lb) (hFg : F.fn gf) (eg : ∀ args w, (callFunc gf args).run P w = .ok (.enter gf args) w)
    {encs : α → Array Value} {Kp : World → World → Prop} {Ok S Sp : List α → Prop} {w0 : World} (hseq : SeqOk F (n - 1) P gf lb encs Kp Ok S Sp w0)
    (hKt : ∀ {A B C : World}, Kp A B → Kp B C → Kp A C) (hKb : ∀ (W : World) (l : Nat) (o o' : Obj), w.heap.size ≤ l → W.heap[l]? = some o → o.isCells = false → o.isWalk = false → Kp W (W.putObj l o')) (hb0 : Below w0.heap.size w0 w) (hps : ∀ x, (encs x).size = ps.size)
    (I : List α → World → Prop) (Ix : Code → List α → World → Prop) (hI : OwnFrom w.heap.size I) (hIx : ∀ c, OwnFrom w.heap.size (Ix c)) (h0 : I [] w) (Ax : α → Act → World → Prop) (hAx : ∀ x a', OwnFrom w.heap.size (fun (_ : Unit) W => Ax x a' W))
    (hassign : ∀ (l : Nat) (pre : List α) (x : α) (W : World) (K : Act → World → Prop), I pre W → Ok (pre ++ [x]) → (∀ a' W', KeepsFrom w.heap.size W W' → Kp W W' → I pre W' → Ax x a' W' → K a' W') →
      assign.wpIn (F.inRound l) (n - 1 - 1) P (Exit.then K (fun _ _ _ => False)) { tmps := (ps.zip (encs x)).foldl (fun t (p, v) => t.setIfInBounds p v) a.tmps, defers := [] } W)
    (hbody : ∀ (l : Nat) (pre : List α) (x : α) (a' : Act) (W : World), I pre W → Ok (pre ++ [x]) → Ax x a' W → body.wpIn (F.inRound l) (n - 1 - 1) P (ownPostG w.heap.size Kp I Ix (pre ++ [x]) W) a' W)
    (hdone : ∀ (D : Nat) (xs : List α) (W : World), w.heap.size ≤ D → S xs → I xs W → W.heap[D]? = some (.deferred (some [])) → Q .normal { a with defers := { target := .collected D, args := #[] } :: a.defers } W)
    (hstop : ∀ (D : Nat) (c : Code) (pre : List α) (W : World), w.heap.size ≤ D → Sp pre → Ix c pre W → W.heap[D]? = some (.deferred (some [])) → c.wpIn F n P Q { a with defers := { target := .collected D, args := #[] } :: a.defers } W) :
    (Code.rangeFunc g ps assign body).wpIn F n P Q a w := by
  refine wpIn_rangeFunc fun fn hfn => ?_
  rw [hro]
  obtain ⟨rc, hrc⟩ : ∃ rc : LoopState → Option Code → Loop, rc = fun st pe => { state := st, pending := pe, fn, tmps := a.tmps, params := ps, assign, body, defers := w.heap.size } := ⟨_, rfl⟩
  obtain ⟨V, hV⟩ : ∃ V, (w.alloc (.deferred (some []))).alloc (.loop (rc .ready none)) = V := ⟨_, rfl⟩
  have hVs : V.heap.size = w.heap.size + 2 := by rw [← hV]; simp
  have hheld : Held w.heap.size (rc .ready none) V := by
    rw [← hV]
    refine ⟨?_, (Below.heap_alloc _ _ _ (by simp)).trans (World.alloc_heap_new w _)⟩
    have := World.alloc_heap_new (w.alloc (.deferred (some []))) (.loop (rc .ready none))
    rwa [World.size_alloc] at this
  have hIV : I [] V := by rw [← hV]; exact hI.alloc _ (hI.alloc _ h0)
  have hbV : Below w0.heap.size w0 V := by rw [← hV]; exact hb0.trans ((((Below.refl _ w).alloc (Nat.le_refl _) _).alloc (by simp) _).mono hb0.size)
  refine ⟨w.heap.size + 1, [{ target := .collected w.heap.size, args := #[] }], V, { target := .fn (.func gf) lb, args := #[.func (.yield (w.heap.size + 1)) #[] #[]] }, V, gf,
    #[.func (.yield (w.heap.size + 1)) #[] #[]] ++ lb, V, ?_, ?_, ?_, ?_, fun _ => h1, ?_⟩
  · rw [← hV, hrc]; exact run_enterLoop_outer _ _ _ _ _
  · simp only [resolve, hg]
    simp [go_sem]
  · intro f' hf'; simp [Target.leads] at hf'; subst hf'; exact hFg
  · simp [invoke, go_sem, eg]
  have other : ∀ {A : World} {row : Option Nat}, (∀ r, row = some r → V.heap.size ≤ r ∧ ∃ o : Obj, A.heap[r]? = some o ∧ o.isWalk = true) → ∀ r, row = some r → w.heap.size ≤ r ∧ ∃ o : Obj, A.heap[r]? = some o ∧ o.isCells = false := fun hr r e => by
    obtain ⟨hB, o, ho, hw⟩ := hr r e
    exact ⟨by omega, o, ho, Obj.not_cells_of_walk hw⟩
  refine (hseq (w.heap.size + 1) (fun pre W => I pre W ∧ Held w.heap.size (rc .ready none) W) (fun pre W => ∃ c, Ix c pre W ∧ Held w.heap.size (rc .done (some c)) W) V hbV
    (fun s A B row hs hg' hr => ⟨hI s A B row hs.1 hg' (other hr), hs.2.walks hg' (fun r e => (hr r e).2)⟩)
    (fun s A B row hs hg' hr => by
      obtain ⟨c, hc, hh⟩ := hs
      exact ⟨c, hIx c s A B row hc hg' (other hr), hh.walks hg' (fun r e => (hr r e).2)⟩)
    ?_ ⟨hIV, hheld⟩).mono ?_
  · -- one round
    rintro pre x W ⟨hi, hh⟩ hok
    have hy := run_yield (P := P) (args := encs x) hh.loop (by rw [hrc]; exact hps x)
    rw [hrc] at hy
    refine ⟨fn, _, assign, body, hy, roundIn_of_wpIn hfn (hassign _ pre x W _ hi hok ?_)⟩
    intro a' U hku hkp hiu hax
    have hu := hh.from hku
    refine ⟨_, run_beginRound hu.loop (by rw [hrc]), ?_⟩
    have hbusy := hu.put { rc .ready none with state := .busy }
    have hkb : Kp U (U.putObj (w.heap.size + 1) (.loop { rc .ready none with state := .busy })) := hKb _ _ _ _ (by omega) hu.loop rfl rfl
    refine wpIn_mono (hbody _ pre x a' _ (hI.putObj _ hiu (by omega) hu.loop rfl) hok ((hAx x a').putObj (s := ()) _ hax (by omega) hu.loop rfl)) ?_
    have fin : ∀ (jump : Option Code) (Z : World), KeepsFrom w.heap.size (U.putObj (w.heap.size + 1) (.loop { rc .ready none with state := .busy })) Z →
        (Instr.endRound (w.heap.size + 1) jump).run P Z = .ok (.bool jump.isNone) (Z.putObj (w.heap.size + 1) (.loop (rc (if jump.isNone then .ready else .done) jump))) ∧
        Held w.heap.size { rc .ready none with state := .busy } Z ∧ Held w.heap.size (rc (if jump.isNone then .ready else .done) jump) (Z.putObj (w.heap.size + 1) (.loop (rc (if jump.isNone then .ready else .done) jump))) := fun jump Z hz => by
      have h3 := hbusy.from hz
      have h4 := run_endRound (P := P) jump h3.loop
      rw [hrc] at h4 ⊢
      rw [hrc] at h3
      exact ⟨h4, h3, h3.put _⟩
    rintro e a3 Z hp
    cases e with
    | normal =>
      obtain ⟨q1, q2, q3⟩ := hp
      obtain ⟨f1, f2, f3⟩ := fin none Z q1
      exact ⟨_, _, f1, .inl ⟨rfl, ⟨hI.putObj _ q3 (by omega) f2.loop rfl, f3⟩, hKt hkp (hKt (hKt hkb q2) (hKb _ _ _ _ (by omega) f2.loop rfl rfl))⟩⟩
    | ret =>
      obtain ⟨q1, q3⟩ := hp
      obtain ⟨f1, f2, f3⟩ := fin (some .ret) Z q1
      exact ⟨_, _, f1, .inr ⟨rfl, .ret, (hIx _).putObj _ q3 (by omega) f2.loop rfl, f3⟩⟩
    | exit id =>
      obtain ⟨q1, q3⟩ := hp
      obtain ⟨f1, f2, f3⟩ := fin (some (.exit id)) Z q1
      exact ⟨_, _, f1, .inr ⟨rfl, .exit id, (hIx _).putObj _ q3 (by omega) f2.loop rfl, f3⟩⟩
    | goto t =>
      obtain ⟨q1, q3⟩ := hp
      obtain ⟨f1, f2, f3⟩ := fin (some (.goto t)) Z q1
      exact ⟨_, _, f1, .inr ⟨rfl, .goto t, (hIx _).putObj _ q3 (by omega) f2.loop rfl, f3⟩⟩
    | panic ch => exact hp.elim
    | outgrown => exact hp.elim
  · -- behind the iterator
    rintro e W2 ⟨⟨v, rfl⟩, (⟨xs, hS, hi, hh⟩ | ⟨pre, hSp, c, hi, hh⟩)⟩
    · have h5 := run_endLoop (P := P) hh.loop (by rw [hrc]; simp)
      rw [hrc] at h5
      exact ⟨none, _, h5, hdone _ xs _ (Nat.le_refl _) hS (hI.putObj _ hi (by omega) hh.loop rfl) ((World.putObj_heap_other (by omega)).trans hh.calls)⟩
    · have h5 := run_endLoop (P := P) hh.loop (by rw [hrc]; simp)
      rw [hrc] at h5
      exact ⟨some c, _, h5, hstop _ c pre _ (Nat.le_refl _) hSp ((hIx c).putObj _ hi (by omega) hh.loop rfl) ((World.putObj_heap_other (by omega)).trans hh.calls)⟩

/-! ### what a round keeps: all rows of some types -/
def KpT (p : Nat → Prop) (W W' : World) : Prop := ∀ (k : Nat) cs (T : TypeId) fr, p T → W.heap[k]? = some (.cells cs T fr) → W'.heap[k]? = some (.cells cs T fr)
variable {p : Nat → Prop}
theorem KpT.refl (W : World) : KpT p W W := fun _ _ _ _ _ h => h
theorem KpT.trans {A B C : World} (h : KpT p A B) (k : KpT p B C) : KpT p A C := fun i cs T fr hT hi => k i cs T fr hT (h i cs T fr hT hi)
theorem KpT.of_below {W W' : World} (h : Below W.heap.size W W') : KpT p W W' := fun k _ _ _ _ hk => (h.block k (Array.getElem?_eq_some_iff.1 hk).1).trans hk
theorem KpT.alloc {A W : World} (h : KpT p A W) (o : Obj) : KpT p A (W.alloc o) := h.trans (.of_below ((Below.refl _ W).alloc (Nat.le_refl _) o))
theorem KpT.drew {A W : World} (h : KpT p A W) : KpT p A W.drew := h
theorem KpT.put (W : World) (l : Nat) (o o' : Obj) (h : W.heap[l]? = some o) (ho : o.isCells = false) : KpT p W (W.putObj l o') := fun k cs T fr _ hk => by
  by_cases e : k = l
  · subst e
    rw [h] at hk
    cases hk
    simp [Obj.isCells] at ho
  · exact (World.putObj_heap_other e).trans hk
theorem KpT.set {A W : World} (h : KpT p A W) {a : Addr} {cs : Array Value} {T : TypeId} {fr : Nat × Nat} (ha : W.heap[a.block]? = some (.cells cs T fr)) (hT : ¬ p T) (v : Value) : KpT p A (W.setCell a v) :=
  h.trans fun k cs' T' fr' hT' hk => by
    by_cases e : k = a.block
    · subst e
      rw [ha] at hk
      cases hk
      exact absurd hT' hT
    · exact (Below.heap_setCell W a v k e).trans hk
theorem KpT.grown {A W W' : World} (h : KpT p A W) {row : Option Nat} (hg : W.grownBy W' row) (hr : ∀ k cs (T : TypeId) fr, row = some k → W.heap[k]? = some (.cells cs T fr) → ¬ p T) : KpT p A W' :=
  h.trans fun k cs T fr hT hk => by
    refine (hg.block k (Array.getElem?_eq_some_iff.1 hk).1 ?_).trans hk
    intro e
    exact hr k cs T fr e.symm hk hT
theorem KpT.cell {W W' : World} (h : KpT p W W') {k o : Nat} {cs : Array Value} {T : TypeId} {fr : Nat × Nat} (hT : p T) (hk : W.heap[k]? = some (.cells cs T fr)) : W'.cell? ⟨k, o, none⟩ = W.cell? ⟨k, o, none⟩ :=
  World.cell?_of_block ((h k cs T fr hT hk).trans hk.symm)
end Go.Sq
