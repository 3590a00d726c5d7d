/- A region whose order is left open, walked once, in the order of the text: sound if all operations but those of one chain (the set E, any two of which wait for one another) yield the same value in every world of a class C, and those of the chain stay in C and do not leave the region. No conditions beside. -/
import Derived.Still
import Derived.Laws.World
namespace Go.Mix
open Go

/-- no way out but the plain one -/
def NoExit : Exit → Act → World → Prop := fun _ _ _ => False

theorem letsOut_noExit : ¬ LetsOut NoExit := fun ⟨_, _, h⟩ => h

/-- does operation j wait for operation i, straight or through others? -/
def dep (md : Region.Mode) (ops : Array Oper) : Nat → Nat → Nat → Bool
  | 0, _, _ => false
  | n + 1, j, i => match ops[j]? with
    | none => false
    | some o => o.after.any fun e => Region.binds md e && (e.on == i || dep md ops n e.on i)

def Down (md : Region.Mode) (ops : Array Oper) (listed : Array Bool) : Prop :=
  ∀ m o, ops[m]? = some o → listed.getD m false = true → ∀ e ∈ o.after, Region.binds md e = true → listed.getD e.on false = true

section
variable {P : Program} {ops : Array Oper} {md : Region.Mode} {E : Nat → Bool} {C : World → Prop}

theorem dep_listed {listed : Array Bool} (hd : Down md ops listed) {i : Nat} (hi : listed.getD i false = false) :
    ∀ (n j : Nat), listed.getD j false = true → dep md ops n j i = false
  | 0, _, _ => rfl
  | n + 1, j, hj => by
    unfold dep
    cases ho : ops[j]? with
    | none => rfl
    | some o =>
      simp only
      cases hb : o.after.any fun e => Region.binds md e && (e.on == i || dep md ops n e.on i) with
      | false => rfl
      | true =>
        obtain ⟨e, he, hh⟩ := Array.any_eq_true'.1 hb
        simp only [Bool.and_eq_true, Bool.or_eq_true, beq_iff_eq] at hh
        have hl := hd j o ho hj e he hh.1
        rcases hh.2 with h | h
        · rw [h, hi] at hl; cases hl
        · rw [dep_listed hd hi n e.on hl] at h; cases h

theorem dep_ready {listed : Array Bool} (hd : Down md ops listed) {i j : Nat} (hi : listed.getD i false = false) (hj : j ∈ Region.ready md ops listed) (n : Nat) :
    dep md ops n j i = false := by
  cases n with
  | zero => rfl
  | succ n =>
    unfold dep
    obtain ⟨_, o, ho, hall⟩ := mem_ready.1 hj
    rw [ho]
    simp only
    cases hb : o.after.any fun e => Region.binds md e && (e.on == i || dep md ops n e.on i) with
    | false => rfl
    | true =>
      obtain ⟨e, he, hh⟩ := Array.any_eq_true'.1 hb
      simp only [Bool.and_eq_true, Bool.or_eq_true, beq_iff_eq] at hh
      have hl := hall e he hh.1
      rcases hh.2 with h | h
      · rw [h, hi] at hl; cases hl
      · rw [dep_listed hd hi n e.on hl] at h; cases h

theorem getD_true_false {listed : Array Bool} {i : Nat} (h : listed.getD i true = false) : listed.getD i false = false := by
  rcases Nat.lt_or_ge i listed.size with h' | h'
  · simp [h'] at h ⊢; exact h
  · simp [Array.getElem?_eq_none h'] at h

theorem Down.ready {listed : Array Bool} (hd : Down md ops listed) {i : Nat} (hi : i ∈ Region.ready md ops listed) : Down md ops (listed.setIfInBounds i true) := by
  intro m o ho hm e he hb
  by_cases hmi : i = m
  · subst hmi
    obtain ⟨_, o', ho', hall⟩ := mem_ready.1 hi
    rw [ho] at ho'
    cases ho'
    exact getD_set_true (hall e he hb)
  · rw [getD_set_ne false hmi] at hm
    exact getD_set_true (hd m o ho hm e he hb)

theorem Down.start (n : Nat) : Down md ops (Array.replicate n false) := by
  intro m o _ hm
  by_cases h : m < n
  · simp [h] at hm
  · simp [h] at hm

/-- operation i comes up in state a, w -/
def mOp (P : Program) (ops : Array Oper) (E : Nat → Bool) (C : World → Prop) (i : Nat) (K : Act → World → Prop) (a : Act) (w : World) : Prop :=
  match ops[i]? with
  | none => K a w
  | some o =>
    if Region.wanted o (yielded ops a.tmps) then
      if E i then o.wp P a w (fun a' w' => C w' ∧ K a' w') NoExit
      else ∃ v, (∀ w2, C w2 → (execOp a.eval o).run P w2 = .ok (.value v) w2) ∧ K (a.put o.dst v) w
    else K (a.put o.dst undef) w

def wpAnyM (P : Program) (md : Region.Mode) (ops : Array Oper) (E : Nat → Bool) (C : World → Prop) (Q : Act → World → Prop) : Nat → Array Bool → Act → World → Prop
  | 0, listed, a, w => Region.ready md ops listed = [] ∧ Q a w
  | fuel + 1, listed, a, w =>
    (Region.ready md ops listed = [] → Q a w) ∧
    ∀ i ∈ Region.ready md ops listed, mOp P ops E C i (wpAnyM P md ops E C Q fuel (listed.setIfInBounds i true)) a w

theorem wp_monoQ {o : Oper} {a : Act} {w : World} {K K' : Act → World → Prop} {Q : Exit → Act → World → Prop} (h : ∀ a w, K a w → K' a w)
    (hh : o.wp P a w K NoExit) : o.wp P a w K' Q := by
  unfold Oper.wp at *
  generalize (execOp a.eval o).run P w = r at *
  cases r with
  | ok n w' =>
    cases n <;> simp only [Oper.upon] at hh ⊢ <;>
      first
        | exact h _ _ hh
        | exact Calls.mono hh (fun e w'' he => by cases e <;> first | exact h _ _ he | exact he.elim | exact (letsOut_noExit he).elim)
        | exact Rows.mono hh (fun _ _ he => h _ _ he)
  | halt x w' => cases x <;> simp only [Oper.upon] at hh ⊢ <;> exact hh.elim

theorem mOp_mono {i : Nat} {a : Act} {w : World} {K K' : Act → World → Prop} (hw : C w) (h : ∀ a w, C w → K a w → K' a w)
    (hh : mOp P ops E C i K a w) : mOp P ops E C i K' a w := by
  unfold mOp at *
  split
  · rename_i ho; simp only [ho] at hh; exact h _ _ hw hh
  · rename_i o ho
    simp only [ho] at hh
    split
    · rename_i hwt
      simp only [hwt, if_true] at hh
      split
      · rename_i hE
        simp only [hE, if_true] at hh
        exact wp_monoQ (fun a w hk => ⟨hk.1, h _ _ hk.1 hk.2⟩) hh
      · rename_i hE
        simp only [hE] at hh
        obtain ⟨v, h1, h2⟩ := hh
        exact ⟨v, h1, h _ _ hw h2⟩
    · rename_i hwt
      simp only [hwt] at hh
      exact h _ _ hw hh

theorem wpOp_of_mOp {i : Nat} {a : Act} {w : World} {K K' : Act → World → Prop} {Q : Exit → Act → World → Prop} (hw : C w) (h : ∀ a w, C w → K a w → K' a w)
    (hh : mOp P ops E C i K a w) : wpOp P ops Q i K' a w := by
  unfold mOp at hh
  unfold wpOp
  split
  · rename_i ho; simp only [ho] at hh; exact h _ _ hw hh
  · rename_i o ho
    simp only [ho] at hh
    split
    · rename_i hwt
      simp only [hwt, if_true] at hh
      refine .inl ?_
      split at hh
      · exact wp_monoQ (fun a w hk => h _ _ hk.1 hk.2) hh
      · obtain ⟨v, h1, h2⟩ := hh
        unfold Oper.wp
        rw [h1 w hw]
        exact h _ _ hw h2
    · rename_i hwt
      simp only [hwt] at hh
      exact h _ _ hw hh

theorem wpAny_of_wpAnyM {Q : Act → World → Prop} {Q' : Exit → Act → World → Prop} (hQ : ∀ a w, C w → Q a w → Q' .normal a w) :
    ∀ (fuel : Nat) (listed : Array Bool) (a : Act) (w : World), C w → wpAnyM P md ops E C Q fuel listed a w → wpAny P md ops Q' fuel listed a w
  | 0, _, _, _, hw, h => ⟨h.1, hQ _ _ hw h.2⟩
  | fuel + 1, _, _, _, hw, h => ⟨fun h0 => hQ _ _ hw (h.1 h0), fun i hi => wpOp_of_mOp hw (fun a' w' hw' => wpAny_of_wpAnyM hQ fuel _ a' w' hw') (h.2 i hi)⟩

theorem Act.defers_put (a : Act) (x : Option Tmp) (v : Value) (ds : List Deferred) :
    ({ a.put x v with defers := ds } : Act) = ({ a with defers := ds } : Act).put x v := by
  cases x <;> rfl

/-- what stands in another operation's temporary makes no difference -/
theorem wp_put {o : Oper} (hsel : ∀ cs b, o.op ≠ .select cs b) {x : Option Tmp} (h1 : ∀ d, x = some d → d ∉ o.looksAt ops) (h2 : ∀ d, x = some d → o.dst ≠ some d)
    (a : Act) (v : Value) (w : World) (K : Act → World → Prop) : o.wp P (a.put x v) w K NoExit ↔ o.wp P a w (fun a' w' => K (a'.put x v) w') NoExit := by
  unfold Oper.wp
  rw [execOp_put (ops := ops) o hsel a x v h1]
  generalize (execOp a.eval o).run P w = r
  have hp : ∀ u, (a.put x v).put o.dst u = (a.put o.dst u).put x v := fun u => Act.put_comm a v u h2
  have hp' : ∀ d, ({ a.put x v with defers := d :: (a.put x v).defers } : Act).put o.dst undef = (({ a with defers := d :: a.defers } : Act).put o.dst undef).put x v := fun d => by
    rw [Act.put_defers, Act.put_comm _ v undef h2]
  cases r with
  | ok n w' =>
    cases n <;> simp only [Oper.upon, hp, hp']
    case enter f args =>
      refine iff_of_eq (congrArg _ (funext fun e => funext fun w'' => ?_))
      cases e <;> simp [NoExit]
  | halt r w' => cases r <;> simp [Oper.upon, NoExit]

/-- some state comes behind it, and it differs in that temporary alone -/
theorem wp_ex {o : Oper} {a : Act} {w : World} {K : Act → World → Prop} (h : o.wp P a w K NoExit) : ∃ u ds w', K (({ a with defers := ds } : Act).put o.dst u) w' := by
  unfold Oper.wp at h
  generalize (execOp a.eval o).run P w = r at h
  cases r with
  | ok n w' =>
    cases n <;> simp only [Oper.upon] at h
    case value v => exact ⟨v, a.defers, w', h⟩
    case skip => exact ⟨undef, a.defers, w', h⟩
    case defer d => exact ⟨undef, d :: a.defers, w', h⟩
    case enter f args =>
      obtain ⟨e, w'', fr, hR, _⟩ := h []
      cases e with
      | returned v => exact ⟨v, a.defers, w'', hR⟩
      | panicked c => exact hR.elim
      | outgrown => exact (letsOut_noExit hR).elim
    case row r args =>
      obtain ⟨v, w'', hR, _⟩ := h (default : Frame) []
      exact ⟨v, a.defers, w'', hR⟩
  | halt x w' => cases x <;> simp only [Oper.upon] at h <;> exact h.elim

theorem wp_shape {o : Oper} {a : Act} {w : World} {K : Act → World → Prop} (h : o.wp P a w K NoExit) :
    o.wp P a w (fun a' w' => (∃ u ds, a' = ({ a with defers := ds } : Act).put o.dst u) ∧ K a' w') NoExit := by
  unfold Oper.wp at *
  generalize (execOp a.eval o).run P w = r at h
  cases r with
  | ok n w' =>
    cases n <;> simp only [Oper.upon] at h ⊢
    case value v => exact ⟨⟨v, a.defers, rfl⟩, h⟩
    case skip => exact ⟨⟨undef, a.defers, rfl⟩, h⟩
    case defer d => exact ⟨⟨undef, d :: a.defers, rfl⟩, h⟩
    case enter f args =>
      refine Calls.mono h fun e w'' he => ?_
      cases e with
      | returned v => exact ⟨⟨v, a.defers, rfl⟩, he⟩
      | panicked c => exact he.elim
      | outgrown => exact (letsOut_noExit he).elim
    case row r args => exact Rows.mono h fun v w'' he => ⟨⟨v, a.defers, rfl⟩, he⟩
  | halt x w' => cases x <;> simp only [Oper.upon] at h <;> exact h.elim

/-- an operation that is not of the chain leaves v in its temporary, in whatever world of C -/
def Leaves (P : Program) (ops : Array Oper) (C : World → Prop) (o : Oper) (v : Value) (a : Act) : Prop :=
  (Region.wanted o (yielded ops a.tmps) = true ∧ ∀ w2, C w2 → (execOp a.eval o).run P w2 = .ok (.value v) w2) ∨ (Region.wanted o (yielded ops a.tmps) = false ∧ v = undef)

theorem Leaves.same {o : Oper} {v : Value} {a a' : Act} (he : execOp a'.eval o = execOp a.eval o)
    (hw : Region.wanted o (yielded ops a'.tmps) = Region.wanted o (yielded ops a.tmps)) : Leaves P ops C o v a' ↔ Leaves P ops C o v a := by
  unfold Leaves; rw [he, hw]

theorem mOp_quiet {i : Nat} {o : Oper} (hi : ops[i]? = some o) (hE : E i = false) (K : Act → World → Prop) (a : Act) (w : World) :
    mOp P ops E C i K a w ↔ ∃ v, Leaves P ops C o v a ∧ K (a.put o.dst v) w := by
  unfold mOp Leaves
  rw [hi]
  simp only [hE]
  by_cases hw : Region.wanted o (yielded ops a.tmps) = true
  · simp [hw]
  · have hw' : Region.wanted o (yielded ops a.tmps) = false := by simpa using hw
    simp [hw']

theorem Leaves.one {o : Oper} {v v' : Value} {a : Act} {w : World} (hw : C w) (h : Leaves P ops C o v a) (h' : Leaves P ops C o v' a) : v = v' := by
  rcases h with ⟨h1, h2⟩ | ⟨h1, rfl⟩ <;> rcases h' with ⟨h3, h4⟩ | ⟨h3, rfl⟩
  · have := (h2 w hw).symm.trans (h4 w hw)
    simpa using this
  · rw [h1] at h3; cases h3
  · rw [h1] at h3; cases h3
  · rfl

theorem mOp_comm {i j : Nat} {oi oj : Oper} (hi : ops[i]? = some oi) (hj : ops[j]? = some oj) (hap : oi.apart ops oj = true)
    (hsi : ∀ cs b, oi.op ≠ .select cs b) (hsj : ∀ cs b, oj.op ≠ .select cs b) (hE : ¬ (E i = true ∧ E j = true))
    {K : Act → World → Prop} {a : Act} {w : World} (hw : C w) (h : mOp P ops E C i (mOp P ops E C j K) a w) : mOp P ops E C j (mOp P ops E C i K) a w := by
  obtain ⟨h1, h2, h3⟩ := Oper.apart_spec hap
  have h2' : ∀ d, oj.dst = some d → oi.dst ≠ some d := fun d hd hd' => h2 d hd' hd
  cases hEi : E i with
  | false =>
    rw [mOp_quiet hi hEi] at h
    obtain ⟨v, hv, h⟩ := h
    have keep : ∀ (ds : List Deferred) u, Leaves P ops C oi v (({ a with defers := ds } : Act).put oj.dst u) := fun ds u =>
      (Leaves.same (execOp_put (ops := ops) oi hsi { a with defers := ds } oj.dst u h3) (wanted_put oi { a with defers := ds } oj.dst u h3)).2 hv
    cases hEj : E j with
    | false =>
      rw [mOp_quiet hj hEj] at h ⊢
      obtain ⟨u, hu, h⟩ := h
      refine ⟨u, (Leaves.same (execOp_put (ops := ops) oj hsj a oi.dst v h1) (wanted_put oj a oi.dst v h1)).1 hu, ?_⟩
      rw [mOp_quiet hi hEi]
      exact ⟨v, keep a.defers u, by rw [← Act.put_comm a v u h2]; exact h⟩
    | true =>
      unfold mOp at h ⊢
      rw [hj] at h ⊢
      simp only [hEj, if_true] at h ⊢
      rw [wanted_put oj a oi.dst v h1] at h
      split
      · rename_i hwt
        simp only [hwt, if_true] at h
        rw [wp_put hsj h1 h2] at h
        refine wp_monoQ ?_ (wp_shape h)
        rintro a' w' ⟨⟨u, ds, rfl⟩, hC, hK⟩
        refine ⟨hC, ?_⟩
        have := (mOp_quiet (P := P) (C := C) hi hEi K (({ a with defers := ds } : Act).put oj.dst u) w').2 ⟨v, keep ds u, hK⟩
        unfold mOp at this
        exact this
      · rename_i hwt
        simp only [hwt] at h
        have := (mOp_quiet (P := P) (C := C) hi hEi K (a.put oj.dst undef) w).2 ⟨v, keep a.defers undef, by rw [← Act.put_comm a v undef h2]; exact h⟩
        unfold mOp at this
        exact this
  | true =>
    have hEj : E j = false := by cases hEj : E j with | false => rfl | true => exact absurd ⟨hEi, hEj⟩ hE
    rw [mOp_quiet hj hEj]
    by_cases hwt : Region.wanted oi (yielded ops a.tmps) = true
    · have h' : oi.wp P a w (fun a' w' => C w' ∧ mOp P ops E C j K a' w') NoExit := by
        have := h
        unfold mOp at this
        rw [hi] at this
        simp only [hEi, hwt, if_true] at this
        refine wp_monoQ ?_ this
        rintro a' w' ⟨hC, hK⟩
        exact ⟨hC, by unfold mOp; exact hK⟩
      have same : ∀ (ds : List Deferred) u v, Leaves P ops C oj v (({ a with defers := ds } : Act).put oi.dst u) ↔ Leaves P ops C oj v a := fun ds u v =>
        Leaves.same (execOp_put (ops := ops) oj hsj { a with defers := ds } oi.dst u h1) (wanted_put oj { a with defers := ds } oi.dst u h1)
      obtain ⟨u, ds, w', hC, hK⟩ := wp_ex h'
      rw [mOp_quiet hj hEj] at hK
      obtain ⟨v, hv, _⟩ := hK
      have hva := (same ds u v).1 hv
      refine ⟨v, hva, ?_⟩
      unfold mOp
      rw [hi]
      simp only [hEi, if_true]
      rw [wanted_put oi a oj.dst v h3]
      simp only [hwt, if_true]
      rw [wp_put hsi h3 h2']
      refine wp_monoQ ?_ (wp_shape h')
      rintro a' w' ⟨⟨u, ds, rfl⟩, hC, hK⟩
      rw [mOp_quiet hj hEj] at hK
      obtain ⟨v', hv', hK⟩ := hK
      obtain rfl := Leaves.one hw hva ((same ds u v').1 hv')
      exact ⟨hC, hK⟩
    · have hwf : Region.wanted oi (yielded ops a.tmps) = false := by simpa using hwt
      have h' : mOp P ops E C j K (a.put oi.dst undef) w := by
        have := h
        unfold mOp at this
        rw [hi] at this
        simp only [hwf] at this
        unfold mOp
        exact this
      rw [mOp_quiet hj hEj] at h'
      obtain ⟨v, hv, h'⟩ := h'
      refine ⟨v, (Leaves.same (execOp_put (ops := ops) oj hsj a oi.dst undef h1) (wanted_put oj a oi.dst undef h1)).1 hv, ?_⟩
      unfold mOp
      rw [hi]
      simp only
      rw [wanted_put oi a oj.dst v h3, hwf]
      simp only [Bool.false_eq_true, if_false]
      rw [Act.put_comm a v undef h2']
      exact h'

theorem mOp_ex {i : Nat} {K : Act → World → Prop} {a : Act} {w : World} (h : mOp P ops E C i K a w) : ∃ a' w', K a' w' := by
  unfold mOp at h
  split at h
  · exact ⟨_, _, h⟩
  · split at h
    · split at h
      · obtain ⟨u, ds, w', _, hK⟩ := wp_ex h
        exact ⟨_, _, hK⟩
      · obtain ⟨v, _, h⟩ := h
        exact ⟨_, _, h⟩
    · exact ⟨_, _, h⟩

/-- the chain: of any two of its operations one waits for the other -/
def Chain (md : Region.Mode) (ops : Array Oper) (E : Nat → Bool) (n : Nat) : Prop :=
  ∀ i j, i < ops.size → j < ops.size → i ≠ j → E i = true → E j = true → dep md ops n i j = true ∨ dep md ops n j i = true

theorem wpAnyM_first {Q : Act → World → Prop} {n : Nat} (hch : Chain md ops E n) {i : Nat} {oi : Oper} (hi : ops[i]? = some oi)
    (hsel : ∀ (j : Nat) (o : Oper) cs b, ops[j]? = some o → o.op ≠ .select cs b) :
    ∀ (fuel : Nat) (listed : Array Bool) (a : Act) (w : World), Down md ops listed → C w →
      (∀ j oj, ops[j]? = some oj → j ≠ i → listed.getD j true = false → (∀ e ∈ oj.after, Region.binds md e = true → e.on ≠ i) → oi.apart ops oj = true) →
      i ∈ Region.ready md ops listed →
      mOp P ops E C i (wpAnyM P md ops E C Q fuel (listed.setIfInBounds i true)) a w → wpAnyM P md ops E C Q (fuel + 1) listed a w := by
  intro fuel
  induction fuel with
  | zero =>
    intro listed a w _ _ _ hr H
    refine ⟨fun h => (by rw [h] at hr; cases hr), fun j hj => ?_⟩
    by_cases hji : j = i
    · subst hji; exact H
    · have := ready_mono hj hji
      obtain ⟨a', w', hK⟩ := mOp_ex H
      rw [hK.1] at this
      cases this
  | succ fuel ih =>
    intro listed a w hdn hw hfree hr H
    refine ⟨fun h => (by rw [h] at hr; cases hr), fun j hj => ?_⟩
    by_cases hji : j = i
    · subst hji; exact H
    · obtain ⟨hjun, oj, hoj, hall⟩ := mem_ready.1 hj
      have hiun := (mem_ready.1 hr).1
      have hnot : ∀ e ∈ oj.after, Region.binds md e = true → e.on ≠ i := fun e he hb heq => by
        have h1 := hall e he hb
        rw [heq, getD_true_false hiun] at h1
        cases h1
      have hap := hfree j oj hoj hji hjun hnot
      have hE : ¬ (E i = true ∧ E j = true) := by
        rintro ⟨hEi, hEj⟩
        rcases hch i j (Array.getElem?_eq_some_iff.1 hi).1 (Array.getElem?_eq_some_iff.1 hoj).1 (Ne.symm hji) hEi hEj with h | h
        · rw [dep_ready hdn (getD_true_false hjun) hr n] at h; cases h
        · rw [dep_ready hdn (getD_true_false hiun) hj n] at h; cases h
      have H1 : mOp P ops E C i (mOp P ops E C j (wpAnyM P md ops E C Q fuel ((listed.setIfInBounds i true).setIfInBounds j true))) a w :=
        mOp_mono hw (fun a' w' _ hK => hK.2 j (ready_mono hj hji)) H
      have H2 := mOp_comm hi hoj hap (fun cs b => hsel i oi cs b hi) (fun cs b => hsel j oj cs b hoj) hE hw H1
      have hfree' : ∀ k ok, ops[k]? = some ok → k ≠ i → (listed.setIfInBounds j true).getD k true = false →
          (∀ e ∈ ok.after, Region.binds md e = true → e.on ≠ i) → oi.apart ops ok = true := fun k ok hk hki hun hno => by
        refine hfree k ok hk hki ?_ hno
        by_cases hjk : j = k
        · subst hjk; exact hjun
        · rw [getD_set_ne true hjk] at hun; exact hun
      refine mOp_mono hw (fun a' w' hw' h3 => ih (listed.setIfInBounds j true) a' w' (hdn.ready hj) hw' hfree' (ready_mono hr (Ne.symm hji)) ?_) H2
      rw [Array.setIfInBounds_comm _ _ hji]
      exact h3

/-- THE WALK IN THE ORDER OF THE TEXT -/
def wpMix (P : Program) (ops : Array Oper) (E : Nat → Bool) (C : World → Prop) (Q : Act → World → Prop) : Nat → List Oper → Act → World → Prop
  | _, [], a, w => Q a w
  | k, o :: rest, a, w =>
    if Region.wanted o (yielded ops a.tmps) then
      if E k then o.wp P a w (fun a' w' => C w' ∧ wpMix P ops E C Q (k + 1) rest a' w') NoExit
      else ∃ v, (∀ w2 : Subtype C, (execOp a.eval o).run P w2.1 = .ok (.value v) w2.1) ∧ wpMix P ops E C Q (k + 1) rest (a.put o.dst v) w
    else wpMix P ops E C Q (k + 1) rest (a.put o.dst undef) w

theorem wpAnyM_lex {Q : Act → World → Prop} {n : Nat} (hch : Chain md ops E n) (hs : Region.noSelect ops = true) :
    ∀ (l : List Oper) (k : Nat) (listed : Array Bool) (a : Act) (w : World), (∀ j, l[j]? = ops[k + j]?) → Down md ops listed → C w →
      Region.lexFrom md ops l.length k listed = true → wpMix P ops E C Q k l a w → wpAnyM P md ops E C Q l.length listed a w
  | [], _, _, _, _, _, _, _, hB, h => ⟨by simpa [Region.lexFrom] using hB, h⟩
  | o :: l, k, listed, a, w, hl, hdn, hw, hB, h => by
    have h0 : ops[k]? = some o := by simpa using (hl 0).symm
    simp only [List.length_cons, Region.lexFrom, Bool.and_eq_true] at hB
    obtain ⟨⟨hr, hf⟩, hB'⟩ := hB
    have hr' : k ∈ Region.ready md ops listed := by simpa using hr
    have hm : mOp P ops E C k (wpMix P ops E C Q (k + 1) l) a w := by
      unfold mOp
      rw [h0]
      unfold wpMix at h
      dsimp only
      split
      · rename_i hwt
        simp only [hwt, if_true] at h
        split
        · rename_i hE; simp only [hE, if_true] at h; exact h
        · rename_i hE
          simp only [hE] at h
          obtain ⟨v, h1, h2⟩ := h
          exact ⟨v, fun w2 hw2 => h1 ⟨w2, hw2⟩, h2⟩
      · rename_i hwt
        simp only [hwt] at h
        exact h
    refine wpAnyM_first hch h0 (Region.noSelect_spec hs) l.length listed a w hdn hw (Region.free_spec h0 hf) hr' ?_
    exact mOp_mono hw (fun a' w' hw' hK => wpAnyM_lex hch hs l (k + 1) _ a' w' (fun j => by have := hl (j + 1); simpa [Nat.add_assoc, Nat.add_comm 1 j] using this) (hdn.ready hr') hw' hB' hK) hm

/-- the chain, as a list of numbers -/
def chainB (md : Region.Mode) (ops : Array Oper) (Es : List Nat) : Bool :=
  Es.all fun i => Es.all fun j => i == j || dep md ops ops.size i j || dep md ops ops.size j i

theorem chain_of {Es : List Nat} (h : chainB md ops Es = true) : Chain md ops (fun k => Es.contains k) ops.size := by
  intro i j _ _ hne hi hj
  unfold chainB at h
  rw [List.all_eq_true] at h
  have h1 := h i (by simpa using hi)
  rw [List.all_eq_true] at h1
  have h2 := h1 j (by simpa using hj)
  simp only [Bool.or_eq_true, beq_iff_eq] at h2
  rcases h2 with (h2 | h2) | h2
  · exact absurd h2 hne
  · exact .inl h2
  · exact .inr h2

/-- a region's rest, behind a box (a goal that bears wpMix itself is opened by every tactic's look at it) -/
structure MixG (P : Program) (ops : Array Oper) (E : Nat → Bool) (C : World → Prop) (Q : Act → World → Prop) (k : Nat) (rest : List Oper) (a : Act) (w : World) : Prop where
  out : wpMix P ops E C Q k rest a w

theorem wp_region_mix {id : Nat} {l : List Oper} {Es : List Nat} (C : World → Prop) {Q : Exit → Act → World → Prop} {a : Act} {w : World} (hm : P.follows .mixedOrders = true)
    (hB : (Region.lexB .any l.toArray && chainB .any l.toArray Es) = true) (hC : C w.drew)
    (h : Nonempty (Subtype C) → MixG P l.toArray (fun k => Es.contains k) C (fun a' w' => Q .normal a' w') 0 l a w.drew) : (Code.region id l.toArray true).wp P Q a w := by
  simp only [Region.lexB, Bool.and_eq_true] at hB
  refine wp_region_any hm (wpAny_of_wpAnyM (Q := fun a' w' => Q .normal a' w') (C := C) (E := fun k => Es.contains k) (fun _ _ _ h => h) _ _ _ _ hC ?_)
  have := wpAnyM_lex (P := P) (C := C) (Q := fun a' w' => Q .normal a' w') (md := .any) (chain_of hB.2) hB.1.1 l 0 (Array.replicate l.toArray.size false) a w.drew (by simp) (Down.start _) hC (by simpa using hB.1.2) (h ⟨⟨_, hC⟩⟩).out
  simpa using this

/-! ### the steps -/
section
variable {Es : List Nat} {Q : Act → World → Prop} {o : Oper} {rest : List Oper} {a : Act} {w : World} {k : Nat}

theorem mix_nil (h : Q a w) : MixG P ops (fun k => Es.contains k) C Q k [] a w := ⟨h⟩

/-- an operation that is none of the chain; what follows behind a letter -/
theorem mix_step (hk : Es.contains k = false) (h : ∀ K : Act → World → Prop, (∀ a w, MixG P ops (fun k => Es.contains k) C Q (k + 1) rest a w → K a w) →
      if Region.wanted o (yielded ops a.tmps) then ∃ v, (∀ w2 : Subtype C, (execOp a.eval o).run P w2.1 = .ok (.value v) w2.1) ∧ K (a.put o.dst v) w else K (a.put o.dst undef) w) :
    MixG P ops (fun k => Es.contains k) C Q k (o :: rest) a w := by
  have := h (fun a w => wpMix P ops (fun k => Es.contains k) C Q (k + 1) rest a w) (fun _ _ h => h.out)
  refine ⟨?_⟩
  unfold wpMix
  simp only [hk]
  exact this

/-- an operation of the chain -/
theorem mix_eff (hk : Es.contains k = true) (h : ∀ K : Act → World → Prop, (∀ a w, C w → MixG P ops (fun k => Es.contains k) C Q (k + 1) rest a w → K a w) →
      if Region.wanted o (yielded ops a.tmps) then o.wp P a w K NoExit else K (a.put o.dst undef) w) :
    MixG P ops (fun k => Es.contains k) C Q k (o :: rest) a w := by
  have h1 := h (fun a' w' => C w' ∧ wpMix P ops (fun k => Es.contains k) C Q (k + 1) rest a' w') (fun _ _ hc hh => ⟨hc, hh.out⟩)
  refine ⟨?_⟩
  unfold wpMix
  simp only [hk, if_true]
  by_cases hw : Region.wanted o (yielded ops a.tmps) = true
  · simp only [hw, if_true] at h1 ⊢
    exact h1
  · simp only [hw] at h1 ⊢
    exact h1.2
end
end
end Go.Mix
