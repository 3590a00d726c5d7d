/- Merged texts of the seat, in their order: Ord, Kit, App, Str, Nm, NameA, RefA, OrdT. -/
import Derived.Still
import Derived.Laws.World
import Derived.Test.YtkpcmnckdappnaaGreatRows
import Derived.WalkKit
import Derived.ProofKit
import Derived.OpenShut
import Derived.ShutString
import Derived.ChangeOld
import Derived.WalkLawsBesides
import Derived.WalkSpells
import Derived.SizedLaws
import Derived.DataElems
import Derived.Lib.Hide
import Derived.Lib.Strings
import Derived.Laws.AppendOwnNone
import Derived.Laws.BytesArg
/- A region whose order is left open, walked once, in the order of the text: sound if all operations but those of one chain (the set E, any two of which wait for one another) yield the same value in every world of a class C, and those of the chain stay in C and do not leave the region. No conditions beside. -/
namespace Go.Mix
open Go

/-- no way out but the plain one -/
def NoExit : Exit → Act → World → Prop := fun _ _ _ => False

theorem letsOut_noExit : ¬ LetsOut NoExit := fun ⟨_, _, h⟩ => h

/-- does operation j wait for operation i, straight or through others? -/
def dep (md : Region.Mode) (ops : Array Oper) : Nat → Nat → Nat → Bool
  | 0, _, _ => false
  | n + 1, j, i => match ops[j]? with
    | none => false
    | some o => o.after.any fun e => Region.binds md e && (e.on == i || dep md ops n e.on i)

def Down (md : Region.Mode) (ops : Array Oper) (listed : Array Bool) : Prop :=
  ∀ m o, ops[m]? = some o → listed.getD m false = true → ∀ e ∈ o.after, Region.binds md e = true → listed.getD e.on false = true

section
variable {P : Program} {ops : Array Oper} {md : Region.Mode} {E : Nat → Bool} {C : World → Prop}

theorem dep_listed {listed : Array Bool} (hd : Down md ops listed) {i : Nat} (hi : listed.getD i false = false) :
    ∀ (n j : Nat), listed.getD j false = true → dep md ops n j i = false
  | 0, _, _ => rfl
  | n + 1, j, hj => by
    unfold dep
    cases ho : ops[j]? with
    | none => rfl
    | some o =>
      simp only
      cases hb : o.after.any fun e => Region.binds md e && (e.on == i || dep md ops n e.on i) with
      | false => rfl
      | true =>
        obtain ⟨e, he, hh⟩ := Array.any_eq_true'.1 hb
        simp only [Bool.and_eq_true, Bool.or_eq_true, beq_iff_eq] at hh
        have hl := hd j o ho hj e he hh.1
        rcases hh.2 with h | h
        · rw [h, hi] at hl; cases hl
        · rw [dep_listed hd hi n e.on hl] at h; cases h

theorem dep_ready {listed : Array Bool} (hd : Down md ops listed) {i j : Nat} (hi : listed.getD i false = false) (hj : j ∈ Region.ready md ops listed) (n : Nat) :
    dep md ops n j i = false := by
  cases n with
  | zero => rfl
  | succ n =>
    unfold dep
    obtain ⟨_, o, ho, hall⟩ := mem_ready.1 hj
    rw [ho]
    simp only
    cases hb : o.after.any fun e => Region.binds md e && (e.on == i || dep md ops n e.on i) with
    | false => rfl
    | true =>
      obtain ⟨e, he, hh⟩ := Array.any_eq_true'.1 hb
      simp only [Bool.and_eq_true, Bool.or_eq_true, beq_iff_eq] at hh
      have hl := hall e he hh.1
      rcases hh.2 with h | h
      · rw [h, hi] at hl; cases hl
      · rw [dep_listed hd hi n e.on hl] at h; cases h

theorem getD_true_false {listed : Array Bool} {i : Nat} (h : listed.getD i true = false) : listed.getD i false = false := by
  rcases Nat.lt_or_ge i listed.size with h' | h'
  · simp [h'] at h ⊢; exact h
  · simp [Array.getElem?_eq_none h'] at h

theorem Down.ready {listed : Array Bool} (hd : Down md ops listed) {i : Nat} (hi : i ∈ Region.ready md ops listed) : Down md ops (listed.setIfInBounds i true) := by
  intro m o ho hm e he hb
  by_cases hmi : i = m
  · subst hmi
    obtain ⟨_, o', ho', hall⟩ := mem_ready.1 hi
    rw [ho] at ho'
    cases ho'
    exact getD_set_true (hall e he hb)
  · rw [getD_set_ne false hmi] at hm
    exact getD_set_true (hd m o ho hm e he hb)

theorem Down.start (n : Nat) : Down md ops (Array.replicate n false) := by
  intro m o _ hm
  by_cases h : m < n
  · simp [h] at hm
  · simp [h] at hm

/-- operation i comes up in state a, w -/
def mOp (P : Program) (ops : Array Oper) (E : Nat → Bool) (C : World → Prop) (i : Nat) (K : Act → World → Prop) (a : Act) (w : World) : Prop :=
  match ops[i]? with
  | none => K a w
  | some o =>
    if Region.wanted o (yielded ops a.tmps) then
      if E i then o.wp P a w (fun a' w' => C w' ∧ K a' w') NoExit
      else ∃ v, (∀ w2, C w2 → (execOp a.eval o).run P w2 = .ok (.value v) w2) ∧ K (a.put o.dst v) w
    else K (a.put o.dst undef) w

def wpAnyM (P : Program) (md : Region.Mode) (ops : Array Oper) (E : Nat → Bool) (C : World → Prop) (Q : Act → World → Prop) : Nat → Array Bool → Act → World → Prop
  | 0, listed, a, w => Region.ready md ops listed = [] ∧ Q a w
  | fuel + 1, listed, a, w =>
    (Region.ready md ops listed = [] → Q a w) ∧
    ∀ i ∈ Region.ready md ops listed, mOp P ops E C i (wpAnyM P md ops E C Q fuel (listed.setIfInBounds i true)) a w

theorem wp_monoQ {o : Oper} {a : Act} {w : World} {K K' : Act → World → Prop} {Q : Exit → Act → World → Prop} (h : ∀ a w, K a w → K' a w)
    (hh : o.wp P a w K NoExit) : o.wp P a w K' Q := by
  unfold Oper.wp at *
  generalize (execOp a.eval o).run P w = r at *
  cases r with
  | ok n w' =>
    cases n <;> simp only [Oper.upon] at hh ⊢ <;>
      first
        | exact h _ _ hh
        | exact Calls.mono hh (fun e w'' he => by cases e <;> first | exact h _ _ he | exact he.elim | exact (letsOut_noExit he).elim)
        | exact Rows.mono hh (fun _ _ he => h _ _ he)
  | halt x w' => cases x <;> simp only [Oper.upon] at hh ⊢ <;> exact hh.elim

theorem mOp_mono {i : Nat} {a : Act} {w : World} {K K' : Act → World → Prop} (hw : C w) (h : ∀ a w, C w → K a w → K' a w)
    (hh : mOp P ops E C i K a w) : mOp P ops E C i K' a w := by
  unfold mOp at *
  split
  · rename_i ho; simp only [ho] at hh; exact h _ _ hw hh
  · rename_i o ho
    simp only [ho] at hh
    split
    · rename_i hwt
      simp only [hwt, if_true] at hh
      split
      · rename_i hE
        simp only [hE, if_true] at hh
        exact wp_monoQ (fun a w hk => ⟨hk.1, h _ _ hk.1 hk.2⟩) hh
      · rename_i hE
        simp only [hE] at hh
        obtain ⟨v, h1, h2⟩ := hh
        exact ⟨v, h1, h _ _ hw h2⟩
    · rename_i hwt
      simp only [hwt] at hh
      exact h _ _ hw hh

theorem wpOp_of_mOp {i : Nat} {a : Act} {w : World} {K K' : Act → World → Prop} {Q : Exit → Act → World → Prop} (hw : C w) (h : ∀ a w, C w → K a w → K' a w)
    (hh : mOp P ops E C i K a w) : wpOp P ops Q i K' a w := by
  unfold mOp at hh
  unfold wpOp
  split
  · rename_i ho; simp only [ho] at hh; exact h _ _ hw hh
  · rename_i o ho
    simp only [ho] at hh
    split
    · rename_i hwt
      simp only [hwt, if_true] at hh
      refine .inl ?_
      split at hh
      · exact wp_monoQ (fun a w hk => h _ _ hk.1 hk.2) hh
      · obtain ⟨v, h1, h2⟩ := hh
        unfold Oper.wp
        rw [h1 w hw]
        exact h _ _ hw h2
    · rename_i hwt
      simp only [hwt] at hh
      exact h _ _ hw hh

theorem wpAny_of_wpAnyM {Q : Act → World → Prop} {Q' : Exit → Act → World → Prop} (hQ : ∀ a w, C w → Q a w → Q' .normal a w) :
    ∀ (fuel : Nat) (listed : Array Bool) (a : Act) (w : World), C w → wpAnyM P md ops E C Q fuel listed a w → wpAny P md ops Q' fuel listed a w
  | 0, _, _, _, hw, h => ⟨h.1, hQ _ _ hw h.2⟩
  | fuel + 1, _, _, _, hw, h => ⟨fun h0 => hQ _ _ hw (h.1 h0), fun i hi => wpOp_of_mOp hw (fun a' w' hw' => wpAny_of_wpAnyM hQ fuel _ a' w' hw') (h.2 i hi)⟩

theorem Act.defers_put (a : Act) (x : Option Tmp) (v : Value) (ds : List Deferred) :
    ({ a.put x v with defers := ds } : Act) = ({ a with defers := ds } : Act).put x v := by
  cases x <;> rfl

/-- what stands in another operation's temporary makes no difference -/
theorem wp_put {o : Oper} (hsel : ∀ cs b, o.op ≠ .select cs b) {x : Option Tmp} (h1 : ∀ d, x = some d → d ∉ o.looksAt ops) (h2 : ∀ d, x = some d → o.dst ≠ some d)
    (a : Act) (v : Value) (w : World) (K : Act → World → Prop) : o.wp P (a.put x v) w K NoExit ↔ o.wp P a w (fun a' w' => K (a'.put x v) w') NoExit := by
  unfold Oper.wp
  rw [execOp_put (ops := ops) o hsel a x v h1]
  generalize (execOp a.eval o).run P w = r
  have hp : ∀ u, (a.put x v).put o.dst u = (a.put o.dst u).put x v := fun u => Act.put_comm a v u h2
  have hp' : ∀ d, ({ a.put x v with defers := d :: (a.put x v).defers } : Act).put o.dst undef = (({ a with defers := d :: a.defers } : Act).put o.dst undef).put x v := fun d => by
    rw [Act.put_defers, Act.put_comm _ v undef h2]
  cases r with
  | ok n w' =>
    cases n <;> simp only [Oper.upon, hp, hp']
    case enter f args =>
      refine iff_of_eq (congrArg _ (funext fun e => funext fun w'' => ?_))
      cases e <;> simp [NoExit]
  | halt r w' => cases r <;> simp [Oper.upon, NoExit]

/-- some state comes behind it, and it differs in that temporary alone -/
theorem wp_ex {o : Oper} {a : Act} {w : World} {K : Act → World → Prop} (h : o.wp P a w K NoExit) : ∃ u ds w', K (({ a with defers := ds } : Act).put o.dst u) w' := by
  unfold Oper.wp at h
  generalize (execOp a.eval o).run P w = r at h
  cases r with
  | ok n w' =>
    cases n <;> simp only [Oper.upon] at h
    case value v => exact ⟨v, a.defers, w', h⟩
    case skip => exact ⟨undef, a.defers, w', h⟩
    case defer d => exact ⟨undef, d :: a.defers, w', h⟩
    case enter f args =>
      obtain ⟨e, w'', fr, hR, _⟩ := h []
      cases e with
      | returned v => exact ⟨v, a.defers, w'', hR⟩
      | panicked c => exact hR.elim
      | outgrown => exact (letsOut_noExit hR).elim
    case row r args =>
      obtain ⟨v, w'', hR, _⟩ := h (default : Frame) []
      exact ⟨v, a.defers, w'', hR⟩
  | halt x w' => cases x <;> simp only [Oper.upon] at h <;> exact h.elim

theorem wp_shape {o : Oper} {a : Act} {w : World} {K : Act → World → Prop} (h : o.wp P a w K NoExit) :
    o.wp P a w (fun a' w' => (∃ u ds, a' = ({ a with defers := ds } : Act).put o.dst u) ∧ K a' w') NoExit := by
  unfold Oper.wp at *
  generalize (execOp a.eval o).run P w = r at h
  cases r with
  | ok n w' =>
    cases n <;> simp only [Oper.upon] at h ⊢
    case value v => exact ⟨⟨v, a.defers, rfl⟩, h⟩
    case skip => exact ⟨⟨undef, a.defers, rfl⟩, h⟩
    case defer d => exact ⟨⟨undef, d :: a.defers, rfl⟩, h⟩
    case enter f args =>
      refine Calls.mono h fun e w'' he => ?_
      cases e with
      | returned v => exact ⟨⟨v, a.defers, rfl⟩, he⟩
      | panicked c => exact he.elim
      | outgrown => exact (letsOut_noExit he).elim
    case row r args => exact Rows.mono h fun v w'' he => ⟨⟨v, a.defers, rfl⟩, he⟩
  | halt x w' => cases x <;> simp only [Oper.upon] at h <;> exact h.elim

/-- an operation that is not of the chain leaves v in its temporary, in whatever world of C -/
def Leaves (P : Program) (ops : Array Oper) (C : World → Prop) (o : Oper) (v : Value) (a : Act) : Prop :=
  (Region.wanted o (yielded ops a.tmps) = true ∧ ∀ w2, C w2 → (execOp a.eval o).run P w2 = .ok (.value v) w2) ∨ (Region.wanted o (yielded ops a.tmps) = false ∧ v = undef)

theorem Leaves.same {o : Oper} {v : Value} {a a' : Act} (he : execOp a'.eval o = execOp a.eval o)
    (hw : Region.wanted o (yielded ops a'.tmps) = Region.wanted o (yielded ops a.tmps)) : Leaves P ops C o v a' ↔ Leaves P ops C o v a := by
  unfold Leaves; rw [he, hw]

theorem mOp_quiet {i : Nat} {o : Oper} (hi : ops[i]? = some o) (hE : E i = false) (K : Act → World → Prop) (a : Act) (w : World) :
    mOp P ops E C i K a w ↔ ∃ v, Leaves P ops C o v a ∧ K (a.put o.dst v) w := by
  unfold mOp Leaves
  rw [hi]
  simp only [hE]
  by_cases hw : Region.wanted o (yielded ops a.tmps) = true
  · simp [hw]
  · have hw' : Region.wanted o (yielded ops a.tmps) = false := by simpa using hw
    simp [hw']

theorem Leaves.one {o : Oper} {v v' : Value} {a : Act} {w : World} (hw : C w) (h : Leaves P ops C o v a) (h' : Leaves P ops C o v' a) : v = v' := by
  rcases h with ⟨h1, h2⟩ | ⟨h1, rfl⟩ <;> rcases h' with ⟨h3, h4⟩ | ⟨h3, rfl⟩
  · have := (h2 w hw).symm.trans (h4 w hw)
    simpa using this
  · rw [h1] at h3; cases h3
  · rw [h1] at h3; cases h3
  · rfl

theorem mOp_comm {i j : Nat} {oi oj : Oper} (hi : ops[i]? = some oi) (hj : ops[j]? = some oj) (hap : oi.apart ops oj = true)
    (hsi : ∀ cs b, oi.op ≠ .select cs b) (hsj : ∀ cs b, oj.op ≠ .select cs b) (hE : ¬ (E i = true ∧ E j = true))
    {K : Act → World → Prop} {a : Act} {w : World} (hw : C w) (h : mOp P ops E C i (mOp P ops E C j K) a w) : mOp P ops E C j (mOp P ops E C i K) a w := by
  obtain ⟨h1, h2, h3⟩ := Oper.apart_spec hap
  have h2' : ∀ d, oj.dst = some d → oi.dst ≠ some d := fun d hd hd' => h2 d hd' hd
  cases hEi : E i with
  | false =>
    rw [mOp_quiet hi hEi] at h
    obtain ⟨v, hv, h⟩ := h
    have keep : ∀ (ds : List Deferred) u, Leaves P ops C oi v (({ a with defers := ds } : Act).put oj.dst u) := fun ds u =>
      (Leaves.same (execOp_put (ops := ops) oi hsi { a with defers := ds } oj.dst u h3) (wanted_put oi { a with defers := ds } oj.dst u h3)).2 hv
    cases hEj : E j with
    | false =>
      rw [mOp_quiet hj hEj] at h ⊢
      obtain ⟨u, hu, h⟩ := h
      refine ⟨u, (Leaves.same (execOp_put (ops := ops) oj hsj a oi.dst v h1) (wanted_put oj a oi.dst v h1)).1 hu, ?_⟩
      rw [mOp_quiet hi hEi]
      exact ⟨v, keep a.defers u, by rw [← Act.put_comm a v u h2]; exact h⟩
    | true =>
      unfold mOp at h ⊢
      rw [hj] at h ⊢
      simp only [hEj, if_true] at h ⊢
      rw [wanted_put oj a oi.dst v h1] at h
      split
      · rename_i hwt
        simp only [hwt, if_true] at h
        rw [wp_put hsj h1 h2] at h
        refine wp_monoQ ?_ (wp_shape h)
        rintro a' w' ⟨⟨u, ds, rfl⟩, hC, hK⟩
        refine ⟨hC, ?_⟩
        have := (mOp_quiet (P := P) (C := C) hi hEi K (({ a with defers := ds } : Act).put oj.dst u) w').2 ⟨v, keep ds u, hK⟩
        unfold mOp at this
        exact this
      · rename_i hwt
        simp only [hwt] at h
        have := (mOp_quiet (P := P) (C := C) hi hEi K (a.put oj.dst undef) w).2 ⟨v, keep a.defers undef, by rw [← Act.put_comm a v undef h2]; exact h⟩
        unfold mOp at this
        exact this
  | true =>
    have hEj : E j = false := by cases hEj : E j with | false => rfl | true => exact absurd ⟨hEi, hEj⟩ hE
    rw [mOp_quiet hj hEj]
    by_cases hwt : Region.wanted oi (yielded ops a.tmps) = true
    · have h' : oi.wp P a w (fun a' w' => C w' ∧ mOp P ops E C j K a' w') NoExit := by
        have := h
        unfold mOp at this
        rw [hi] at this
        simp only [hEi, hwt, if_true] at this
        refine wp_monoQ ?_ this
        rintro a' w' ⟨hC, hK⟩
        exact ⟨hC, by unfold mOp; exact hK⟩
      have same : ∀ (ds : List Deferred) u v, Leaves P ops C oj v (({ a with defers := ds } : Act).put oi.dst u) ↔ Leaves P ops C oj v a := fun ds u v =>
        Leaves.same (execOp_put (ops := ops) oj hsj { a with defers := ds } oi.dst u h1) (wanted_put oj { a with defers := ds } oi.dst u h1)
      obtain ⟨u, ds, w', hC, hK⟩ := wp_ex h'
      rw [mOp_quiet hj hEj] at hK
      obtain ⟨v, hv, _⟩ := hK
      have hva := (same ds u v).1 hv
      refine ⟨v, hva, ?_⟩
      unfold mOp
      rw [hi]
      simp only [hEi, if_true]
      rw [wanted_put oi a oj.dst v h3]
      simp only [hwt, if_true]
      rw [wp_put hsi h3 h2']
      refine wp_monoQ ?_ (wp_shape h')
      rintro a' w' ⟨⟨u, ds, rfl⟩, hC, hK⟩
      rw [mOp_quiet hj hEj] at hK
      obtain ⟨v', hv', hK⟩ := hK
      obtain rfl := Leaves.one hw hva ((same ds u v').1 hv')
      exact ⟨hC, hK⟩
    · have hwf : Region.wanted oi (yielded ops a.tmps) = false := by simpa using hwt
      have h' : mOp P ops E C j K (a.put oi.dst undef) w := by
        have := h
        unfold mOp at this
        rw [hi] at this
        simp only [hwf] at this
        unfold mOp
        exact this
      rw [mOp_quiet hj hEj] at h'
      obtain ⟨v, hv, h'⟩ := h'
      refine ⟨v, (Leaves.same (execOp_put (ops := ops) oj hsj a oi.dst undef h1) (wanted_put oj a oi.dst undef h1)).1 hv, ?_⟩
      unfold mOp
      rw [hi]
      simp only
      rw [wanted_put oi a oj.dst v h3, hwf]
      simp only [Bool.false_eq_true, if_false]
      rw [Act.put_comm a v undef h2']
      exact h'

theorem mOp_ex {i : Nat} {K : Act → World → Prop} {a : Act} {w : World} (h : mOp P ops E C i K a w) : ∃ a' w', K a' w' := by
  unfold mOp at h
  split at h
  · exact ⟨_, _, h⟩
  · split at h
    · split at h
      · obtain ⟨u, ds, w', _, hK⟩ := wp_ex h
        exact ⟨_, _, hK⟩
      · obtain ⟨v, _, h⟩ := h
        exact ⟨_, _, h⟩
    · exact ⟨_, _, h⟩

/-- the chain: of any two of its operations one waits for the other -/
def Chain (md : Region.Mode) (ops : Array Oper) (E : Nat → Bool) (n : Nat) : Prop :=
  ∀ i j, i < ops.size → j < ops.size → i ≠ j → E i = true → E j = true → dep md ops n i j = true ∨ dep md ops n j i = true

theorem wpAnyM_first {Q : Act → World → Prop} {n : Nat} (hch : Chain md ops E n) {i : Nat} {oi : Oper} (hi : ops[i]? = some oi)
    (hsel : ∀ (j : Nat) (o : Oper) cs b, ops[j]? = some o → o.op ≠ .select cs b) :
    ∀ (fuel : Nat) (listed : Array Bool) (a : Act) (w : World), Down md ops listed → C w →
      (∀ j oj, ops[j]? = some oj → j ≠ i → listed.getD j true = false → (∀ e ∈ oj.after, Region.binds md e = true → e.on ≠ i) → oi.apart ops oj = true) →
      i ∈ Region.ready md ops listed →
      mOp P ops E C i (wpAnyM P md ops E C Q fuel (listed.setIfInBounds i true)) a w → wpAnyM P md ops E C Q (fuel + 1) listed a w := by
  intro fuel
  induction fuel with
  | zero =>
    intro listed a w _ _ _ hr H
    refine ⟨fun h => (by rw [h] at hr; cases hr), fun j hj => ?_⟩
    by_cases hji : j = i
    · subst hji; exact H
    · have := ready_mono hj hji
      obtain ⟨a', w', hK⟩ := mOp_ex H
      rw [hK.1] at this
      cases this
  | succ fuel ih =>
    intro listed a w hdn hw hfree hr H
    refine ⟨fun h => (by rw [h] at hr; cases hr), fun j hj => ?_⟩
    by_cases hji : j = i
    · subst hji; exact H
    · obtain ⟨hjun, oj, hoj, hall⟩ := mem_ready.1 hj
      have hiun := (mem_ready.1 hr).1
      have hnot : ∀ e ∈ oj.after, Region.binds md e = true → e.on ≠ i := fun e he hb heq => by
        have h1 := hall e he hb
        rw [heq, getD_true_false hiun] at h1
        cases h1
      have hap := hfree j oj hoj hji hjun hnot
      have hE : ¬ (E i = true ∧ E j = true) := by
        rintro ⟨hEi, hEj⟩
        rcases hch i j (Array.getElem?_eq_some_iff.1 hi).1 (Array.getElem?_eq_some_iff.1 hoj).1 (Ne.symm hji) hEi hEj with h | h
        · rw [dep_ready hdn (getD_true_false hjun) hr n] at h; cases h
        · rw [dep_ready hdn (getD_true_false hiun) hj n] at h; cases h
      have H1 : mOp P ops E C i (mOp P ops E C j (wpAnyM P md ops E C Q fuel ((listed.setIfInBounds i true).setIfInBounds j true))) a w :=
        mOp_mono hw (fun a' w' _ hK => hK.2 j (ready_mono hj hji)) H
      have H2 := mOp_comm hi hoj hap (fun cs b => hsel i oi cs b hi) (fun cs b => hsel j oj cs b hoj) hE hw H1
      have hfree' : ∀ k ok, ops[k]? = some ok → k ≠ i → (listed.setIfInBounds j true).getD k true = false →
          (∀ e ∈ ok.after, Region.binds md e = true → e.on ≠ i) → oi.apart ops ok = true := fun k ok hk hki hun hno => by
        refine hfree k ok hk hki ?_ hno
        by_cases hjk : j = k
        · subst hjk; exact hjun
        · rw [getD_set_ne true hjk] at hun; exact hun
      refine mOp_mono hw (fun a' w' hw' h3 => ih (listed.setIfInBounds j true) a' w' (hdn.ready hj) hw' hfree' (ready_mono hr (Ne.symm hji)) ?_) H2
      rw [Array.setIfInBounds_comm _ _ hji]
      exact h3

/-- THE WALK IN THE ORDER OF THE TEXT -/
def wpMix (P : Program) (ops : Array Oper) (E : Nat → Bool) (C : World → Prop) (Q : Act → World → Prop) : Nat → List Oper → Act → World → Prop
  | _, [], a, w => Q a w
  | k, o :: rest, a, w =>
    if Region.wanted o (yielded ops a.tmps) then
      if E k then o.wp P a w (fun a' w' => C w' ∧ wpMix P ops E C Q (k + 1) rest a' w') NoExit
      else ∃ v, (∀ w2 : Subtype C, (execOp a.eval o).run P w2.1 = .ok (.value v) w2.1) ∧ wpMix P ops E C Q (k + 1) rest (a.put o.dst v) w
    else wpMix P ops E C Q (k + 1) rest (a.put o.dst undef) w

theorem wpAnyM_lex {Q : Act → World → Prop} {n : Nat} (hch : Chain md ops E n) (hs : Region.noSelect ops = true) :
    ∀ (l : List Oper) (k : Nat) (listed : Array Bool) (a : Act) (w : World), (∀ j, l[j]? = ops[k + j]?) → Down md ops listed → C w →
      Region.lexFrom md ops l.length k listed = true → wpMix P ops E C Q k l a w → wpAnyM P md ops E C Q l.length listed a w
  | [], _, _, _, _, _, _, _, hB, h => ⟨by simpa [Region.lexFrom] using hB, h⟩
  | o :: l, k, listed, a, w, hl, hdn, hw, hB, h => by
    have h0 : ops[k]? = some o := by simpa using (hl 0).symm
    simp only [List.length_cons, Region.lexFrom, Bool.and_eq_true] at hB
    obtain ⟨⟨hr, hf⟩, hB'⟩ := hB
    have hr' : k ∈ Region.ready md ops listed := by simpa using hr
    have hm : mOp P ops E C k (wpMix P ops E C Q (k + 1) l) a w := by
      unfold mOp
      rw [h0]
      unfold wpMix at h
      dsimp only
      split
      · rename_i hwt
        simp only [hwt, if_true] at h
        split
        · rename_i hE; simp only [hE, if_true] at h; exact h
        · rename_i hE
          simp only [hE] at h
          obtain ⟨v, h1, h2⟩ := h
          exact ⟨v, fun w2 hw2 => h1 ⟨w2, hw2⟩, h2⟩
      · rename_i hwt
        simp only [hwt] at h
        exact h
    refine wpAnyM_first hch h0 (Region.noSelect_spec hs) l.length listed a w hdn hw (Region.free_spec h0 hf) hr' ?_
    exact mOp_mono hw (fun a' w' hw' hK => wpAnyM_lex hch hs l (k + 1) _ a' w' (fun j => by have := hl (j + 1); simpa [Nat.add_assoc, Nat.add_comm 1 j] using this) (hdn.ready hr') hw' hB' hK) hm

/-- the chain, as a list of numbers -/
def chainB (md : Region.Mode) (ops : Array Oper) (Es : List Nat) : Bool :=
  Es.all fun i => Es.all fun j => i == j || dep md ops ops.size i j || dep md ops ops.size j i

theorem chain_of {Es : List Nat} (h : chainB md ops Es = true) : Chain md ops (fun k => Es.contains k) ops.size := by
  intro i j _ _ hne hi hj
  unfold chainB at h
  rw [List.all_eq_true] at h
  have h1 := h i (by simpa using hi)
  rw [List.all_eq_true] at h1
  have h2 := h1 j (by simpa using hj)
  simp only [Bool.or_eq_true, beq_iff_eq] at h2
  rcases h2 with (h2 | h2) | h2
  · exact absurd h2 hne
  · exact .inl h2
  · exact .inr h2

/-- a region's rest, behind a box (a goal that bears wpMix itself is opened by every tactic's look at it) -/
structure MixG (P : Program) (ops : Array Oper) (E : Nat → Bool) (C : World → Prop) (Q : Act → World → Prop) (k : Nat) (rest : List Oper) (a : Act) (w : World) : Prop where
  out : wpMix P ops E C Q k rest a w

theorem wp_region_mix {id : Nat} {l : List Oper} {Es : List Nat} (C : World → Prop) {Q : Exit → Act → World → Prop} {a : Act} {w : World} (hm : P.follows .mixedOrders = true)
    (hB : (Region.lexB .any l.toArray && chainB .any l.toArray Es) = true) (hC : C w.drew)
    (h : Nonempty (Subtype C) → MixG P l.toArray (fun k => Es.contains k) C (fun a' w' => Q .normal a' w') 0 l a w.drew) : (Code.region id l.toArray true).wp P Q a w := by
  simp only [Region.lexB, Bool.and_eq_true] at hB
  refine wp_region_any hm (wpAny_of_wpAnyM (Q := fun a' w' => Q .normal a' w') (C := C) (E := fun k => Es.contains k) (fun _ _ _ h => h) _ _ _ _ hC ?_)
  have := wpAnyM_lex (P := P) (C := C) (Q := fun a' w' => Q .normal a' w') (md := .any) (chain_of hB.2) hB.1.1 l 0 (Array.replicate l.toArray.size false) a w.drew (by simp) (Down.start _) hC (by simpa using hB.1.2) (h ⟨⟨_, hC⟩⟩).out
  simpa using this

/-! ### the steps -/
section
variable {Es : List Nat} {Q : Act → World → Prop} {o : Oper} {rest : List Oper} {a : Act} {w : World} {k : Nat}

theorem mix_nil (h : Q a w) : MixG P ops (fun k => Es.contains k) C Q k [] a w := ⟨h⟩

/-- an operation that is none of the chain; what follows behind a letter -/
theorem mix_step (hk : Es.contains k = false) (h : ∀ K : Act → World → Prop, (∀ a w, MixG P ops (fun k => Es.contains k) C Q (k + 1) rest a w → K a w) →
      if Region.wanted o (yielded ops a.tmps) then ∃ v, (∀ w2 : Subtype C, (execOp a.eval o).run P w2.1 = .ok (.value v) w2.1) ∧ K (a.put o.dst v) w else K (a.put o.dst undef) w) :
    MixG P ops (fun k => Es.contains k) C Q k (o :: rest) a w := by
  have := h (fun a w => wpMix P ops (fun k => Es.contains k) C Q (k + 1) rest a w) (fun _ _ h => h.out)
  refine ⟨?_⟩
  unfold wpMix
  simp only [hk]
  exact this

/-- an operation of the chain -/
theorem mix_eff (hk : Es.contains k = true) (h : ∀ K : Act → World → Prop, (∀ a w, C w → MixG P ops (fun k => Es.contains k) C Q (k + 1) rest a w → K a w) →
      if Region.wanted o (yielded ops a.tmps) then o.wp P a w K NoExit else K (a.put o.dst undef) w) :
    MixG P ops (fun k => Es.contains k) C Q k (o :: rest) a w := by
  have h1 := h (fun a' w' => C w' ∧ wpMix P ops (fun k => Es.contains k) C Q (k + 1) rest a' w') (fun _ _ hc hh => ⟨hc, hh.out⟩)
  refine ⟨?_⟩
  unfold wpMix
  simp only [hk, if_true]
  by_cases hw : Region.wanted o (yielded ops a.tmps) = true
  · simp only [hw, if_true] at h1 ⊢
    exact h1
  · simp only [hw] at h1 ⊢
    exact h1.2
end
end
end Go.Mix

/- Words that all walks of this seat use: texts as lists of bytes, what a slice reads as, and the step from a walk to a statement. No conditions. -/
namespace Go.Proofs.YtkpcmnckdappnaaGreat
set_option maxRecDepth 100000
open Go.ChangeShapes Go.WideShapes Go.ChangeAt Go.RowKit
open Go.ChangeMaps (open_string shut_string)

theorem mixed : Tryz.prog.follows .mixedOrders = true := by kernel_rfl
theorem own : ownKnob Tryz.prog.godebug = none := by kernel_rfl
theorem laidOut : laidOutB Tryz.prog = true := by kernel_rfl
theorem underBool : Tryz.prog.underlying 4 = some .bool := by kernel_rfl

theorem ret_int {k : IntKind} {a b : Int} (h : a = b) : Ending.returned (.int k a) = .returned (.int k b) := by rw [h]
theorem ret_bool {a b : Bool} (h : a = b) : Ending.returned (.bool a) = .returned (.bool b) := by rw [h]
theorem ret_str {a b : ByteArray} (h : a = b) : Ending.returned (.string a) = .returned (.string b) := by rw [h]

/-- a number fits int -/
def Fits (a : Int) : Prop := -9223372036854775808 ≤ a ∧ a ≤ 9223372036854775807

/-! ### texts -/
def bl (s : ByteArray) : List UInt8 := s.data.toList
def mk (l : List UInt8) : ByteArray := ⟨l.toArray⟩
theorem bl_mk (l : List UInt8) : bl (mk l) = l := by simp [bl, mk]
theorem mk_bl (s : ByteArray) : mk (bl s) = s := by simp [bl, mk]
theorem bl_inj {a b : ByteArray} (h : bl a = bl b) : a = b := by rw [← mk_bl a, ← mk_bl b, h]
theorem size_bl (s : ByteArray) : s.size = (bl s).length := Go.Lib.size_eq s
theorem size_mk (l : List UInt8) : (mk l).size = l.length := by rw [size_bl, bl_mk]
theorem toList_bl (s : ByteArray) : s.toList = bl s := by
  have h := Go.Lib.extract_toList s 0 s.size
  have h2 : s.extract 0 s.size = s := ByteArray.extract_zero_size
  rw [h2] at h
  rw [h]
  simp only [List.drop_zero, Nat.sub_zero]
  exact List.take_of_length_le (by rw [Go.Lib.size_eq]; exact Nat.le_refl _)
theorem bl_extract (s : ByteArray) (a b : Nat) : bl (s.extract a b) = ((bl s).drop a).take (b - a) := Go.Lib.extract_data s a b
theorem bl_append (a b : ByteArray) : bl (a ++ b) = bl a ++ bl b := by
  simp [bl]
theorem get_bl (s : ByteArray) (k : Nat) (h : k < s.size) : s[k] = (bl s)[k]'(by rw [← size_bl]; exact h) := by
  rfl

/-! ### slices: what one reads as, cell by cell -/
/-- the slice v has n elements of sz cells each: the cells cs -/
def SlC (w : World) (sz : Nat) (v : Value) (n : Nat) (cs : List Value) : Prop :=
  cs.length = n * sz ∧ ∃ a cap, v = .slice a n cap ∧ n ≤ cap ∧ cap ≤ maxLen ∧ (a = none → cap = 0) ∧
    (n = 0 ∨ ∃ b off, a = some ⟨b, off, none⟩ ∧ b < w.heap.size ∧ ∀ j, j < n * sz → w.cell? ⟨b, off + j, none⟩ = cs[j]?)

theorem SlC.below {B : Nat} {w w' : World} {sz n : Nat} {v : Value} {cs : List Value} (h : SlC w sz v n cs) (hb : Below B w w') (hB : w.heap.size ≤ B) : SlC w' sz v n cs := by
  obtain ⟨h1, a, cap, hv, h2, h3, hz, h4⟩ := h
  refine ⟨h1, a, cap, hv, h2, h3, hz, ?_⟩
  rcases h4 with h4 | ⟨b, off, ha, hlt, h4⟩
  · exact .inl h4
  · exact .inr ⟨b, off, ha, by have := hb.size; omega, fun j hj => by rw [hb.cell (p := ⟨b, off + j, none⟩) (by show b < B; omega)]; exact h4 j hj⟩

theorem SlC.nil (w : World) (sz : Nat) : SlC w sz (.slice none 0 0) 0 [] := ⟨by simp, none, 0, rfl, Nat.le_refl _, Nat.zero_le _, fun _ => rfl, .inl rfl⟩

theorem SlC.of_owns {w : World} {base e sz n : Nat} {v : Value} {cs : List Value} (h : w.ownsRow base e sz v n cs) : SlC w sz v n cs := by
  have hl := h.lt
  obtain ⟨h1, h2⟩ := h
  refine ⟨h1, ?_⟩
  rcases h2 with ⟨rfl, rfl⟩ | ⟨g, cap, cur, rfl, _, hg, hn, hm, hs, ht⟩
  · exact ⟨none, 0, rfl, Nat.le_refl _, Nat.zero_le _, fun _ => rfl, .inl rfl⟩
  · refine ⟨_, _, rfl, hn, hm, fun h => (by cases h), .inr ⟨g, 0, rfl, (hl g rfl).2, fun j hj => ?_⟩⟩
    rw [cell_of_row w g (0 + j) cur e (0, 0) hg, ← ht, List.getElem?_take]
    simp [hj]

theorem SlC.drew {w : World} {sz n : Nat} {v : Value} {cs : List Value} (h : SlC w sz v n cs) : SlC w.drew sz v n cs := h

/-- two slices' places behind 'Below' -/
theorem SlC.slice {w : World} {sz n : Nat} {v : Value} {cs : List Value} (h : SlC w sz v n cs) : ∃ a cap, v = .slice a n cap ∧ n ≤ cap ∧ cap ≤ maxLen := by
  obtain ⟨_, a, cap, hv, h2, h3, _, _⟩ := h
  exact ⟨a, cap, hv, h2, h3⟩

theorem SlC.cap {w : World} {sz n : Nat} {a : Option Addr} {m cap : Nat} {cs : List Value} (h : SlC w sz (.slice a m cap) n cs) : m = n ∧ n ≤ cap ∧ cap ≤ maxLen := by
  obtain ⟨_, a', cap', hv, h1, h2, _, _⟩ := h
  simp only [Value.slice.injEq] at hv
  obtain ⟨_, rfl, rfl⟩ := hv
  exact ⟨rfl, h1, h2⟩

theorem SlC.at {w : World} {sz n : Nat} {a : Option Addr} {m cap : Nat} {cs : List Value} (h : SlC w sz (.slice a m cap) n cs) (hn : 0 < n) :
    m = n ∧ ∃ b off, a = some ⟨b, off, none⟩ ∧ b < w.heap.size ∧ ∀ j, j < n * sz → w.cell? ⟨b, off + j, none⟩ = cs[j]? := by
  obtain ⟨_, a', cap', hv, _, _, _, h4⟩ := h
  cases hv
  rcases h4 with h4 | ⟨b, off, ha, hlt, h4⟩
  · omega
  · exact ⟨rfl, b, off, ha, hlt, h4⟩

/-- a piece of a slice -/
theorem SlC.sub {w : World} {sz n : Nat} {b off cap : Nat} {cs : List Value} (h : SlC w sz (.slice (some ⟨b, off, none⟩) n cap) n cs) {i j : Nat} (hij : i ≤ j) (hj : j ≤ n) {a' : Option Addr}
    (ha : i < j → a' = some ⟨b, off + i * sz, none⟩) (hz : a' = none → cap - i = 0) : SlC w sz (.slice a' (j - i) (cap - i)) (j - i) ((cs.drop (i * sz)).take ((j - i) * sz)) := by
  obtain ⟨hl, _, cap', hv, hn, hm, _, hc⟩ := h
  simp only [Value.slice.injEq] at hv
  obtain ⟨rfl, _, rfl⟩ := hv
  have e1 : j * sz ≤ n * sz := Nat.mul_le_mul_right _ hj
  have e2 : (j - i) * sz = j * sz - i * sz := Nat.sub_mul _ _ _
  have e3 : i * sz ≤ j * sz := Nat.mul_le_mul_right _ hij
  refine ⟨by rw [List.length_take, List.length_drop]; omega, a', cap - i, rfl, by omega, by omega, hz, ?_⟩
  by_cases h0 : j - i = 0
  · exact .inl h0
  right
  rcases hc with hc | ⟨b', off', hv', hlt, hcell⟩
  · omega
  · simp only [Option.some.injEq, Addr.mk.injEq] at hv'
    obtain ⟨rfl, rfl, _⟩ := hv'
    refine ⟨b, off + i * sz, ha (by omega), hlt, fun q hq => ?_⟩
    have := hcell (i * sz + q) (by omega)
    rw [Nat.add_assoc, this, List.getElem?_take, if_pos hq, List.getElem?_drop]

/-- a list of texts -/
def Strs (w : World) (v : Value) (ls : List (List UInt8)) : Prop := SlC w 1 v ls.length (ls.map fun l => .string (mk l))
/-- a list of ints -/
def Ints (w : World) (v : Value) (ls : List Int) : Prop := SlC w 1 v ls.length (ls.map fun n => .int .i64 n)
/-- a list of bytes -/
def Byts (w : World) (v : Value) (ls : List UInt8) : Prop := SlC w 1 v ls.length (ls.map fun n => .int .u8 n.toNat)

theorem Strs.below {B : Nat} {w w' : World} {v : Value} {ls : List (List UInt8)} (h : Strs w v ls) (hb : Below B w w') (hB : w.heap.size ≤ B) : Strs w' v ls := SlC.below h hb hB
theorem Ints.below {B : Nat} {w w' : World} {v : Value} {ls : List Int} (h : Ints w v ls) (hb : Below B w w') (hB : w.heap.size ≤ B) : Ints w' v ls := SlC.below h hb hB
theorem Byts.below {B : Nat} {w w' : World} {v : Value} {ls : List UInt8} (h : Byts w v ls) (hb : Below B w w') (hB : w.heap.size ≤ B) : Byts w' v ls := SlC.below h hb hB

theorem Strs.at {w : World} {a : Option Addr} {m cap : Nat} {ls : List (List UInt8)} (h : Strs w (.slice a m cap) ls) (hn : 0 < ls.length) :
    ∃ b off, a = some ⟨b, off, none⟩ ∧ b < w.heap.size ∧ ∀ j, j < ls.length → w.cell? ⟨b, off + j, none⟩ = some (.string (mk (ls.getD j []))) := by
  obtain ⟨_, b, off, ha, hlt, h4⟩ := SlC.at h hn
  refine ⟨b, off, ha, hlt, fun j hj => ?_⟩
  rw [h4 j (by omega)]
  simp [hj]
theorem Ints.at {w : World} {a : Option Addr} {m cap : Nat} {ls : List Int} (h : Ints w (.slice a m cap) ls) (hn : 0 < ls.length) :
    ∃ b off, a = some ⟨b, off, none⟩ ∧ b < w.heap.size ∧ ∀ j, j < ls.length → w.cell? ⟨b, off + j, none⟩ = some (.int .i64 (ls.getD j 0)) := by
  obtain ⟨_, b, off, ha, hlt, h4⟩ := SlC.at h hn
  refine ⟨b, off, ha, hlt, fun j hj => ?_⟩
  rw [h4 j (by omega)]
  simp [hj]
theorem Byts.at {w : World} {a : Option Addr} {m cap : Nat} {ls : List UInt8} (h : Byts w (.slice a m cap) ls) (hn : 0 < ls.length) :
    ∃ b off, a = some ⟨b, off, none⟩ ∧ b < w.heap.size ∧ ∀ j, j < ls.length → w.cell? ⟨b, off + j, none⟩ = some (.int .u8 (ls.getD j 0).toNat) := by
  obtain ⟨_, b, off, ha, hlt, h4⟩ := SlC.at h hn
  refine ⟨b, off, ha, hlt, fun j hj => ?_⟩
  rw [h4 j (by omega)]
  simp [hj]

/-- a slice that was built just now -/
theorem slc_new (w : World) (sz n e : Nat) (cs : List Value) (h : cs.length = n * sz) (hn : n ≤ maxLen) : SlC (w.alloc (.cells cs.toArray e)) sz (.slice (some ⟨w.heap.size, 0, none⟩) n n) n cs := by
  refine ⟨h, _, _, rfl, Nat.le_refl _, hn, fun h => (by cases h), .inr ⟨_, _, rfl, by simp, fun j _ => ?_⟩⟩
  rw [World.cell?_alloc_at (hn := rfl)]
  simp

/-- what came in as a slice, opened: its cells, element by element -/
theorem slc_of_cells {w : World} {x : Addr} {len cap : Nat} {sz : Nat} {cs all : List Value} (hsz : 0 < sz) (hl : len ≤ cap) (hm : cap ≤ maxLen) (hcs : cs = all.take (len * sz)) (hlen : len * sz ≤ all.length)
    (hcell : ∀ i, i < all.length → w.cell? (x.add i) = all[i]?) : SlC w sz (.slice (some x) len cap) len cs := by
  subst hcs
  refine ⟨by rw [List.length_take]; omega, some x, cap, rfl, hl, hm, fun h => (by cases h), ?_⟩
  by_cases h0 : len = 0
  · exact .inl h0
  right
  have hpos : 0 < len * sz := Nat.mul_pos (by omega) hsz
  have h1 := hcell 0 (by omega)
  have hx : x.add 0 = x := by simp [Addr.add]
  rw [hx] at h1
  obtain ⟨b, off, sp⟩ := x
  have hsp : sp = none := by
    cases sp with
    | none => rfl
    | some q =>
      exfalso
      unfold World.cell? at h1
      have : all[0]? ≠ none := by rw [List.getElem?_eq_getElem (by omega)]; simp
      apply this
      rw [← h1]
      split <;> simp
  subst hsp
  refine ⟨b, off, rfl, ?_, fun j hj => ?_⟩
  · exact World.block_lt_of_cell? (u := all[0]'(by omega)) w ⟨b, off, none⟩ (by rw [h1]; exact List.getElem?_eq_getElem (by omega))
  · have := hcell j (by omega)
    rw [Addr.add_lit] at this
    rw [this, List.getElem?_take, if_pos hj]

theorem open_Ints {H : Type} {enc : TypeId × Value → H} {w : World} {t e : TypeId} {v : Value} {d : DataW H} {ps : List MemPlace} {base : Nat} (ht : Tryz.prog.underlying t = some (.slice e)) (he : Tryz.prog.underlying e = some (.int .i64))
    (hc : Tryz.prog.cellsOf e = 1) (hval : Value.okWide Tryz.prog w .any base t v) (hd : DataW.Trod enc Tryz.prog w 0 (fun _ => true) true t v d ps) :
    ∃ a zs cap, v = .slice a zs.length cap ∧ Ints w v zs ∧ ∀ n ∈ zs, Fits n := by
  obtain ⟨a, len, cap, rfl⟩ := okWide_slice ht hval
  obtain ⟨fuel, hf⟩ := hd
  rcases open_ints ht he hc hf with ⟨hcs, _⟩ | ⟨x, l, c, zs, hcs, _, hl, hm, hz, _, hcell, hwz⟩
  · simp [Value.cells] at hcs
    obtain ⟨rfl, rfl, rfl⟩ := hcs
    exact ⟨none, [], 0, rfl, SlC.nil _ _, by simp⟩
  · simp [Value.cells] at hcs
    obtain ⟨rfl, rfl, rfl⟩ := hcs
    have hz' : zs.length = cap := by simpa using hz
    have hlen : (zs.take len).length = len := by rw [List.length_take]; omega
    refine ⟨_, zs.take len, cap, by rw [hlen], ?_, fun n hn => ?_⟩
    · unfold Ints
      rw [hlen]
      refine slc_of_cells (all := zs.map fun n => .int .i64 n) (by omega) hl hm (by rw [List.map_take]; simp) (by simp; omega) fun i hi => ?_
      simp at hi
      rw [hcell i hi]
      simp [hi]
    · have := hwz n (List.mem_of_mem_take hn)
      simpa [Fits, Lit.wf, IntKind.min, IntKind.max, IntKind.signed, IntKind.bits] using this

theorem open_Byts {H : Type} {enc : TypeId × Value → H} {w : World} {t e : TypeId} {v : Value} {d : DataW H} {ps : List MemPlace} {base : Nat} (ht : Tryz.prog.underlying t = some (.slice e)) (he : Tryz.prog.underlying e = some (.int .u8))
    (hc : Tryz.prog.cellsOf e = 1) (hval : Value.okWide Tryz.prog w .any base t v) (hd : DataW.Trod enc Tryz.prog w 0 (fun _ => true) true t v d ps) :
    ∃ a zs cap, v = .slice a (zs : List UInt8).length cap ∧ Byts w v zs := by
  obtain ⟨a, len, cap, rfl⟩ := okWide_slice ht hval
  obtain ⟨fuel, hf⟩ := hd
  rcases open_ints ht he hc hf with ⟨hcs, _⟩ | ⟨x, l, c, zs, hcs, _, hl, hm, hz, _, hcell, hwz⟩
  · simp [Value.cells] at hcs
    obtain ⟨rfl, rfl, rfl⟩ := hcs
    exact ⟨none, [], 0, rfl, SlC.nil _ _⟩
  · simp [Value.cells] at hcs
    obtain ⟨rfl, rfl, rfl⟩ := hcs
    have hz' : zs.length = cap := by simpa using hz
    have hlen : ((zs.take len).map fun n => UInt8.ofNat n.toNat).length = len := by rw [List.length_map, List.length_take]; omega
    refine ⟨_, (zs.take len).map (fun n => UInt8.ofNat n.toNat), cap, by rw [hlen], ?_⟩
    unfold Byts
    rw [hlen]
    refine slc_of_cells (all := zs.map fun n => .int .u8 n) (by omega) hl hm ?_ (by simp; omega) fun i hi => ?_
    · rw [List.map_map, List.map_take]
      simp only [Nat.mul_one]
      congr 1
      refine List.map_congr_left fun n hn => ?_
      have := hwz n hn
      have h2 : 0 ≤ n ∧ n ≤ 255 := by simpa [Lit.wf, IntKind.min, IntKind.max, IntKind.signed, IntKind.bits] using this
      simp only [Function.comp]
      congr 1
      simp
      omega
    · simp at hi
      rw [hcell i hi]
      simp [hi]

theorem open_Strs {H : Type} {enc : TypeId × Value → H} {w : World} {t e : TypeId} {v : Value} {d : DataW H} {ps : List MemPlace} {base : Nat} (ht : Tryz.prog.underlying t = some (.slice e)) (he : Tryz.prog.underlying e = some .string)
    (hc : Tryz.prog.cellsOf e = 1) (hval : Value.okWide Tryz.prog w .any base t v) (hd : DataW.Trod enc Tryz.prog w 0 (fun _ => true) true t v d ps) :
    ∃ a ls cap, v = .slice a (ls : List (List UInt8)).length cap ∧ Strs w v ls ∧ ∀ l ∈ ls, l.length ≤ maxLen := by
  obtain ⟨a, len, cap, rfl⟩ := okWide_slice ht hval
  obtain ⟨fuel, hf⟩ := hd
  rcases open_strings ht he hc hf with ⟨hcs, _⟩ | ⟨x, l, c, zs, hcs, _, hl, hm, hz, _, hcell, hwz⟩
  · simp [Value.cells] at hcs
    obtain ⟨rfl, rfl, rfl⟩ := hcs
    exact ⟨none, [], 0, rfl, SlC.nil _ _, by simp⟩
  · simp [Value.cells] at hcs
    obtain ⟨rfl, rfl, rfl⟩ := hcs
    have hz' : zs.length = cap := by simpa using hz
    have hlen : ((zs.take len).map bl).length = len := by rw [List.length_map, List.length_take]; omega
    refine ⟨_, (zs.take len).map bl, cap, by rw [hlen], ?_, fun l hl => ?_⟩
    · unfold Strs
      rw [hlen]
      refine slc_of_cells (all := zs.map fun n => .string n) (by omega) hl hm (by rw [List.map_map, List.map_take]; simp [Function.comp_def, mk_bl]) (by simp; omega) fun i hi => ?_
      simp at hi
      rw [hcell i hi]
      simp [hi]
    · obtain ⟨s, hs, rfl⟩ := List.mem_map.1 hl
      rw [← size_bl]
      exact hwz s (List.mem_of_mem_take hs)

theorem Ints.sub {w : World} {n b off cap : Nat} {l : List Int} (h : Ints w (.slice (some ⟨b, off, none⟩) n cap) l) (hn : l.length = n) {i j : Nat} (hij : i ≤ j) (hj : j ≤ n) {a' : Option Addr}
    (ha : i < j → a' = some ⟨b, off + i, none⟩) (hz : a' = none → cap - i = 0) : Ints w (.slice a' (j - i) (cap - i)) ((l.drop i).take (j - i)) := by
  subst hn
  have := SlC.sub h hij hj (a' := a') (by simpa using ha) hz
  unfold Ints
  have e : ((l.drop i).take (j - i)).length = j - i := by rw [List.length_take, List.length_drop]; omega
  rw [e]
  simpa [List.map_drop, List.map_take] using this
theorem Strs.sub {w : World} {n b off cap : Nat} {l : List (List UInt8)} (h : Strs w (.slice (some ⟨b, off, none⟩) n cap) l) (hn : l.length = n) {i j : Nat} (hij : i ≤ j) (hj : j ≤ n) {a' : Option Addr}
    (ha : i < j → a' = some ⟨b, off + i, none⟩) (hz : a' = none → cap - i = 0) : Strs w (.slice a' (j - i) (cap - i)) ((l.drop i).take (j - i)) := by
  subst hn
  have := SlC.sub h hij hj (a' := a') (by simpa using ha) hz
  unfold Strs
  have e : ((l.drop i).take (j - i)).length = j - i := by rw [List.length_take, List.length_drop]; omega
  rw [e]
  simpa [List.map_drop, List.map_take] using this
theorem Byts.sub {w : World} {n b off cap : Nat} {l : List UInt8} (h : Byts w (.slice (some ⟨b, off, none⟩) n cap) l) (hn : l.length = n) {i j : Nat} (hij : i ≤ j) (hj : j ≤ n) {a' : Option Addr}
    (ha : i < j → a' = some ⟨b, off + i, none⟩) (hz : a' = none → cap - i = 0) : Byts w (.slice a' (j - i) (cap - i)) ((l.drop i).take (j - i)) := by
  subst hn
  have := SlC.sub h hij hj (a' := a') (by simpa using ha) hz
  unfold Byts
  have e : ((l.drop i).take (j - i)).length = j - i := by rw [List.length_take, List.length_drop]; omega
  rw [e]
  simpa [List.map_drop, List.map_take] using this

/-! ### from a walk to a statement -/
theorem below_all {H : Type} {enc : TypeId × Value → H} {W W' : World} (hb : Below W.heap.size W W') :
    ∀ (ts : List TypeId) (vs : List Value) (ds : List (DataW H)) (ps : List MemPlace), (∀ t ∈ ts, Tryz.prog.readableRec t = true ∧ t < Tryz.prog.types.size) →
      DataW.TrodAll enc Tryz.prog W 0 (fun _ => true) true ts vs ds ps → DataW.TrodAll enc Tryz.prog W' 0 (fun b => decide (b < W.heap.size)) true ts vs ds ps
  | [], [], [], _, _, h => h
  | t :: ts, v :: vs, d :: ds, ps, hr, h => by
    obtain ⟨p, q, h1, h2, h3⟩ := h
    have hlt : ∀ x ∈ p, x.block < W.heap.size := by obtain ⟨m, hm⟩ := h1; exact DataW.trod_lt m _ _ _ hm
    exact ⟨p, q, Below.trod laidOut (hr t (by simp)).1 (hr t (by simp)).2 h1 hb hlt, below_all hb ts vs ds q (fun t ht => hr t (List.mem_cons_of_mem _ ht)) h2, h3⟩
  | [], _ :: _, _, _, _, h => h.elim
  | [], [], _ :: _, _, _, h => h.elim
  | _ :: _, [], _, _, _, h => h.elim
  | _ :: _, _ :: _, [], _, _, h => h.elim

theorem trodAll_length {H : Type} {enc : TypeId × Value → H} {P : Program} {w : World} {base : Nat} {spare : Nat → Bool} {held : Bool} :
    ∀ (ts : List TypeId) (vs : List Value) (ds : List (DataW H)) (ps : List MemPlace), DataW.TrodAll enc P w base spare held ts vs ds ps → ds.length = ts.length
  | [], [], [], _, _ => rfl
  | _ :: ts, _ :: vs, _ :: ds, _, h => by
    obtain ⟨p, q, _, h2, _⟩ := h
    simp [trodAll_length ts vs ds q h2]
  | [], _ :: _, _, _, h => h.elim
  | [], [], _ :: _, _, h => h.elim
  | _ :: _, [], _, _, h => h.elim
  | _ :: _, _ :: _, [], _, h => h.elim

/-- A law's walk: it returns true, and of what was there nothing has turned: then what the statement asks behind the call holds. -/
theorem law_post {H : Type} (enc : TypeId × Value → H) {f : FuncId} {fn : Func} {s : ChangeSpec} {W : World} {args : Array Value} {ds gs : List (DataW H)} {before : List MemPlace}
    (n : Nat) (hn : fn.params.toList.length = n) (hvars : s.vars = []) (hres : fn.resultTypes = #[4])
    (hread : (fn.params.toList.all fun t => Tryz.prog.readableRec t && decide (t < Tryz.prog.types.size)) = true)
    (hfn : ∀ ds : List (DataW H), ds.length = n → s.fn H (ds ++ []) = { results := [.lit (.bool true)], args := ds })
    (hW : DataW.Whole enc Tryz.prog fn.params.toList s.vars false W args.toList ds gs before)
    (walk : Calls Tryz.prog f args W fun e W' => e = .returned (.bool true) ∧ Below W.heap.size W W') :
    Calls Tryz.prog f args W fun e W' => ∃ v, e = .returned v ∧ s.post enc Tryz.prog fn false true false false W args v W' := by
  refine walk.mono fun e W' ⟨he, hb⟩ => ⟨_, he, ?_⟩
  have hW' := hW
  obtain ⟨p, q, hA, hV, hpq, _, _⟩ := hW
  rw [hvars] at hV
  obtain ⟨rfl, rfl⟩ := trodVars_none hV
  have hf := hfn ds ((trodAll_length _ _ _ _ hA).trans hn)
  refine ⟨ds, [], before, [], p, [], hW', ?_, ?_, ?_, hb.frame _, fun h => by cases h⟩
  · rw [hf, hres]
    exact trodAll_mk1 (shut_bool underBool _)
  · rw [hf]
    exact below_all hb _ _ _ _ (fun t ht => by have := List.all_eq_true.1 hread t ht; simpa using this) hA
  · rw [hf, hvars]
    rfl

/-! ### opening arguments, one by one -/
theorem fits_of_wf {a : Int} (h : (Lit.int .i64 a).wf = true) : Fits a := by
  simpa [Fits, Lit.wf, IntKind.min, IntKind.max, IntKind.signed, IntKind.bits] using h

end Go.Proofs.YtkpcmnckdappnaaGreat

/- 'append' to a slice of the call's own, from whatever slice: as a law for a walk, and for a region whose order is open. Conditions: the lengths' sum is within what Go's growslice bears. -/
namespace Go.Proofs.YtkpcmnckdappnaaGreat
open Go.RowKit

/-- a slice type, its element type, cells and bytes -/
def EI (P : Program) (t e sz bytes : Nat) : Prop :=
  ∃ i z, P.underlying t = some (.slice e) ∧ P.info? e = some i ∧ i.zero = some z ∧ i.size = sz ∧ i.bytes = bytes ∧ z.cells.size = sz ∧ 0 < sz

theorem ei_of {P : Program} {t e : Nat} {z : Value} {sz bytes : Nat} (ht : P.underlying t = some (.slice e)) (h : (P.info? e).map (fun i => (i.zero, i.size, i.bytes)) = some (some z, sz, bytes))
    (hz : z.cells.size = sz) (hs : 0 < sz) : EI P t e sz bytes := by
  obtain ⟨i, h0, h1, h2, h3⟩ := info_parts h
  exact ⟨i, z, ht, h0, h1, h2, h3, hz, hs⟩

theorem run_app {P : Program} {t e sz bytes : Nat} (ei : EI P t e sz bytes) (w : World) (ty base : Nat) {v src : Value} {n m : Nat} {xs news : List Value} (hown : w.ownsRow base e sz v n xs)
    (hsrc : SlC w sz src m news) (h1 : ∀ u ∈ news, u.oneCell' = true) (h63 : n + m ≤ maxLen) (hbytes : (n + m) * bytes ≤ 140737488355328) (hbase : base ≤ w.heap.size) :
    ∃ v' w', (Builtin.append_ #[t, t] ty #[v, src]).run P w = .ok v' w' ∧ w'.ownsRow base e sz v' (n + m) (xs ++ news) ∧ w.grownBy w' v.ownBlock := by
  obtain ⟨i, z, ht, hi, hz, hsz, hby, hzs, hpos⟩ := ei
  obtain ⟨hl, a, cap, rfl, hm, hcm, hz0, hc⟩ := hsrc
  cases a with
  | none =>
    rcases hc with rfl | ⟨b, off, hno, _⟩
    · have hn : news = [] := List.eq_nil_of_length_eq_zero (by simpa using hl)
      subst hn
      obtain rfl := hz0 rfl
      have hrun := run_append_owned_none (P := P) (w := w) base t ty e i sz ht hi v n xs hown
      exact ⟨v, w, hrun, by simpa using hown, ⟨rfl, rfl, rfl, Nat.le_refl _, fun _ _ _ => rfl⟩⟩
    · cases hno
  | some x =>
    have hnews : ∀ j u, news[j]? = some u → w.cell? (x.add j) = some u := by
      intro j u hu
      have hj : j < news.length := (List.getElem?_eq_some_iff.1 hu).1
      rcases hc with rfl | ⟨b, off, hx, _, hcell⟩
      · simp at hl
        rw [hl] at hj
        simp at hj
      · simp only [Option.some.injEq] at hx
        subst hx
        rw [Addr.add_lit, hcell j (by omega)]
        exact hu
    obtain ⟨v', w', hr, h2, h3, _⟩ := run_append_own (P := P) w base t ty e i z sz bytes ht hi hz hsz hby hzs hpos v n xs hown x m cap news hl hnews h1 h63 hbytes hbase
    exact ⟨v', w', hr, h2, h3⟩

theorem wp_app {P : Program} {t e sz bytes : Nat} (ei : EI P t e sz bytes) {w : World} {o : Oper} {a : Act} {K : Act → World → Prop} {Q : Exit → Act → World → Prop} (s x : Operand)
    (ho : o.op = .call { callee := .builtin .append, args := #[s, x], argTypes := #[t, t] }) (base : Nat) {v src : Value} {n m : Nat} {xs news : List Value} (hs : a.eval s = v) (hx : a.eval x = src)
    (hown : w.ownsRow base e sz v n xs) (hsrc : SlC w sz src m news) (h1 : ∀ u ∈ news, u.oneCell' = true) (h63 : n + m ≤ maxLen) (hbytes : (n + m) * bytes ≤ 140737488355328) (hbase : base ≤ w.heap.size)
    (h : ∀ v' w', w'.ownsRow base e sz v' (n + m) (xs ++ news) → w.grownBy w' v.ownBlock → K (a.put o.dst v') w') : o.wp P a w K Q := by
  obtain ⟨v', w', hr, h2, h3⟩ := run_app ei w o.type base hown hsrc h1 h63 hbytes hbase
  unfold Oper.wp execOp
  simp only [ho, resolve, invoke, builtin, Sem.run_bind, Sem.run_pure, Result.andThen_ok, List.map_toArray, List.map_cons, List.map_nil, hs, hx, hr]
  exact h v' w' h2 h3

theorem wpList_app {P : Program} {t e sz bytes : Nat} (ei : EI P t e sz bytes) {w : World} {ops : Array Oper} {rest : List Oper} {o : Oper} {a : Act} {Q : Exit → Act → World → Prop} (s x : Operand)
    (hgd : Region.wanted o (yielded ops a.tmps) = true)
    (ho : o.op = .call { callee := .builtin .append, args := #[s, x], argTypes := #[t, t] }) (base : Nat) {v src : Value} {n m : Nat} {xs news : List Value} (hs : a.eval s = v) (hx : a.eval x = src)
    (hown : w.ownsRow base e sz v n xs) (hsrc : SlC w sz src m news) (h1 : ∀ u ∈ news, u.oneCell' = true) (h63 : n + m ≤ maxLen) (hbytes : (n + m) * bytes ≤ 140737488355328) (hbase : base ≤ w.heap.size)
    (h : ∀ v' w', w'.ownsRow base e sz v' (n + m) (xs ++ news) → w.grownBy w' v.ownBlock → wpList P ops Q rest (a.put o.dst v') w') : wpList P ops Q (o :: rest) a w :=
  wpList_step fun K hK => by
    rw [if_pos hgd]
    exact wp_app ei s x ho base hs hx hown hsrc h1 h63 hbytes hbase fun v' w' h2 h3 => hK _ _ (h v' w' h2 h3)

theorem mix_app {P : Program} {t e sz bytes : Nat} (ei : EI P t e sz bytes) {w : World} {ops : Array Oper} {rest : List Oper} {o : Oper} {a : Act} {Es : List Nat} {C : World → Prop} {Q : Act → World → Prop} {k : Nat} (s x : Operand)
    (hk : Es.contains k = true) (hgd : Region.wanted o (yielded ops a.tmps) = true)
    (ho : o.op = .call { callee := .builtin .append, args := #[s, x], argTypes := #[t, t] }) (base : Nat) {v src : Value} {n m : Nat} {xs news : List Value} (hs : a.eval s = v) (hx : a.eval x = src)
    (hown : w.ownsRow base e sz v n xs) (hsrc : SlC w sz src m news) (h1 : ∀ u ∈ news, u.oneCell' = true) (h63 : n + m ≤ maxLen) (hbytes : (n + m) * bytes ≤ 140737488355328) (hbase : base ≤ w.heap.size)
    (h : ∀ v' w', w'.ownsRow base e sz v' (n + m) (xs ++ news) → w.grownBy w' v.ownBlock → C w' ∧ Go.Mix.MixG P ops (fun k => Es.contains k) C Q (k + 1) rest (a.put o.dst v') w') :
    Go.Mix.MixG P ops (fun k => Es.contains k) C Q k (o :: rest) a w :=
  Go.Mix.mix_eff hk fun K hK => by
    rw [if_pos hgd]
    exact wp_app ei s x ho base hs hx hown hsrc h1 h63 hbytes hbase fun v' w' h2 h3 => hK _ _ (h v' w' h2 h3).1 (h v' w' h2 h3).2

theorem one_ints (k : IntKind) (l : List Int) : ∀ u ∈ (l.map fun n => Value.int k n), u.oneCell' = true := by
  intro u hu
  obtain ⟨n, _, rfl⟩ := List.mem_map.1 hu
  rfl
theorem one_byts (l : List UInt8) : ∀ u ∈ (l.map fun n => Value.int .u8 n.toNat), u.oneCell' = true := by
  intro u hu
  obtain ⟨n, _, rfl⟩ := List.mem_map.1 hu
  rfl
theorem one_strs (l : List (List UInt8)) : ∀ u ∈ (l.map fun n => Value.string (mk n)), u.oneCell' = true := by
  intro u hu
  obtain ⟨n, _, rfl⟩ := List.mem_map.1 hu
  rfl

/-- an empty slice that was built just now, or nil -/
theorem owns_empty (w : World) (base e sz : Nat) (hb : base ≤ w.heap.size) : (w.alloc (.cells #[] e)).ownsRow base e sz (.slice (some ⟨w.heap.size, 0, none⟩) 0 0) 0 [] :=
  World.ownsRow_made w #[] 0 hb (Nat.zero_le _) (by simp)

/-- Below, behind an append to a slice of the call's own -/
theorem below_app {B : Nat} {w0 w w' : World} {base e sz n : Nat} {v : Value} {xs : List Value} (hb : Below B w0 w) (hown : w.ownsRow base e sz v n xs) (hg : w.grownBy w' v.ownBlock) (hB : B ≤ base) (hs : B ≤ w.heap.size) : Below B w0 w' :=
  hb.grown hg hs fun k e => by have := (hown.lt k e).1; omega
end Go.Proofs.YtkpcmnckdappnaaGreat

/- Texts and rows of bytes: '[]byte(s)', 'string(b)', and a row of the call's own that is written cell by cell. No conditions. -/
namespace Go.Proofs.YtkpcmnckdappnaaGreat
open Go.RowKit

/-- block g is a row of the call's own whose first cells are cs; none of them is frozen -/
def Row (w : World) (g : Nat) (cs : List Value) : Prop :=
  ∃ (C : Array Value) (e lo hi : Nat), w.heap[g]? = some (.cells C e (lo, hi)) ∧ C.toList.take cs.length = cs ∧ cs.length ≤ C.size ∧ (cs.length ≤ lo ∨ hi = 0)

theorem Row.lt {w : World} {g : Nat} {cs : List Value} (h : Row w g cs) : g < w.heap.size := by
  obtain ⟨C, e, lo, hi, hg, _⟩ := h
  exact (Array.getElem?_eq_some_iff.1 hg).1
theorem Row.cell {w : World} {g : Nat} {cs : List Value} (h : Row w g cs) {j : Nat} (hj : j < cs.length) : w.cell? ⟨g, j, none⟩ = cs[j]? := by
  obtain ⟨C, e, lo, hi, hg, ht, hl, hf⟩ := h
  rw [cell_of_row w g j C e (lo, hi) hg]
  conv => rhs; rw [← ht]
  rw [List.getElem?_take, if_pos hj]
  simp
theorem Row.free {w : World} {g : Nat} {cs : List Value} (h : Row w g cs) {j : Nat} (hj : j < cs.length) : w.frozen? ⟨g, j, none⟩ = false := by
  obtain ⟨C, e, lo, hi, hg, ht, hl, hf⟩ := h
  simp only [World.frozen?, hg]
  rcases hf with hf | hf
  · have : ¬ lo ≤ j := by omega
    simp [this]
  · simp [hf]
theorem Row.slc {w : World} {g n cap : Nat} {cs : List Value} (h : Row w g cs) (hn : cs.length = n) (hc : n ≤ cap) (hm : cap ≤ maxLen) : SlC w 1 (.slice (some ⟨g, 0, none⟩) n cap) n cs :=
  ⟨by omega, _, _, rfl, hc, hm, fun h => (by cases h), .inr ⟨g, 0, rfl, h.lt, fun j hj => by rw [Nat.zero_add]; exact h.cell (by omega)⟩⟩
theorem Row.keep {B : Nat} {w w' : World} {g : Nat} {cs : List Value} (h : Row w g cs) (hb : Below B w w') (hg : g < B) : Row w' g cs := by
  obtain ⟨C, e, lo, hi, h1, h2⟩ := h
  exact ⟨C, e, lo, hi, by rw [hb.block g hg]; exact h1, h2⟩
theorem Row.set {w : World} {g : Nat} {cs : List Value} (h : Row w g cs) (j : Nat) (v : Value) : Row (w.setCell ⟨g, j, none⟩ v) g (cs.set j v) := by
  obtain ⟨C, e, lo, hi, hg, ht, hl, hf⟩ := h
  refine ⟨C.setIfInBounds j v, e, lo, hi, ?_, ?_, by simpa using hl, by simpa using hf⟩
  · simp only [World.setCell, Array.getElem?_modify]
    simp [hg]
  · rw [List.length_set, Array.toList_setIfInBounds]
    conv => rhs; rw [← ht]
    exact List.take_set
theorem Row.drew {w : World} {g : Nat} {cs : List Value} (h : Row w g cs) : Row w.drew g cs := h

/-- '[]byte(s)' -/
theorem conv_bytes {P : Program} (w : World) (src dst e : TypeId) (s : ByteArray) (hs : P.underlying src = some .string) (hd : P.underlying dst = some (.slice e)) (he : P.underlying e = some (.int .u8)) (hm : s.size ≤ maxLen) :
    ∃ cap w', (convert src dst (.string s)).run P w = .ok (.slice (some ⟨w.heap.size, 0, none⟩) s.size cap) w' ∧ s.size ≤ cap ∧ cap ≤ maxLen ∧
      Row w' w.heap.size ((bl s).map fun b => .int .u8 b.toNat) ∧ Below w.heap.size w w' ∧ w'.heap.size = w.heap.size + 1 := by
  refine ⟨_, _, run_bytes_of_string w src dst e s hs hd he, grownCap_ge w s.size 0 e, grownCap_le_maxLen w s.size 0 e hm, ?_, ?_, ?_⟩
  · have hsz : (bytesRow s (grownCap w s.size 0 e)).size = s.size + (grownCap w s.size 0 e - s.size) := by simp [bytesRow]
    refine ⟨_, _, _, _, heap_alloc_new w.drew _, ?_, ?_, .inl ?_⟩
    · rw [List.length_map, ← size_bl]
      simp only [bytesRow, Array.toList_append]
      rw [List.take_append_of_le_length (by simp)]
      simp only [Array.toList_map]
      rw [List.take_of_length_le (by simp)]
      rfl
    · rw [List.length_map, ← size_bl, hsz]; omega
    · rw [List.length_map, ← size_bl, hsz]; omega
  · exact ((Below.refl _ _).drew).alloc (Nat.le_refl _) _
  · simp

/-- 'string(b)' -/
theorem conv_string {P : Program} {w : World} {src dst e : TypeId} {v : Value} {l : List UInt8} (h : Byts w v l) (hs : P.underlying src = some (.slice e)) (he : P.underlying e = some (.int .u8)) (hd : P.underlying dst = some .string) :
    (convert src dst v).run P w = .ok (.string (mk l)) w := by
  obtain ⟨_, a, cap, rfl, _, _, _, hc⟩ := h
  have hdata : strOfNums (l.map fun b => (b.toNat : Int)) = mk l := by
    apply bl_inj
    rw [bl_mk]
    unfold bl
    rw [strOfNums_data, List.map_map]
    have : ((fun n : Int => UInt8.ofNat n.toNat) ∘ fun b : UInt8 => (b.toNat : Int)) = id := by
      funext b; simp
    rw [this, List.map_id]
  cases a with
  | none =>
    have hl : l = [] := by
      rcases hc with hc | ⟨b, off, h, _⟩
      · exact List.eq_nil_of_length_eq_zero hc
      · cases h
    subst hl
    exact run_convert_bytes_nil w src e hs he _ _ dst hd
  | some x =>
    rcases hc with hc | ⟨b, off, hx, _, hcell⟩
    · have hl : l = [] := List.eq_nil_of_length_eq_zero hc
      subst hl
      have h0 : (loadCells x 0).run P w = .ok #[] w := by
        have := run_loadCells_list (P := P) w x [] (fun j v hj => by simp at hj)
        simpa using this
      rw [run_convert_bytes_string w src dst e _ _ cap hs he hd]
      have := run_bytesToString w x 0 cap [] (by simpa using h0)
      exact this
    · simp only [Option.some.injEq] at hx
      subst hx
      rw [← hdata]
      refine run_convert_bytes_arg w src e hs he b off l.length cap _ (by simp) (fun i hi => ?_) dst hd
      rw [hcell i (by omega)]
      simp [hi]

theorem run_conv_bytes (s : ByteArray) (hm : s.size ≤ maxLen) (w : World) :
    ∃ cap w', (convert 9 82 (.string s)).run Tryz.prog w = .ok (.slice (some ⟨w.heap.size, 0, none⟩) s.size cap) w' ∧ s.size ≤ cap ∧ cap ≤ maxLen ∧
      Row w' w.heap.size ((bl s).map fun b => .int .u8 b.toNat) ∧ Below w.heap.size w w' ∧ w'.heap.size = w.heap.size + 1 :=
  conv_bytes w _ _ _ s Tryz.underlying9 Tryz.underlying82 Tryz.underlying5 hm

theorem run_conv_string {w : World} {v : Value} {l : List UInt8} (h : Byts w v l) : (convert 82 9 v).run Tryz.prog w = .ok (.string (mk l)) w :=
  conv_string h Tryz.underlying82 Tryz.underlying5 Tryz.underlying9
end Go.Proofs.YtkpcmnckdappnaaGreat

/- Plain law of names: what a list of bytes is as a name (labels, each behind its length, and a nought), read and written. Lists alone; no program in sight. -/
namespace Go.Nm

abbrev Bytes := List UInt8

/-- labels, each behind its length -/
def pre : List Bytes → Bytes
  | [] => []
  | l :: ls => UInt8.ofNat l.length :: (l ++ pre ls)

def wire (ls : List Bytes) : Bytes := pre ls ++ [0]

def GoodL (ls : List Bytes) : Prop := ∀ l ∈ ls, 1 ≤ l.length ∧ l.length ≤ 63

/-- the labels that a text begins with, and what is behind their nought -/
def unw : Nat → Bytes → Option (List Bytes × Bytes)
  | 0, _ => none
  | _ + 1, [] => none
  | n + 1, c :: r =>
    if c = 0 then some ([], r)
    else if 63 < c.toNat ∨ r.length < c.toNat then none
    else (unw n (r.drop c.toNat)).map fun p => (r.take c.toNat :: p.1, p.2)

def unwire (s : Bytes) : Option (List Bytes × Bytes) := unw (s.length + 1) s

/-- the labels of a name -/
def lab (s : Bytes) : Option (List Bytes) :=
  match unwire s with
  | some (ls, []) => if s.length ≤ 255 then some ls else none
  | _ => none

def valid (s : Bytes) : Bool := (lab s).isSome
def labs (s : Bytes) : List Bytes := (lab s).getD []

/-- where the name that a text begins with ends -/
def lead (s : Bytes) : Option Nat :=
  match unwire s with
  | some (ls, _) => if (wire ls).length ≤ 255 then some (wire ls).length else none
  | none => none

theorem pre_append (a b : List Bytes) : pre (a ++ b) = pre a ++ pre b := by
  induction a with
  | nil => rfl
  | cons x a ih => simp [pre, ih]

theorem good_append {a b : List Bytes} : GoodL (a ++ b) ↔ GoodL a ∧ GoodL b := by
  unfold GoodL
  constructor
  · intro h
    exact ⟨fun l hl => h l (List.mem_append_left _ hl), fun l hl => h l (List.mem_append_right _ hl)⟩
  · rintro ⟨h1, h2⟩ l hl
    rcases List.mem_append.1 hl with h | h
    · exact h1 l h
    · exact h2 l h

theorem good_cons {x : Bytes} {a : List Bytes} : GoodL (x :: a) ↔ (1 ≤ x.length ∧ x.length ≤ 63) ∧ GoodL a := by
  unfold GoodL
  simp

theorem good_nil : GoodL [] := by unfold GoodL; simp

theorem ofNat_toNat {n : Nat} (h : n ≤ 63) : (UInt8.ofNat n).toNat = n := by
  simp; omega

theorem toNat_pos {c : UInt8} (h : c ≠ 0) : 1 ≤ c.toNat := by
  rcases Nat.eq_zero_or_pos c.toNat with h0 | h0
  · exact absurd (by rw [← UInt8.toNat_inj]; simpa using h0) h
  · exact h0

theorem unw_sound : ∀ (n : Nat) (s : Bytes) (ls : List Bytes) (t : Bytes), unw n s = some (ls, t) → s = wire ls ++ t ∧ GoodL ls
  | 0, _, _, _, h => by simp [unw] at h
  | n + 1, [], _, _, h => by simp [unw] at h
  | n + 1, c :: r, ls, t, h => by
    unfold unw at h
    by_cases hc : c = 0
    · simp [hc] at h
      obtain ⟨rfl, rfl⟩ := h
      exact ⟨by simp [hc, wire, pre], good_nil⟩
    · simp only [hc, if_false] at h
      by_cases hb : 63 < c.toNat ∨ r.length < c.toNat
      · simp [hb] at h
      · simp only [hb, if_false, Option.map_eq_some_iff, Prod.exists, Prod.mk.injEq] at h
        obtain ⟨ls', t', hu, rfl, rfl⟩ := h
        obtain ⟨h1, h2⟩ := unw_sound n _ _ _ hu
        have hlen : (r.take c.toNat).length = c.toNat := by rw [List.length_take]; omega
        have hcn := toNat_pos hc
        refine ⟨?_, good_cons.2 ⟨by omega, h2⟩⟩
        have hr : r = r.take c.toNat ++ (wire ls' ++ t') := by rw [← h1, List.take_append_drop]
        have hcc : UInt8.ofNat (r.take c.toNat).length = c := by rw [hlen]; simp
        simp only [wire, pre, hcc, List.cons_append, List.append_assoc]
        congr 1
        simpa [wire] using hr

theorem unw_complete : ∀ (ls : List Bytes) (n : Nat) (t : Bytes), GoodL ls → ls.length < n → unw n (wire ls ++ t) = some (ls, t)
  | [], n, t, _, hn => by
    cases n with
    | zero => simp at hn
    | succ n => simp [wire, pre, unw]
  | l :: ls, n, t, hg, hn => by
    cases n with
    | zero => simp at hn
    | succ n =>
      obtain ⟨⟨h1, h2⟩, h3⟩ := good_cons.1 hg
      have hc : (UInt8.ofNat l.length).toNat = l.length := ofNat_toNat h2
      have hne : UInt8.ofNat l.length ≠ 0 := by
        intro h
        have := congrArg UInt8.toNat h
        rw [hc] at this
        simp at this
        rw [this] at h1
        simp at h1
      have ih := unw_complete ls n t h3 (by simpa using hn)
      have e : wire (l :: ls) ++ t = UInt8.ofNat l.length :: (l ++ (wire ls ++ t)) := by simp [wire, pre]
      rw [e]
      unfold unw
      simp only [hne, if_false, hc]
      have hb : ¬ (63 < l.length ∨ (l ++ (wire ls ++ t)).length < l.length) := by simp; omega
      simp only [hb, if_false]
      rw [List.drop_left, List.take_left, ih]
      rfl

theorem wire_length_gt (ls : List Bytes) : ls.length < (wire ls).length := by
  induction ls with
  | nil => simp [wire, pre]
  | cons l ls ih => simp [wire, pre] at ih ⊢; omega

theorem unwire_eq {s : Bytes} {ls : List Bytes} {t : Bytes} : unwire s = some (ls, t) ↔ s = wire ls ++ t ∧ GoodL ls := by
  constructor
  · exact unw_sound _ _ _ _
  · rintro ⟨rfl, h⟩
    unfold unwire
    exact unw_complete ls _ t h (by have := wire_length_gt ls; simp; omega)

theorem lab_eq {s : Bytes} {ls : List Bytes} : lab s = some ls ↔ s = wire ls ∧ GoodL ls ∧ s.length ≤ 255 := by
  unfold lab
  constructor
  · intro h
    split at h
    · rename_i ls' hu
      split at h
      · rename_i hl
        simp at h
        subst h
        obtain ⟨h1, h2⟩ := unwire_eq.1 hu
        exact ⟨by simpa using h1, h2, hl⟩
      · cases h
    · cases h
  · rintro ⟨h1, h2, h3⟩
    have : unwire s = some (ls, []) := unwire_eq.2 ⟨by simpa using h1, h2⟩
    rw [this]
    simp [h3]

theorem valid_iff {s : Bytes} : valid s = true ↔ ∃ ls, s = wire ls ∧ GoodL ls ∧ s.length ≤ 255 := by
  unfold valid
  rw [Option.isSome_iff_exists]
  exact ⟨fun ⟨ls, h⟩ => ⟨ls, lab_eq.1 h⟩, fun ⟨ls, h⟩ => ⟨ls, lab_eq.2 h⟩⟩

theorem valid_cases (s : Bytes) : (valid s = false ∧ labs s = []) ∨ (valid s = true ∧ s = wire (labs s) ∧ GoodL (labs s) ∧ s.length ≤ 255) := by
  cases h : lab s with
  | none => exact .inl ⟨by simp [valid, h], by simp [labs, h]⟩
  | some ls =>
    have := lab_eq.1 h
    exact .inr ⟨by simp [valid, h], by simpa [labs, h] using this⟩

theorem wire_inj {a b : List Bytes} {t u : Bytes} (ha : GoodL a) (hb : GoodL b) (h : wire a ++ t = wire b ++ u) : a = b ∧ t = u := by
  have h1 : unwire (wire a ++ t) = some (a, t) := unwire_eq.2 ⟨rfl, ha⟩
  have h2 : unwire (wire b ++ u) = some (b, u) := unwire_eq.2 ⟨rfl, hb⟩
  rw [h, h2] at h1
  simp at h1
  exact ⟨h1.1.symm, h1.2.symm⟩

theorem labs_wire {ls : List Bytes} (hg : GoodL ls) (hl : (wire ls).length ≤ 255) : lab (wire ls) = some ls := lab_eq.2 ⟨rfl, hg, hl⟩

/-! ### reading on -/
theorem unw_mono : ∀ (n m : Nat) (s : Bytes) (r : List Bytes × Bytes), unw n s = some r → n ≤ m → unw m s = some r
  | 0, _, _, _, h, _ => by simp [unw] at h
  | n + 1, 0, _, _, _, h => by omega
  | n + 1, m + 1, [], _, h, _ => by simp [unw] at h
  | n + 1, m + 1, c :: r, p, h, hm => by
    unfold unw at h ⊢
    by_cases hc : c = 0
    · simpa [hc] using h
    · simp only [hc, if_false] at h ⊢
      by_cases hb : 63 < c.toNat ∨ r.length < c.toNat
      · simp [hb] at h
      · simp only [hb, if_false] at h ⊢
        rw [Option.map_eq_some_iff] at h ⊢
        obtain ⟨q, hq, rfl⟩ := h
        exact ⟨q, unw_mono n m _ _ hq (by omega), rfl⟩

/-- behind labels that were read the rest is read alike -/
theorem unwire_pre {ls : List Bytes} (hg : GoodL ls) (r : Bytes) : unwire (pre ls ++ r) = (unwire r).map fun p => (ls ++ p.1, p.2) := by
  cases h : unwire r with
  | some p =>
    obtain ⟨ms, t⟩ := p
    obtain ⟨rfl, h2⟩ := unwire_eq.1 h
    simp only [Option.map_some]
    refine unwire_eq.2 ⟨by simp [wire, pre_append], good_append.2 ⟨hg, h2⟩⟩
  | none =>
    simp only [Option.map_none]
    cases h' : unwire (pre ls ++ r) with
    | none => rfl
    | some p =>
      exfalso
      obtain ⟨ms, t⟩ := p
      obtain ⟨h1, h2⟩ := unwire_eq.1 h'
      clear h'
      induction ls generalizing ms with
      | nil =>
        have := unwire_eq.2 ⟨h1, h2⟩
        simp only [pre, List.nil_append] at this
        rw [h] at this
        cases this
      | cons l ls ih =>
        obtain ⟨⟨hl1, hl2⟩, hg'⟩ := good_cons.1 hg
        cases ms with
        | nil =>
          simp [pre, wire] at h1
          have := congrArg UInt8.toNat h1.1
          rw [ofNat_toNat hl2] at this
          simp at this
          rw [this] at hl1
          simp at hl1
        | cons m ms =>
          obtain ⟨⟨hm1, hm2⟩, hgm⟩ := good_cons.1 h2
          simp only [pre, wire, List.cons_append, List.append_assoc, List.cons.injEq] at h1
          have hlen : l.length = m.length := by
            have := congrArg UInt8.toNat h1.1
            rwa [ofNat_toNat hl2, ofNat_toNat hm2] at this
          have := List.append_inj h1.2 hlen
          exact ih hg' ms (by rw [this.2]; simp [wire]) hgm

theorem unwire_cons (c : UInt8) (r : Bytes) : unwire (c :: r) =
    if c = 0 then some ([], r) else if 63 < c.toNat ∨ r.length < c.toNat then none else (unwire (r.drop c.toNat)).map fun p => (r.take c.toNat :: p.1, p.2) := by
  by_cases hc : c = 0
  · subst hc; simp [unwire, unw]
  · by_cases hb : 63 < c.toNat ∨ r.length < c.toNat
    · simp [unwire, unw, hc, hb]
    · simp only [hc, hb, if_false]
      have hcn := toNat_pos hc
      have hlen : (r.take c.toNat).length = c.toNat := by rw [List.length_take]; omega
      have hg : GoodL [r.take c.toNat] := good_cons.2 ⟨by omega, good_nil⟩
      have h1 := unwire_pre hg (r.drop c.toNat)
      have e : pre [r.take c.toNat] ++ r.drop c.toNat = c :: r := by
        simp only [pre, hlen, List.append_nil, List.cons_append, List.take_append_drop]
        congr 1
        simp
      rw [e] at h1
      simpa using h1

theorem unwire_nil : unwire [] = none := rfl

/-! ### what 'Lead' finds -/
theorem wire_len (ls : List Bytes) : (wire ls).length = (pre ls).length + 1 := by simp [wire]

theorem lead_zero {s : Bytes} {ls : List Bytes} {t : Bytes} (hg : GoodL ls) (h : s = pre ls ++ 0 :: t) (hl : (pre ls).length + 1 ≤ 255) : lead s = some ((pre ls).length + 1) := by
  have : unwire s = some (ls, t) := unwire_eq.2 ⟨by rw [h]; simp [wire], hg⟩
  unfold lead
  rw [this]
  simp [wire_len, hl]

theorem lead_big {s : Bytes} {ls : List Bytes} {c : UInt8} {r : Bytes} (hg : GoodL ls) (h : s = pre ls ++ c :: r) (hc : c ≠ 0) (hb : 63 < c.toNat ∨ r.length < c.toNat) : lead s = none := by
  have : unwire s = none := by
    rw [h, unwire_pre hg, unwire_cons]
    simp [hc, hb]
  unfold lead
  rw [this]

theorem lead_end {s : Bytes} {ls : List Bytes} (hg : GoodL ls) (h : s = pre ls) : lead s = none := by
  have : unwire s = none := by
    have := unwire_pre hg []
    rw [List.append_nil, unwire_nil] at this
    rw [h, this]
    rfl
  unfold lead
  rw [this]

theorem lead_long {s : Bytes} {ls : List Bytes} {r : Bytes} (hg : GoodL ls) (h : s = pre ls ++ r) (hl : 255 ≤ (pre ls).length) : lead s = none := by
  unfold lead
  rw [h, unwire_pre hg]
  cases unwire r with
  | none => rfl
  | some p =>
    simp only [Option.map_some]
    have : ¬ (wire (ls ++ p.1)).length ≤ 255 := by rw [wire_len, pre_append, List.length_append]; omega
    simp [this]

theorem step_label {ls : List Bytes} {c : UInt8} {r : Bytes} (hg : GoodL ls) (hc : c ≠ 0) (h1 : c.toNat ≤ 63) (h2 : c.toNat ≤ r.length) :
    pre ls ++ c :: r = pre (ls ++ [r.take c.toNat]) ++ r.drop c.toNat ∧ GoodL (ls ++ [r.take c.toNat]) ∧ (pre (ls ++ [r.take c.toNat])).length = (pre ls).length + 1 + c.toNat := by
  have hlen : (r.take c.toNat).length = c.toNat := by rw [List.length_take]; omega
  have hcn := toNat_pos hc
  refine ⟨?_, good_append.2 ⟨hg, good_cons.2 ⟨by omega, good_nil⟩⟩, ?_⟩
  · rw [pre_append]
    have e : pre [r.take c.toNat] = c :: r.take c.toNat := by
      simp only [pre, hlen, List.append_nil]
      congr 1
      simp
    rw [e]
    simp
  · rw [pre_append, List.length_append]
    simp only [pre, List.append_nil, List.length_cons, hlen]
    omega

/-- the same, of the first k bytes of a text -/
theorem take_step {s : Bytes} {ls : List Bytes} {k : Nat} {c : UInt8} (hg : GoodL ls) (hp : pre ls = s.take k) (hk : s[k]? = some c) (hc : c ≠ 0) (h1 : c.toNat ≤ 63) (h2 : k + 1 + c.toNat ≤ s.length) :
    ∃ l, l = (s.drop (k + 1)).take c.toNat ∧ l.length = c.toNat ∧ pre (ls ++ [l]) = s.take (k + 1 + c.toNat) ∧ GoodL (ls ++ [l]) := by
  have hkl : k < s.length := (List.getElem?_eq_some_iff.1 hk).1
  have hs : s = pre ls ++ c :: s.drop (k + 1) := by
    rw [hp]
    have : s.drop k = c :: s.drop (k + 1) := by
      rw [List.drop_eq_getElem_cons hkl]
      congr 1
      have := List.getElem?_eq_getElem hkl
      rw [hk] at this
      exact (Option.some.inj this).symm
    rw [← this, List.take_append_drop]
  obtain ⟨e1, e2, e3⟩ := step_label (r := s.drop (k + 1)) hg hc h1 (by rw [List.length_drop]; omega)
  refine ⟨_, rfl, by rw [List.length_take, List.length_drop]; omega, ?_, e2⟩
  rw [← hs] at e1
  have hlen : (pre (ls ++ [(s.drop (k + 1)).take c.toNat])).length = k + 1 + c.toNat := by
    rw [e3, hp, List.length_take]; omega
  generalize pre (ls ++ [(s.drop (k + 1)).take c.toNat]) = p at *
  rw [e1, ← hlen, List.take_left]

theorem split_at {s : Bytes} {ls : List Bytes} {k : Nat} {c : UInt8} (hp : pre ls = s.take k) (hk : s[k]? = some c) : s = pre ls ++ c :: s.drop (k + 1) ∧ (pre ls).length = k := by
  have hkl : k < s.length := (List.getElem?_eq_some_iff.1 hk).1
  refine ⟨?_, by rw [hp, List.length_take]; omega⟩
  rw [hp]
  have : s.drop k = c :: s.drop (k + 1) := by
    rw [List.drop_eq_getElem_cons hkl]
    congr 1
    have := List.getElem?_eq_getElem hkl
    rw [hk] at this
    exact (Option.some.inj this).symm
  rw [← this, List.take_append_drop]

theorem lead_le {s : Bytes} {n : Nat} (h : lead s = some n) : 1 ≤ n ∧ n ≤ 255 ∧ n ≤ s.length := by
  unfold lead at h
  split at h
  · rename_i ls t hu
    split at h
    · rename_i hl
      simp at h
      obtain ⟨h1, _⟩ := unwire_eq.1 hu
      have : s.length = (wire ls).length + t.length := by rw [h1, List.length_append]
      have := wire_len ls
      omega
    · cases h
  · cases h

theorem valid_lead (s : Bytes) : valid s = (match lead s with | some n => decide (n = s.length) | none => false) := by
  unfold valid lab lead
  cases hu : unwire s with
  | none => rfl
  | some p =>
    obtain ⟨ls, t⟩ := p
    obtain ⟨h1, _⟩ := unwire_eq.1 hu
    have hlen : s.length = (wire ls).length + t.length := by rw [h1, List.length_append]
    cases t with
    | nil =>
      simp only [List.length_nil, Nat.add_zero] at hlen
      simp only [hlen]
      by_cases h : (wire ls).length ≤ 255 <;> simp [h]
    | cons x t =>
      simp only [List.length_cons] at hlen
      by_cases h : (wire ls).length ≤ 255
      · simp [h]; omega
      · simp [h]

/-! ### what the reference's Labels gives -/
def refLab (s : Bytes) : List Bytes × Bool :=
  if 255 < s.length then ([], false) else match unwire s with
  | some (ls, t) => (ls, t.isEmpty)
  | none => ([], false)

theorem refLab_long {s : Bytes} (h : 255 < s.length) : refLab s = ([], false) := by simp [refLab, h]
theorem refLab_none {s : Bytes} (h : unwire s = none) : refLab s = ([], false) := by
  unfold refLab; rw [h]; split <;> rfl
theorem refLab_some {s : Bytes} {ls : List Bytes} {t : Bytes} (hl : s.length ≤ 255) (h : unwire s = some (ls, t)) : refLab s = (ls, t.isEmpty) := by
  unfold refLab; rw [h, if_neg (by omega)]

theorem refLab_valid (s : Bytes) : (refLab s).2 = valid s := by
  unfold refLab valid lab
  by_cases h : 255 < s.length
  · have : ¬ s.length ≤ 255 := by omega
    rw [if_pos h]
    cases hu : unwire s with
    | none => rfl
    | some p => obtain ⟨ls, t⟩ := p; cases t <;> simp [this]
  · have : s.length ≤ 255 := by omega
    rw [if_neg h]
    cases hu : unwire s with
    | none => rfl
    | some p => obtain ⟨ls, t⟩ := p; cases t <;> simp [this]

theorem refLab_labs {s : Bytes} (h : valid s = true) : refLab s = (labs s, true) := by
  rcases valid_cases s with ⟨h1, _⟩ | ⟨_, h2, h3, h4⟩
  · rw [h] at h1; cases h1
  · exact refLab_some h4 (unwire_eq.2 ⟨by rw [List.append_nil]; exact h2, h3⟩)

theorem refLab_not {s : Bytes} (h : valid s = false) : (refLab s).2 = false := by rw [refLab_valid, h]

theorem unwire_zero {s : Bytes} {ls : List Bytes} {t : Bytes} (hg : GoodL ls) (h : s = pre ls ++ 0 :: t) : unwire s = some (ls, t) :=
  unwire_eq.2 ⟨by rw [h]; simp [wire], hg⟩
theorem unwire_big {s : Bytes} {ls : List Bytes} {c : UInt8} {r : Bytes} (hg : GoodL ls) (h : s = pre ls ++ c :: r) (hc : c ≠ 0) (hb : 63 < c.toNat ∨ r.length < c.toNat) : unwire s = none := by
  rw [h, unwire_pre hg, unwire_cons]
  simp [hc, hb]
theorem unwire_end {s : Bytes} {ls : List Bytes} (hg : GoodL ls) (h : s = pre ls) : unwire s = none := by
  have := unwire_pre hg []
  rw [List.append_nil, unwire_nil] at this
  rw [h, this]
  rfl

/-! ### folding -/
def low (c : UInt8) : UInt8 := if 65 ≤ c.toNat ∧ c.toNat ≤ 90 then c + 32 else c
def foldB (s : Bytes) : Bytes := s.map low
def foldN (s : Bytes) : Bytes := if valid s then foldB s else s
def sameN (a b : Bytes) : Bool := valid a && valid b && (foldB a == foldB b)

theorem foldB_length (s : Bytes) : (foldB s).length = s.length := by simp [foldB]
theorem foldN_length (s : Bytes) : (foldN s).length = s.length := by unfold foldN; split <;> simp [foldB_length]

/-! ### labels, parents, and who is under whom -/
theorem labs_valid {s : Bytes} (h : valid s = true) : s = wire (labs s) ∧ GoodL (labs s) ∧ s.length ≤ 255 := by
  rcases valid_cases s with ⟨h1, _⟩ | ⟨_, h2⟩
  · rw [h] at h1; cases h1
  · exact h2
theorem labs_not {s : Bytes} (h : valid s = false) : labs s = [] := by
  rcases valid_cases s with ⟨_, h2⟩ | ⟨h1, _⟩
  · exact h2
  · rw [h] at h1; cases h1
theorem valid_wire {ls : List Bytes} (hg : GoodL ls) (hl : (wire ls).length ≤ 255) : valid (wire ls) = true := valid_iff.2 ⟨ls, rfl, hg, hl⟩
theorem labs_of_wire {ls : List Bytes} (hg : GoodL ls) (hl : (wire ls).length ≤ 255) : labs (wire ls) = ls := by
  unfold labs; rw [labs_wire hg hl]; rfl
theorem wire_cons (l : Bytes) (ls : List Bytes) : wire (l :: ls) = UInt8.ofNat l.length :: (l ++ wire ls) := by simp [wire, pre]
theorem wire_nil : wire [] = [0] := rfl
theorem wire_ne_root {l : Bytes} {ls : List Bytes} : wire (l :: ls) ≠ [0] := by
  rw [wire_cons]
  intro h
  have := congrArg List.length h
  simp [wire_len] at this

def parentN (s : Bytes) : Bytes := wire (labs s).tail

theorem good_tail {ls : List Bytes} (h : GoodL ls) : GoodL ls.tail := fun l hl => h l (List.mem_of_mem_tail hl)
theorem wire_tail_length (ls : List Bytes) : (wire ls.tail).length ≤ (wire ls).length := by
  cases ls with
  | nil => simp
  | cons l ls => rw [wire_cons]; simp; omega
theorem valid_parent {s : Bytes} : valid (parentN s) = true := by
  unfold parentN
  cases h : valid s with
  | false => rw [labs_not h]; exact valid_wire good_nil (by simp [wire, pre])
  | true =>
    obtain ⟨h1, h2, h3⟩ := labs_valid h
    have := wire_tail_length (labs s)
    rw [← h1] at this
    exact valid_wire (good_tail h2) (by omega)
theorem labs_parent (s : Bytes) : labs (parentN s) = (labs s).tail := by
  unfold parentN
  cases h : valid s with
  | false => rw [labs_not h]; exact labs_of_wire good_nil (by simp [wire, pre])
  | true =>
    obtain ⟨h1, h2, h3⟩ := labs_valid h
    have := wire_tail_length (labs s)
    rw [← h1] at this
    exact labs_of_wire (good_tail h2) (by omega)

theorem low_small {c : UInt8} (h : c.toNat ≤ 64) : low c = c := by
  unfold low
  have : ¬ (65 ≤ c.toNat ∧ c.toNat ≤ 90) := by omega
  simp [this]
theorem foldB_append (a b : Bytes) : foldB (a ++ b) = foldB a ++ foldB b := by simp [foldB]
theorem foldB_wire {ls : List Bytes} (h : GoodL ls) : foldB (wire ls) = wire (ls.map foldB) := by
  induction ls with
  | nil => rfl
  | cons l ls ih =>
    obtain ⟨⟨_, h2⟩, h3⟩ := good_cons.1 h
    rw [List.map_cons, wire_cons, wire_cons, ← ih h3, foldB_length]
    simp only [foldB, List.map_cons, List.map_append]
    rw [low_small (by rw [ofNat_toNat h2]; omega)]
theorem good_fold {ls : List Bytes} (h : GoodL ls) : GoodL (ls.map foldB) := by
  intro l hl
  obtain ⟨m, hm, rfl⟩ := List.mem_map.1 hl
  rw [foldB_length]
  exact h m hm
theorem valid_foldB {s : Bytes} (h : valid s = true) : valid (foldB s) = true ∧ labs (foldB s) = (labs s).map foldB := by
  obtain ⟨h1, h2, h3⟩ := labs_valid h
  have hl : (wire ((labs s).map foldB)).length ≤ 255 := by rw [← foldB_wire h2, foldB_length, ← h1]; exact h3
  have e : foldB s = wire ((labs s).map foldB) := by rw [← foldB_wire h2, ← h1]
  rw [e]
  exact ⟨valid_wire (good_fold h2) hl, labs_of_wire (good_fold h2) hl⟩
theorem valid_foldN (s : Bytes) : valid (foldN s) = valid s := by
  unfold foldN
  cases h : valid s with
  | true => simp [(valid_foldB h).1]
  | false => simp [h]
theorem labs_foldN (s : Bytes) : labs (foldN s) = (labs s).map foldB := by
  unfold foldN
  cases h : valid s with
  | true => simp [(valid_foldB h).2]
  | false => simp [labs_not h]
theorem foldB_inj_wire {a b : Bytes} (ha : valid a = true) (hb : valid b = true) : foldB a = foldB b ↔ (labs a).map foldB = (labs b).map foldB := by
  obtain ⟨a1, a2, a3⟩ := labs_valid ha
  obtain ⟨b1, b2, b3⟩ := labs_valid hb
  constructor
  · intro h
    rw [← (valid_foldB ha).2, ← (valid_foldB hb).2, h]
  · intro h
    rw [a1, b1, foldB_wire a2, foldB_wire b2, h]

/-- a list of folded labels ends in another one -/
def endsIn (a b : List Bytes) : Bool := decide (b.length ≤ a.length) && (a.drop (a.length - b.length) == b)
def underN (n z : Bytes) : Bool := valid n && valid z && endsIn ((labs n).map foldB) ((labs z).map foldB)

def parents : Nat → Bytes → Bytes
  | 0, s => s
  | k + 1, s => parents k (parentN s)
theorem parents_succ (k : Nat) (s : Bytes) : parents (k + 1) s = parentN (parents k s) := by
  induction k generalizing s with
  | zero => rfl
  | succ k ih => exact ih (parentN s)
theorem parents_labs (k : Nat) {s : Bytes} (h : valid s = true) : valid (parents k s) = true ∧ labs (parents k s) = (labs s).drop k := by
  induction k generalizing s with
  | zero => exact ⟨h, rfl⟩
  | succ k ih =>
    obtain ⟨h1, h2⟩ := ih (s := parentN s) valid_parent
    exact ⟨h1, by
      show labs (parents k (parentN s)) = _
      rw [h2, labs_parent, List.drop_tail]⟩

theorem sameN_labs {a b : Bytes} : sameN a b = (valid a && valid b && ((labs a).map foldB == (labs b).map foldB)) := by
  unfold sameN
  cases ha : valid a with
  | false => rfl
  | true =>
    cases hb : valid b with
    | false => rfl
    | true =>
      simp only [Bool.true_and]
      rw [Bool.eq_iff_iff, beq_iff_eq, beq_iff_eq]
      exact foldB_inj_wire ha hb

theorem under_parents {n z : Bytes} (hn : valid n = true) (hz : valid z = true) (hk : (labs z).length ≤ (labs n).length) :
    sameN (parents ((labs n).length - (labs z).length) n) z = underN n z := by
  obtain ⟨h1, h2⟩ := parents_labs ((labs n).length - (labs z).length) hn
  rw [sameN_labs, h1, h2]
  unfold underN endsIn
  simp [hn, hz, hk, List.map_drop]
theorem under_short {n z : Bytes} (hk : (labs n).length < (labs z).length) : underN n z = false := by
  unfold underN endsIn
  have : ¬ (labs z).length ≤ (labs n).length := by omega
  simp [this]
theorem parents_length (k : Nat) (s : Bytes) : (parents k s).length ≤ max s.length 255 := by
  induction k generalizing s with
  | zero => simp [parents]; omega
  | succ k ih =>
    have := ih (parentN s)
    have h2 := (labs_valid (valid_parent (s := s))).2.2
    simp only [parents]
    omega

/-! ### orders -/
/-- Go's < of texts -/
def ltB : Bytes → Bytes → Bool
  | _, [] => false
  | [], _ :: _ => true
  | a :: x, b :: y => decide (a < b) || (a == b && ltB x y)
def cmpB (a b : Bytes) : Int := if ltB a b then -1 else if a = b then 0 else 1
def cmpL : List Bytes → List Bytes → Int
  | [], [] => 0
  | [], _ :: _ => -1
  | _ :: _, [] => 1
  | a :: x, b :: y => if cmpB a b = 0 then cmpL x y else cmpB a b

theorem ltB_irrefl (a : Bytes) : ltB a a = false := by
  induction a with
  | nil => rfl
  | cons x a ih => simp [ltB, ih]
theorem cmpB_zero {a b : Bytes} : cmpB a b = 0 ↔ a = b := by
  unfold cmpB
  constructor
  · intro h
    split at h
    · omega
    · split at h
      · assumption
      · omega
  · rintro rfl
    simp [ltB_irrefl]
theorem cmpB_neg {a b : Bytes} : cmpB a b < 0 ↔ ltB a b = true := by
  unfold cmpB
  split
  · simp [*]
  · split
    · rename_i h
      subst h
      simp [ltB_irrefl]
    · simp [*]
def lexL (x y : List Bytes) : Bool := decide (cmpL x y < 0)
theorem lexL_cons (a b : Bytes) (x y : List Bytes) : lexL (a :: x) (b :: y) = if a = b then lexL x y else ltB a b := by
  unfold lexL
  simp only [cmpL]
  by_cases h : a = b
  · subst h
    simp [cmpB_zero.2 rfl]
  · have h0 : ¬ cmpB a b = 0 := fun e => h (cmpB_zero.1 e)
    simp only [h0, h, if_false]
    rw [Bool.eq_iff_iff, decide_eq_true_iff]
    exact cmpB_neg
theorem lexL_nil_right (x : List Bytes) : lexL x [] = false := by cases x <;> simp [lexL, cmpL]
theorem lexL_nil_cons (b : Bytes) (y : List Bytes) : lexL [] (b :: y) = true := by simp [lexL, cmpL]

def orderF (ls : List Bytes) : List Bytes := (ls.map foldB).reverse
def lessN (a b : Bytes) : Bool := valid a && valid b && lexL (orderF (labs a)) (orderF (labs b))

theorem cmpL_drop {x y : List Bytes} {k : Nat} (h : x.take k = y.take k) (hx : k ≤ x.length) (hy : k ≤ y.length) : cmpL x y = cmpL (x.drop k) (y.drop k) := by
  induction k generalizing x y with
  | zero => rfl
  | succ k ih =>
    cases x with
    | nil => simp at hx
    | cons a x =>
      cases y with
      | nil => simp at hy
      | cons b y =>
        simp only [List.take_succ_cons, List.cons.injEq] at h
        simp only [List.length_cons] at hx hy
        simp only [List.drop_succ_cons, cmpL, cmpB_zero.2 h.1, if_true]
        exact ih h.2 (by omega) (by omega)

/-! ### what two names have in common -/
def commonL : List Bytes → List Bytes → List Bytes
  | [], _ => []
  | l :: t, b => if endsIn b ((l :: t).map foldB) then l :: t else commonL t b
def commonN (a b : Bytes) : Bytes := if valid a && valid b then wire (commonL (labs a) ((labs b).map foldB)) else [0]

theorem endsIn_nil (a : List Bytes) : endsIn a [] = true := by simp [endsIn]
end Go.Nm

/- The contracts of name.Lead, Valid, fold, Fold, Same: what each returns, at every text that memory bears. -/
namespace Go.Proofs.YtkpcmnckdappnaaGreat
open Go.RowKit

def leadV (s : ByteArray) : Value := match Nm.lead (bl s) with
  | some n => .tuple #[.int .i64 (n : Int), .bool true]
  | none => .tuple #[.int .i64 0, .bool false]

theorem getq {s : ByteArray} {k : Nat} (h : k < s.size) : (bl s)[k]? = some s[k] := by
  rw [get_bl s k h]
  exact List.getElem?_eq_getElem (by rw [← size_bl]; exact h)

theorem byte_ne {c : UInt8} (h : ¬ ((c.toNat : Int) = 0)) : c ≠ 0 := by
  intro h0
  subst h0
  simp at h

set_option maxRecDepth 100000 in
set_option maxHeartbeats 800000 in
theorem lead_any (s : ByteArray) (w : World) (hs : s.size ≤ maxLen) :
    Calls Tryz.prog 54 #[.string s] w fun e w' => e = .returned (leadV s) ∧ w = w' := by
  unfold maxLen at hs
  go_enter Tryz.func54, Tryz.ntmps54
  go_wp2
  go_loop [4] (fun at_ => ∃ k : Nat, at_ = .int .i64 k ∧ k ≤ 400 ∧ ((k ≤ s.size ∧ ∃ ls, Nm.GoodL ls ∧ Nm.pre ls = (bl s).take k) ∨ (s.size < k ∧ Nm.lead (bl s) = none))) (fun at_ => 1000 - (intOf at_).toNat)
  case atStart => exact ⟨0, rfl, by omega, .inl ⟨by omega, [], Nm.good_nil, by simp [Nm.pre]⟩⟩
  case round =>
    obtain ⟨k, rfl, hk0, hrel⟩ := hrel
    have HR := Go.Lib.hid hrel
    clear hrel
    by_cases hk : k < s.size ∧ k < 255
    · obtain ⟨hk1, hk2⟩ := hk
      have hq := getq hk1
      generalize hc : s[k] = c at hq
      have hq := Go.Lib.hid hq
      have hb := c.toNat_lt
      by_cases h0 : c.toNat = 0
      · have hz : ((c.toNat : Int) == 0) = true := by rw [h0]; rfl
        have hlead : Hid (leadV s = .tuple #[.int .i64 ((k : Int) + 1), .bool true]) := Go.Lib.hid (by
          rcases HR.out with ⟨_, ls, hg, hp⟩ | ⟨h, _⟩
          · have hc0 : c = 0 := by rw [← UInt8.toNat_inj]; simpa using h0
            obtain ⟨e1, e2⟩ := Nm.split_at hp hq.out
            rw [hc0] at e1
            have := Nm.lead_zero hg e1 (by omega)
            unfold leadV
            rw [this, e2]
            simp
          · omega)
        clear h0
        go_wp2
        go_ret2
        exact ⟨congrArg Ending.returned hlead.out.symm, rfl⟩
      · have hz : ((c.toNat : Int) == 0) = false := by rw [beq_eq_false_iff_ne]; omega
        have hne : c ≠ 0 := fun h => by rw [h] at h0; simp at h0
        have HNE := Go.Lib.hid hne
        clear hne h0
        by_cases hbig : 63 < c.toNat
        · have hlead : Hid (leadV s = .tuple #[.int .i64 0, .bool false]) := Go.Lib.hid (by
            rcases HR.out with ⟨_, ls, hg, hp⟩ | ⟨h, _⟩
            · obtain ⟨e1, e2⟩ := Nm.split_at hp hq.out
              have := Nm.lead_big hg e1 HNE.out (.inl hbig)
              unfold leadV
              rw [this]
            · omega)
          have hbi : (63 : Int) < (c.toNat : Int) := by omega
          go_wp2
          go_ret2
          exact ⟨congrArg Ending.returned hlead.out.symm, rfl⟩
        · have hbi : (c.toNat : Int) ≤ 63 := by omega
          have hnext : Hid ((k + 1 + c.toNat ≤ s.size ∧ ∃ ls, Nm.GoodL ls ∧ Nm.pre ls = (bl s).take (k + 1 + c.toNat)) ∨ (s.size < k + 1 + c.toNat ∧ Nm.lead (bl s) = none)) := Go.Lib.hid (by
            rcases HR.out with ⟨_, ls, hg, hp⟩ | ⟨h, _⟩
            · by_cases hfit : k + 1 + c.toNat ≤ s.size
              · obtain ⟨l, _, _, e1, e2⟩ := Nm.take_step hg hp hq.out HNE.out (by omega) (by rw [← size_bl]; exact hfit)
                exact .inl ⟨hfit, _, e2, e1⟩
              · obtain ⟨e1, e2⟩ := Nm.split_at hp hq.out
                refine .inr ⟨by omega, Nm.lead_big hg e1 HNE.out (.inr ?_)⟩
                rw [List.length_drop, ← size_bl]
                omega
            · omega)
          go_wp2
          go_round
          case rel => exact ⟨k + 1 + c.toNat, by go_num, by omega, hnext.out⟩
          case measure => simp [intOf]; omega
    · have hlead : Hid (leadV s = .tuple #[.int .i64 0, .bool false]) := Go.Lib.hid (by
        have : Nm.lead (bl s) = none := by
          rcases HR.out with ⟨h, ls, hg, hp⟩ | ⟨_, h⟩
          · by_cases he : k = s.size
            · exact Nm.lead_end hg (by rw [hp, he, size_bl, List.take_length])
            · have h255 : 255 ≤ k := by omega
              refine Nm.lead_long (r := (bl s).drop k) hg (by rw [hp, List.take_append_drop]) ?_
              rw [hp, List.length_take, ← size_bl]
              omega
          · exact h
        unfold leadV
        rw [this])
      have hor : s.size ≤ k ∨ (k < s.size ∧ 255 ≤ k) := by omega
      clear hk
      rcases hor with h | ⟨h1, h2⟩
      all_goals
        go_wp2
        go_ret2
        exact ⟨congrArg Ending.returned hlead.out.symm, rfl⟩

theorem valid_any (s : ByteArray) (w : World) (hs : s.size ≤ maxLen) :
    Calls Tryz.prog 26 #[.string s] w fun e w' => e = .returned (.bool (Nm.valid (bl s))) ∧ w = w' := by
  have hv := Nm.valid_lead (bl s)
  rw [← size_bl] at hv
  have hl := lead_any s w hs
  unfold leadV at hl
  cases hlead : Nm.lead (bl s) with
  | none =>
    rw [hlead] at hv hl
    simp only at hv hl
    have HV := Go.Lib.hid hv
    have HL := Go.Lib.hid hl
    clear hv hl hlead
    unfold maxLen at hs
    go_enter Tryz.func26, Tryz.ntmps26
    go_wp2_with (go_at_call 54; refine HL.out.mono ?_; rintro e w' ⟨rfl, rfl⟩)
    go_ret
    exact ⟨ret_bool HV.out.symm, rfl⟩
  | some n =>
    rw [hlead] at hv hl
    simp only at hv hl
    have HV := Go.Lib.hid hv
    have HL := Go.Lib.hid hl
    clear hv hl hlead
    unfold maxLen at hs
    go_enter Tryz.func26, Tryz.ntmps26
    go_wp2_with (go_at_call 54; refine HL.out.mono ?_; rintro e w' ⟨rfl, rfl⟩)
    go_ret
    refine ⟨ret_bool ?_, rfl⟩
    rw [HV.out, Bool.eq_iff_iff]
    simp
    omega

def encB (l : List UInt8) : List Value := l.map fun b => .int .u8 b.toNat

theorem low_up {c : UInt8} (h1 : 65 ≤ (c.toNat : Int)) (h2 : (c.toNat : Int) ≤ 90) : ((Nm.low c).toNat : Int) = (c.toNat : Int) + 97 - 65 := by
  unfold Nm.low
  have h : 65 ≤ c.toNat ∧ c.toNat ≤ 90 := by omega
  simp only [h, and_self, if_true, UInt8.toNat_add]
  have : (32 : UInt8).toNat = 32 := rfl
  rw [this]
  omega
theorem low_no {c : UInt8} (h : ¬ (65 ≤ (c.toNat : Int) ∧ (c.toNat : Int) ≤ 90)) : Nm.low c = c := by
  unfold Nm.low
  have h : ¬ (65 ≤ c.toNat ∧ c.toNat ≤ 90) := by omega
  simp [h]

/-- what stands in the row when k bytes are folded -/
def half (l : List UInt8) (k : Nat) : List UInt8 := (l.take k).map Nm.low ++ l.drop k

theorem half_length (l : List UInt8) (k : Nat) : (half l k).length = l.length := by
  unfold half
  rw [List.length_append, List.length_map, List.length_take, List.length_drop]; omega
theorem half_get {l : List UInt8} {k : Nat} (h : k < l.length) : (half l k)[k]? = some l[k] := by
  unfold half
  rw [List.getElem?_append_right (by rw [List.length_map, List.length_take]; omega), List.length_map, List.length_take, List.getElem?_drop]
  rw [show k + (k - min k l.length) = k from by omega]
  exact List.getElem?_eq_getElem h
theorem half_set {l : List UInt8} {k : Nat} (h : k < l.length) : (half l k).set k (Nm.low l[k]) = half l (k + 1) := by
  unfold half
  rw [List.set_append_right _ _ (by rw [List.length_map, List.length_take]; omega), List.length_map, List.length_take, show k - min k l.length = 0 from by omega,
    List.take_succ_eq_append_getElem h, List.map_append, List.append_assoc]
  have e := List.drop_eq_getElem_cons h
  rw [e]
  rfl
theorem half_same {l : List UInt8} {k : Nat} (h : k < l.length) (hl : Nm.low l[k] = l[k]) : half l (k + 1) = half l k := by
  rw [← half_set h, hl]
  refine List.ext_getElem? fun i => ?_
  · by_cases hi : k = i
    · subst hi; rw [List.getElem?_set_self (by rw [half_length]; exact h), half_get h]
    · rw [List.getElem?_set_ne hi]
theorem half_end (l : List UInt8) : half l l.length = Nm.foldB l := by simp [half, Nm.foldB]

set_option maxRecDepth 100000 in
set_option maxHeartbeats 800000 in
theorem fold_any (s : ByteArray) (w : World) (hs : s.size ≤ maxLen) :
    Calls Tryz.prog 73 #[.string s] w fun e w' => e = .returned (.string (mk (Nm.foldB (bl s)))) ∧ Below w.heap.size w w' := by
  obtain ⟨cap, w1, hrun, hcap, hcm, hrow, hb1, hsz⟩ := run_conv_bytes s hs w
  have hlen := size_bl s
  unfold maxLen at hs
  have HR := Go.Lib.hid hrow
  have HB := Go.Lib.hid hb1
  have HS := Go.Lib.hid hsz
  have HL := Go.Lib.hid hlen
  clear hrow hb1 hsz hlen
  generalize hg : w.heap.size = g at *
  have HG := Go.Lib.hid hg
  clear hg
  go_enter Tryz.func73, Tryz.ntmps73
  go_wp2
  go_loopw [10] (fun i wr => ∃ k : Nat, i = .int .i64 k ∧ k ≤ s.size ∧ Row wr g (encB (half (bl s) k)) ∧ Below g w wr) (fun i _ => s.size - (intOf i).toNat)
  case atStart => exact ⟨0, rfl, by omega, by simpa [half, encB] using HR.out, HB.out⟩
  case round =>
    obtain ⟨k, rfl, hk, hrow, hb⟩ := hrel
    by_cases hlt : k < s.size
    · have hkl : k < (bl s).length := by rw [← HL.out]; exact hlt
      have hcell : wr.cell? ⟨g, k, none⟩ = some (.int .u8 ((bl s)[k]'hkl).toNat) := by
        rw [hrow.cell (by simp [encB, half_length]; exact hkl)]
        simp [encB, half_get hkl]
      have hfree : wr.frozen? ⟨g, k, none⟩ = false := hrow.free (by simp [encB, half_length]; exact hkl)
      have hset : Row (wr.setCell ⟨g, k, none⟩ (.int .u8 (Nm.low ((bl s)[k]'hkl)).toNat)) g (encB (half (bl s) (k + 1))) := by
        have := hrow.set k (.int .u8 (Nm.low ((bl s)[k]'hkl)).toNat)
        rw [← half_set hkl]
        unfold encB at this ⊢
        rwa [List.map_set]
      have hsame : Nm.low ((bl s)[k]'hkl) = (bl s)[k]'hkl → half (bl s) (k + 1) = half (bl s) k := half_same hkl
      have HSET := Go.Lib.hid hset
      have HSAME := Go.Lib.hid hsame
      have HROW := Go.Lib.hid hrow
      have HBW := Go.Lib.hid hb
      clear hset hsame hrow hb
      generalize (bl s)[k]'hkl = c at *
      have hcb := c.toNat_lt
      by_cases hup : 65 ≤ (c.toNat : Int) ∧ (c.toNat : Int) ≤ 90
      · obtain ⟨h1, h2⟩ := hup
        have hlow := low_up h1 h2
        have HLOW := Go.Lib.hid hlow
        clear hlow
        go_wp2
        go_roundw
        case rel => exact ⟨k + 1, by go_num, by omega, by rw [← HLOW.out]; exact HSET.out, HBW.out.setCell (p := ⟨g, k, none⟩) (Nat.le_refl _) _⟩
        case measure => simp [intOf]; omega
      · have hlow := Go.Lib.hid (HSAME.out (low_no hup))
        have hor : (c.toNat : Int) < 65 ∨ (65 ≤ (c.toNat : Int) ∧ 90 < (c.toNat : Int)) := by omega
        clear hup
        rcases hor with h | ⟨h1, h2⟩
        all_goals
          go_wp2
          go_roundw
          case rel => exact ⟨k + 1, by go_num, by omega, by rw [hlow.out]; exact HROW.out, HBW.out⟩
          case measure => simp [intOf]; omega
    · have hke : k = s.size := by omega
      have hby : Byts wr (.slice (some ⟨g, 0, none⟩) s.size cap) (Nm.foldB (bl s)) := by
        have h1 := hrow.slc (n := s.size) (by simp [encB, half_length, HL.out]) hcap hcm
        rw [hke, HL.out, half_end] at h1
        rw [HL.out]
        unfold Byts
        rw [Nm.foldB_length]
        exact h1
      have hcv := run_conv_string hby
      clear hke hby
      go_wp2
      go_ret
      exact ⟨rfl, hb⟩

set_option maxRecDepth 100000 in
theorem Fold_any (s : ByteArray) (w : World) (hs : s.size ≤ maxLen) :
    Calls Tryz.prog 40 #[.string s] w fun e w' => e = .returned (.string (mk (Nm.foldN (bl s)))) ∧ Below w.heap.size w w' := by
  have hv := valid_any s w hs
  have hf := fold_any s w hs
  cases hc : Nm.valid (bl s) with
  | true =>
    rw [hc] at hv
    have hfin : Hid (Nm.foldN (bl s) = Nm.foldB (bl s)) := Go.Lib.hid (by simp [Nm.foldN, hc])
    have HV := Go.Lib.hid hv
    have HF := Go.Lib.hid hf
    clear hv hf hc hs
    go_enter Tryz.func40, Tryz.ntmps40
    go_wp2_with (first | (go_at_call 26; refine HV.out.mono ?_; rintro e w' ⟨rfl, rfl⟩) | (go_at_call 73; refine HF.out.mono ?_; rintro e w' ⟨rfl, hb⟩))
    go_ret
    exact ⟨ret_str (by rw [hfin.out]), hb⟩
  | false =>
    rw [hc] at hv
    have hfin : Hid (Nm.foldN (bl s) = bl s) := Go.Lib.hid (by simp [Nm.foldN, hc])
    have HV := Go.Lib.hid hv
    clear hv hf hc hs
    go_enter Tryz.func40, Tryz.ntmps40
    go_wp2_with (go_at_call 26; refine HV.out.mono ?_; rintro e w' ⟨rfl, rfl⟩)
    go_ret
    exact ⟨ret_str (by rw [hfin.out, mk_bl]), Below.refl _ _⟩

theorem eqs (a b : List UInt8) : ((mk a).toList == (mk b).toList) = (a == b) := by rw [toList_bl, toList_bl, bl_mk, bl_mk]

set_option maxRecDepth 100000 in
theorem Same_any (s t : ByteArray) (w : World) (hs : s.size ≤ maxLen) (ht : t.size ≤ maxLen) :
    Calls Tryz.prog 57 #[.string s, .string t] w fun e w' => e = .returned (.bool (Nm.sameN (bl s) (bl t))) ∧ Below w.heap.size w w' := by
  have hv := valid_any s w hs
  have hu := valid_any t w ht
  cases hc : Nm.valid (bl s) with
  | false =>
    rw [hc] at hv
    have hfin : Hid (Nm.sameN (bl s) (bl t) = false) := Go.Lib.hid (by simp [Nm.sameN, hc])
    have HV := Go.Lib.hid hv
    clear hv hu hc hs ht
    go_enter Tryz.func57, Tryz.ntmps57
    go_wp2_with (go_at_call 26; refine HV.out.mono ?_; rintro e w' ⟨rfl, rfl⟩)
    go_ret
    exact ⟨ret_bool hfin.out.symm, Below.refl _ _⟩
  | true =>
    cases hd : Nm.valid (bl t) with
    | false =>
      rw [hc] at hv
      rw [hd] at hu
      have hfin : Hid (Nm.sameN (bl s) (bl t) = false) := Go.Lib.hid (by simp [Nm.sameN, hd])
      have HV := Go.Lib.hid hv
      have HU := Go.Lib.hid hu
      clear hv hu hc hd hs ht
      go_enter Tryz.func57, Tryz.ntmps57
      go_wp2_with fail
      refine HV.out.mono ?_; rintro e w' ⟨rfl, rfl⟩
      go_wp2_with fail
      refine HU.out.mono ?_; rintro e w' ⟨rfl, rfl⟩
      go_wp2_with fail
      go_ret
      exact ⟨ret_bool hfin.out.symm, Below.refl _ _⟩
    | true =>
      rw [hc] at hv
      rw [hd] at hu
      have hfin : Hid (Nm.sameN (bl s) (bl t) = (Nm.foldB (bl s) == Nm.foldB (bl t))) := Go.Lib.hid (by simp [Nm.sameN, hc, hd])
      have HV := Go.Lib.hid hv
      have HU := Go.Lib.hid hu
      clear hv hu hc hd
      go_enter Tryz.func57, Tryz.ntmps57
      go_wp2_with fail
      refine HV.out.mono ?_; rintro e w' ⟨rfl, rfl⟩
      go_wp2_with fail
      refine HU.out.mono ?_; rintro e w' ⟨rfl, rfl⟩
      go_wp2_with fail
      refine (fold_any s _ hs).mono ?_; rintro e w1 ⟨rfl, hb1⟩
      go_wp2_with fail
      refine (fold_any t _ ht).mono ?_; rintro e w2 ⟨rfl, hb2⟩
      go_wp2_with fail
      go_ret
      exact ⟨ret_bool (by rw [hfin.out, eqs]), hb1.trans (hb2.mono hb1.size)⟩
end Go.Proofs.YtkpcmnckdappnaaGreat

/- The contracts of the reference's Labels, Valid, Fold, Same: what each returns, at every text that memory bears. -/
namespace Go.Proofs.YtkpcmnckdappnaaGreat
open Go.RowKit

theorem infoS : (Tryz.prog.info? 9).map (fun i => (i.zero, i.size, i.bytes)) = some (some (.string ⟨#[]⟩), 1, 16) := by kernel_rfl
theorem eiS : EI Tryz.prog 56 9 1 16 := ei_of Tryz.underlying56 infoS rfl (by decide)

def encS (ls : List (List UInt8)) : List Value := ls.map fun l => .string (mk l)
theorem encS_snoc (ls : List (List UInt8)) (l : List UInt8) : encS (ls ++ [l]) = encS ls ++ [.string (mk l)] := by simp [encS]
theorem extract_mk (s : ByteArray) (a b : Nat) : s.extract a b = mk (((bl s).drop a).take (b - a)) := by
  apply bl_inj
  rw [bl_mk, bl_extract]

/-- it returns a list of texts, in new memory -/
def RetStrs (w : World) (ls : List (List UInt8)) (e : Ending) (w' : World) : Prop := ∃ v, e = .returned v ∧ Strs w' v ls ∧ Below w.heap.size w w'
def RetStrsB (w : World) (p : List (List UInt8) × Bool) (e : Ending) (w' : World) : Prop := ∃ v, e = .returned (.tuple #[v, .bool p.2]) ∧ Strs w' v p.1 ∧ Below w.heap.size w w'

theorem strs_owned {w : World} {g e : Nat} {v : Value} {ls : List (List UInt8)} (h : w.ownsRow g e 1 v ls.length (encS ls)) : Strs w v ls := SlC.of_owns h

set_option maxRecDepth 100000 in
set_option maxHeartbeats 1000000 in
theorem refLabels_any (s : ByteArray) (w : World) :
    Calls Tryz.prog 44 #[.string s] w (RetStrsB w (Nm.refLab (bl s))) := by
  have hsz := size_bl s
  by_cases hlong : 255 < s.size
  · have hfin := Go.Lib.hid (Nm.refLab_long (s := bl s) (by omega))
    clear hsz
    go_enter Tryz.func44, Tryz.ntmps44
    go_wp2
    go_ret2
    exact ⟨_, by rw [hfin.out]; rfl, by rw [hfin.out]; exact SlC.nil _ _, Below.refl _ _⟩
  have hs : s.size ≤ 255 := by omega
  have HSZ := Go.Lib.hid hsz
  clear hsz hlong
  generalize hg : w.heap.size = g at *
  have HG := Go.Lib.hid hg
  clear hg
  go_enter Tryz.func44, Tryz.ntmps44
  go_wp2
  go_loopw [4, 5] (fun v at_ wr => ∃ (k : Nat) (ls : List (List UInt8)), at_ = .int .i64 k ∧ k ≤ s.size ∧ Nm.GoodL ls ∧ Nm.pre ls = (bl s).take k ∧ ls.length ≤ k ∧ wr.ownsRow g 9 1 v ls.length (encS ls) ∧ Below g w wr)
    (fun _ at_ _ => s.size - (intOf at_).toNat)
  case atStart => exact ⟨0, [], rfl, by omega, Nm.good_nil, by simp [Nm.pre], by simp, World.ownsRow_nil _ _ _ _, Below.refl _ _⟩
  case round =>
    obtain ⟨k, ls, rfl, hk, hgl, hp, hll, hown, hb⟩ := hrel
    have HP := Go.Lib.hid hp
    have HO := Go.Lib.hid hown
    have HB := Go.Lib.hid hb
    have HGL := Go.Lib.hid hgl
    have hgw : g ≤ wr.heap.size := by have := HB.out.size; rw [HG.out] at this; exact this
    clear hp hown hb hgl
    by_cases hlt : k < s.size
    · have hq := getq hlt
      generalize hc : s[k] = c at hq
      have hq := Go.Lib.hid hq
      have hcb := c.toNat_lt
      by_cases h0 : c.toNat = 0
      · have hz : ((c.toNat : Int) == 0) = true := by rw [h0]; rfl
        have hc0 : c = 0 := by rw [← UInt8.toNat_inj]; simpa using h0
        have hsp := Nm.split_at HP.out hq.out
        rw [hc0] at hsp
        have hfin : Hid (Nm.refLab (bl s) = (ls, (((bl s).drop (k + 1)).isEmpty))) := Go.Lib.hid (Nm.refLab_some (by rw [← HSZ.out]; exact hs) (Nm.unwire_zero HGL.out hsp.1))
        have hbool : Hid (((bl s).drop (k + 1)).isEmpty = ((k : Int) == (s.size : Int) - 1)) := Go.Lib.hid (by
          rw [Bool.eq_iff_iff, List.isEmpty_iff, List.drop_eq_nil_iff, ← HSZ.out, beq_iff_eq]
          omega)
        clear h0 hsp
        rw [hc0] at hz
        go_wp2
        go_ret2
        exact ⟨_, by rw [hfin.out]; exact congrArg (fun b => Ending.returned (.tuple #[_, .bool b])) hbool.out.symm, by rw [hfin.out]; exact strs_owned HO.out, by rw [HG.out]; exact HB.out⟩
      · have hz : ((c.toNat : Int) == 0) = false := by rw [beq_eq_false_iff_ne]; omega
        have hne : c ≠ 0 := fun h => by rw [h] at h0; simp at h0
        have HNE := Go.Lib.hid hne
        clear hne h0
        by_cases hbad : 63 < (c.toNat : Int) ∨ (s.size : Int) - k - 1 < (c.toNat : Int)
        · have hfin : Hid (Nm.refLab (bl s) = ([], false)) := Go.Lib.hid (by
            refine Nm.refLab_none (Nm.unwire_big HGL.out (Nm.split_at HP.out hq.out).1 HNE.out ?_)
            rw [List.length_drop, ← HSZ.out]
            omega)
          have hor : 63 < (c.toNat : Int) ∨ ((c.toNat : Int) ≤ 63 ∧ (s.size : Int) - k - 1 < (c.toNat : Int)) := by omega
          clear hbad
          rcases hor with h | ⟨h1, h2⟩
          all_goals
            go_wp2
            go_ret2
            exact ⟨_, by rw [hfin.out]; rfl, by rw [hfin.out]; exact SlC.nil _ _, by rw [HG.out]; exact HB.out⟩
        · have h63 : (c.toNat : Int) ≤ 63 := by omega
          have hfit : k + 1 + c.toNat ≤ s.size := by omega
          clear hbad
          obtain ⟨l, hl1, hl2, hl3, hl4⟩ := Nm.take_step HGL.out HP.out hq.out HNE.out (by omega) (by rw [← HSZ.out]; exact hfit)
          have hex : Hid (s.extract (k + 1) (k + 1 + c.toNat) = mk l) := Go.Lib.hid (by rw [extract_mk, hl1]; congr 2; omega)
          have H3 := Go.Lib.hid hl3
          have H4 := Go.Lib.hid hl4
          have H1 : 1 ≤ c.toNat := Nm.toNat_pos HNE.out
          clear hl1 hl2 hl3 hl4
          go_wp2_with (at_builtin; refine wpList_app eiS (.tmp 37) (.tmp 46) rfl rfl g rfl rfl (HO.out.alloc _) (slc_new _ 1 1 9 [.string (s.extract (k + 1) (k + 1 + c.toNat))] rfl (by decide)) ?h1 ?h2 ?h3 ?h4 ?h5; rotate_right; intro v1 w1 hown1 hg1)
          case h1 => intro u hu; simp at hu; subst hu; rfl
          case h2 => unfold maxLen; omega
          case h3 => omega
          case h4 => simp; omega
          go_roundw
          case rel => exact ⟨k + 1 + c.toNat, ls ++ [l], by go_num, hfit, H4.out, H3.out, by simp; omega, by rw [List.length_append, encS_snoc, ← hex.out]; exact hown1, below_app (HB.out.alloc hgw _) (HO.out.alloc _) hg1 (Nat.le_refl _) (by simp; omega)⟩
          case measure => simp [intOf]; omega
    · have hke : k = s.size := by omega
      have hfin : Hid (Nm.refLab (bl s) = ([], false)) := Go.Lib.hid (by
        refine Nm.refLab_none (Nm.unwire_end HGL.out ?_)
        rw [HP.out, hke, HSZ.out, List.take_length])
      clear hke
      go_wp2
      go_ret2
      exact ⟨_, by rw [hfin.out]; rfl, by rw [hfin.out]; exact SlC.nil _ _, by rw [HG.out]; exact HB.out⟩
set_option maxRecDepth 100000 in
theorem refValid_any (s : ByteArray) (w : World) :
    Calls Tryz.prog 45 #[.string s] w fun e w' => e = .returned (.bool (Nm.valid (bl s))) ∧ Below w.heap.size w w' := by
  have hl := refLabels_any s w
  have hfin := Go.Lib.hid (Nm.refLab_valid (bl s))
  have HL := Go.Lib.hid hl
  clear hl
  go_enter Tryz.func45, Tryz.ntmps45
  go_wp2_with (go_at_call 44; refine HL.out.mono ?_; rintro e w' ⟨v, rfl, _, hb⟩)
  go_ret
  exact ⟨ret_bool hfin.out, hb⟩

theorem low_ref {c : UInt8} (h1 : 65 ≤ (c.toNat : Int)) (h2 : (c.toNat : Int) ≤ 90) : ((Nm.low c).toNat : Int) = (c.toNat : Int) + 32 := by
  rw [low_up h1 h2]; omega

set_option maxRecDepth 100000 in
set_option maxHeartbeats 800000 in
theorem refFold_any (s : ByteArray) (w : World) (hs : s.size ≤ maxLen) :
    Calls Tryz.prog 17 #[.string s] w fun e w' => e = .returned (.string (mk (Nm.foldN (bl s)))) ∧ Below w.heap.size w w' := by
  have hv := refValid_any s w
  cases hc : Nm.valid (bl s) with
  | false =>
    rw [hc] at hv
    have hfin : Hid (Nm.foldN (bl s) = bl s) := Go.Lib.hid (by simp [Nm.foldN, hc])
    have HV := Go.Lib.hid hv
    clear hv hc hs
    go_enter Tryz.func17, Tryz.ntmps17
    go_wp2_with (go_at_call 45; refine HV.out.mono ?_; rintro e w' ⟨rfl, hb⟩)
    go_ret
    exact ⟨ret_str (by rw [hfin.out, mk_bl]), hb⟩
  | true =>
    rw [hc] at hv
    have hfin : Hid (Nm.foldN (bl s) = Nm.foldB (bl s)) := Go.Lib.hid (by simp [Nm.foldN, hc])
    have HV := Go.Lib.hid hv
    clear hv hc
    have hlen := size_bl s
    go_enter Tryz.func17, Tryz.ntmps17
    go_wp2_with fail
    refine HV.out.mono ?_
    rintro e w0 ⟨rfl, hb0⟩
    obtain ⟨cap, w1, hrun, hcap, hcm, hrow, hb1, hsz⟩ := run_conv_bytes s hs w0
    unfold maxLen at hs
    have HR := Go.Lib.hid hrow
    have HB := Go.Lib.hid (hb0.trans (hb1.mono hb0.size))
    have hsg := hb0.size
    have HL := Go.Lib.hid hlen
    clear hrow hb0 hb1 hsz hlen
    generalize hg : w0.heap.size = g at *
    have HG := Go.Lib.hid hg
    clear hg
    go_wp2_with fail
    go_loopw [4] (fun i wr => ∃ k : Nat, i = .int .i64 k ∧ k ≤ s.size ∧ Row wr g (encB (half (bl s) k)) ∧ Below w.heap.size w wr) (fun i _ => s.size - (intOf i).toNat)
    case atStart => exact ⟨0, rfl, by omega, by simpa [half, encB] using HR.out, HB.out⟩
    case round =>
      obtain ⟨k, rfl, hk, hrow, hb⟩ := hrel
      by_cases hlt : k < s.size
      · have hkl : k < (bl s).length := by rw [← HL.out]; exact hlt
        have hcell : wr.cell? ⟨g, k, none⟩ = some (.int .u8 ((bl s)[k]'hkl).toNat) := by
          rw [hrow.cell (by simp [encB, half_length]; exact hkl)]
          simp [encB, half_get hkl]
        have hfree : wr.frozen? ⟨g, k, none⟩ = false := hrow.free (by simp [encB, half_length]; exact hkl)
        have hset : Row (wr.setCell ⟨g, k, none⟩ (.int .u8 (Nm.low ((bl s)[k]'hkl)).toNat)) g (encB (half (bl s) (k + 1))) := by
          have := hrow.set k (.int .u8 (Nm.low ((bl s)[k]'hkl)).toNat)
          rw [← half_set hkl]
          unfold encB at this ⊢
          rwa [List.map_set]
        have hsame : Nm.low ((bl s)[k]'hkl) = (bl s)[k]'hkl → half (bl s) (k + 1) = half (bl s) k := half_same hkl
        have HSET := Go.Lib.hid hset
        have HSAME := Go.Lib.hid hsame
        have HROW := Go.Lib.hid hrow
        have HBW := Go.Lib.hid hb
        clear hset hsame hrow hb
        generalize (bl s)[k]'hkl = c at *
        have hcb := c.toNat_lt
        by_cases hup : 65 ≤ (c.toNat : Int) ∧ (c.toNat : Int) ≤ 90
        · obtain ⟨h1, h2⟩ := hup
          have hlow := low_ref h1 h2
          have HLOW := Go.Lib.hid hlow
          clear hlow
          go_wp2
          go_roundw
          case rel => exact ⟨k + 1, by go_num, by omega, by rw [← HLOW.out]; exact HSET.out, HBW.out.setCell (p := ⟨g, k, none⟩) hsg _⟩
          case measure => simp [intOf]; omega
        · have hlow := Go.Lib.hid (HSAME.out (low_no hup))
          have hor : (c.toNat : Int) < 65 ∨ (65 ≤ (c.toNat : Int) ∧ 90 < (c.toNat : Int)) := by omega
          clear hup
          rcases hor with h | ⟨h1, h2⟩
          all_goals
            go_wp2
            go_roundw
            case rel => exact ⟨k + 1, by go_num, by omega, by rw [hlow.out]; exact HROW.out, HBW.out⟩
            case measure => simp [intOf]; omega
      · have hke : k = s.size := by omega
        have hby : Byts wr (.slice (some ⟨g, 0, none⟩) s.size cap) (Nm.foldB (bl s)) := by
          have h1 := hrow.slc (n := s.size) (by simp [encB, half_length, HL.out]) hcap hcm
          rw [hke, HL.out, half_end] at h1
          rw [HL.out]
          unfold Byts
          rw [Nm.foldB_length]
          exact h1
        have hcv := run_conv_string hby
        clear hke hby
        go_wp2
        go_ret
        exact ⟨ret_str (by rw [hfin.out]), hb⟩

theorem eqs' (a b : List UInt8) : ((mk a).toList == (mk b).toList) = (a == b) := by rw [toList_bl, toList_bl, bl_mk, bl_mk]

set_option maxRecDepth 100000 in
theorem refSame_any (s t : ByteArray) (w : World) (hs : s.size ≤ maxLen) (ht : t.size ≤ maxLen) :
    Calls Tryz.prog 16 #[.string s, .string t] w fun e w' => e = .returned (.bool (Nm.sameN (bl s) (bl t))) ∧ Below w.heap.size w w' := by
  have hv := refValid_any s w
  cases hc : Nm.valid (bl s) with
  | false =>
    rw [hc] at hv
    have hfin : Hid (Nm.sameN (bl s) (bl t) = false) := Go.Lib.hid (by simp [Nm.sameN, hc])
    have HV := Go.Lib.hid hv
    clear hv hc hs ht
    go_enter Tryz.func16, Tryz.ntmps16
    go_wp2_with (go_at_call 45; refine HV.out.mono ?_; rintro e w' ⟨rfl, hb⟩)
    go_ret
    exact ⟨ret_bool hfin.out.symm, hb⟩
  | true =>
    cases hd : Nm.valid (bl t) with
    | false =>
      rw [hc] at hv
      have hfin : Hid (Nm.sameN (bl s) (bl t) = false) := Go.Lib.hid (by simp [Nm.sameN, hd])
      have HD := Go.Lib.hid hd
      have HV := Go.Lib.hid hv
      clear hv hc hd hs ht
      go_enter Tryz.func16, Tryz.ntmps16
      go_wp2_with fail
      refine HV.out.mono ?_; rintro e w1 ⟨rfl, hb1⟩
      go_wp2_with fail
      refine (refValid_any t w1).mono ?_; rintro e w2 ⟨rfl, hb2⟩
      rw [HD.out]
      go_wp2_with fail
      go_ret
      exact ⟨ret_bool hfin.out.symm, hb1.trans (hb2.mono hb1.size)⟩
    | true =>
      rw [hc] at hv
      have hfin : Hid (Nm.sameN (bl s) (bl t) = (Nm.foldN (bl s) == Nm.foldN (bl t))) := Go.Lib.hid (by simp [Nm.sameN, Nm.foldN, hc, hd])
      have HD := Go.Lib.hid hd
      have HV := Go.Lib.hid hv
      clear hv hc hd
      go_enter Tryz.func16, Tryz.ntmps16
      go_wp2_with fail
      refine HV.out.mono ?_; rintro e w1 ⟨rfl, hb1⟩
      go_wp2_with fail
      refine (refValid_any t w1).mono ?_; rintro e w2 ⟨rfl, hb2⟩
      rw [HD.out]
      go_wp2_with fail
      refine (refFold_any s _ hs).mono ?_; rintro e w3 ⟨rfl, hb3⟩
      go_wp2_with fail
      refine (refFold_any t _ ht).mono ?_; rintro e w4 ⟨rfl, hb4⟩
      go_wp2_with fail
      go_ret
      have z1 := hb1.size
      have z2 := hb2.size
      have z3 := hb3.size
      exact ⟨ret_bool (by rw [hfin.out, eqs']), ((hb1.trans (hb2.mono z1)).trans (hb3.mono (by omega))).trans (hb4.mono (by omega))⟩

end Go.Proofs.YtkpcmnckdappnaaGreat

/- A region whose order is left open and whose last operation waits for all others, walked once, in the order of the text: the last one may leave the class of worlds in which the others may be done. No conditions beside. -/
namespace Go.Mix
open Go
section
variable {P : Program} {ops : Array Oper} {md : Region.Mode} {E : Nat → Bool} {C : World → Prop}

/-- the last operation -/
def tOp (P : Program) (ops : Array Oper) (i : Nat) (K : Act → World → Prop) (a : Act) (w : World) : Prop :=
  match ops[i]? with
  | none => K a w
  | some o => if Region.wanted o (yielded ops a.tmps) then o.wp P a w K NoExit else K (a.put o.dst undef) w

def wpAnyT (P : Program) (md : Region.Mode) (ops : Array Oper) (E : Nat → Bool) (C : World → Prop) (Q : Act → World → Prop) (tl : Nat) : Nat → Array Bool → Act → World → Prop
  | 0, listed, a, w => Region.ready md ops listed = [] ∧ Q a w
  | fuel + 1, listed, a, w =>
    (Region.ready md ops listed = [] → Q a w) ∧
    ∀ i ∈ Region.ready md ops listed, (i = tl → Region.ready md ops (listed.setIfInBounds i true) = [] ∧ tOp P ops i Q a w) ∧
      (i ≠ tl → mOp P ops E C i (wpAnyT P md ops E C Q tl fuel (listed.setIfInBounds i true)) a w)

theorem wpAny_end {Q : Exit → Act → World → Prop} {listed : Array Bool} (h : Region.ready md ops listed = []) (fuel : Nat) {a : Act} {w : World} (hq : Q .normal a w) : wpAny P md ops Q fuel listed a w := by
  cases fuel with
  | zero => exact ⟨h, hq⟩
  | succ n => exact ⟨fun _ => hq, fun i hi => (by rw [h] at hi; cases hi)⟩

theorem wpOp_of_tOp {i : Nat} {a : Act} {w : World} {K K' : Act → World → Prop} {Q : Exit → Act → World → Prop} (h : ∀ a w, K a w → K' a w)
    (hh : tOp P ops i K a w) : wpOp P ops Q i K' a w := by
  unfold tOp at hh
  unfold wpOp
  split
  · rename_i ho; simp only [ho] at hh; exact h _ _ hh
  · rename_i o ho
    simp only [ho] at hh
    split
    · rename_i hwt
      simp only [hwt, if_true] at hh
      exact .inl (wp_monoQ h hh)
    · rename_i hwt
      simp only [hwt] at hh
      exact h _ _ hh

theorem wpAny_of_wpAnyT {Q : Act → World → Prop} {Q' : Exit → Act → World → Prop} {tl : Nat} (hQ : ∀ a w, Q a w → Q' .normal a w) :
    ∀ (fuel : Nat) (listed : Array Bool) (a : Act) (w : World), C w → wpAnyT P md ops E C Q tl fuel listed a w → wpAny P md ops Q' fuel listed a w
  | 0, _, _, _, _, h => ⟨h.1, hQ _ _ h.2⟩
  | fuel + 1, listed, a, w, hw, h => ⟨fun h0 => hQ _ _ (h.1 h0), fun i hi => by
      by_cases hit : i = tl
      · obtain ⟨h1, h2⟩ := (h.2 i hi).1 hit
        exact wpOp_of_tOp (fun a' w' hq => wpAny_end h1 fuel (hQ _ _ hq)) h2
      · exact wpOp_of_mOp hw (fun a' w' hw' => wpAny_of_wpAnyT hQ fuel _ a' w' hw') ((h.2 i hi).2 hit)⟩

/-- the last operation waits for all others -/
def Tail (md : Region.Mode) (ops : Array Oper) (n tl : Nat) : Prop := ∀ i, i < ops.size → i ≠ tl → dep md ops n tl i = true

theorem wpAnyT_first {Q : Act → World → Prop} {n tl : Nat} (hch : Chain md ops E n) (htl : Tail md ops n tl) {i : Nat} {oi : Oper} (hi : ops[i]? = some oi) (hit : i ≠ tl)
    (hsel : ∀ (j : Nat) (o : Oper) cs b, ops[j]? = some o → o.op ≠ .select cs b) :
    ∀ (fuel : Nat) (listed : Array Bool) (a : Act) (w : World), Down md ops listed → C w →
      (∀ j oj, ops[j]? = some oj → j ≠ i → listed.getD j true = false → (∀ e ∈ oj.after, Region.binds md e = true → e.on ≠ i) → oi.apart ops oj = true) →
      i ∈ Region.ready md ops listed →
      mOp P ops E C i (wpAnyT P md ops E C Q tl fuel (listed.setIfInBounds i true)) a w → wpAnyT P md ops E C Q tl (fuel + 1) listed a w := by
  intro fuel
  induction fuel with
  | zero =>
    intro listed a w _ _ _ hr H
    refine ⟨fun h => (by rw [h] at hr; cases hr), fun j hj => ?_⟩
    by_cases hji : j = i
    · subst hji; exact ⟨fun h => absurd h hit, fun _ => H⟩
    · have := ready_mono hj hji
      obtain ⟨a', w', hK⟩ := mOp_ex H
      rw [hK.1] at this
      cases this
  | succ fuel ih =>
    intro listed a w hdn hw hfree hr H
    refine ⟨fun h => (by rw [h] at hr; cases hr), fun j hj => ?_⟩
    by_cases hji : j = i
    · subst hji; exact ⟨fun h => absurd h hit, fun _ => H⟩
    · obtain ⟨hjun, oj, hoj, hall⟩ := mem_ready.1 hj
      have hiun := (mem_ready.1 hr).1
      have hjt : j ≠ tl := by
        intro hjt
        subst hjt
        have h1 := htl i (Array.getElem?_eq_some_iff.1 hi).1 hit
        rw [dep_ready hdn (getD_true_false hiun) hj n] at h1
        cases h1
      refine ⟨fun h => absurd h hjt, fun _ => ?_⟩
      have hnot : ∀ e ∈ oj.after, Region.binds md e = true → e.on ≠ i := fun e he hb heq => by
        have h1 := hall e he hb
        rw [heq, getD_true_false hiun] at h1
        cases h1
      have hap := hfree j oj hoj hji hjun hnot
      have hE : ¬ (E i = true ∧ E j = true) := by
        rintro ⟨hEi, hEj⟩
        rcases hch i j (Array.getElem?_eq_some_iff.1 hi).1 (Array.getElem?_eq_some_iff.1 hoj).1 (Ne.symm hji) hEi hEj with h | h
        · rw [dep_ready hdn (getD_true_false hjun) hr n] at h; cases h
        · rw [dep_ready hdn (getD_true_false hiun) hj n] at h; cases h
      have H1 : mOp P ops E C i (mOp P ops E C j (wpAnyT P md ops E C Q tl fuel ((listed.setIfInBounds i true).setIfInBounds j true))) a w :=
        mOp_mono hw (fun a' w' _ hK => (hK.2 j (ready_mono hj hji)).2 hjt) H
      have H2 := mOp_comm hi hoj hap (fun cs b => hsel i oi cs b hi) (fun cs b => hsel j oj cs b hoj) hE hw H1
      have hfree' : ∀ k ok, ops[k]? = some ok → k ≠ i → (listed.setIfInBounds j true).getD k true = false →
          (∀ e ∈ ok.after, Region.binds md e = true → e.on ≠ i) → oi.apart ops ok = true := fun k ok hk hki hun hno => by
        refine hfree k ok hk hki ?_ hno
        by_cases hjk : j = k
        · subst hjk; exact hjun
        · rw [getD_set_ne true hjk] at hun; exact hun
      refine mOp_mono hw (fun a' w' hw' h3 => ih (listed.setIfInBounds j true) a' w' (hdn.ready hj) hw' hfree' (ready_mono hr (Ne.symm hji)) ?_) H2
      rw [Array.setIfInBounds_comm _ _ hji]
      exact h3

/-- THE WALK IN THE ORDER OF THE TEXT -/
def wpMixT (P : Program) (ops : Array Oper) (E : Nat → Bool) (C : World → Prop) (Q : Act → World → Prop) (tl : Nat) : Nat → List Oper → Act → World → Prop
  | _, [], a, w => Q a w
  | k, o :: rest, a, w =>
    (k = tl → if Region.wanted o (yielded ops a.tmps) then o.wp P a w Q NoExit else Q (a.put o.dst undef) w) ∧
    (k ≠ tl → if Region.wanted o (yielded ops a.tmps) then
      if E k then o.wp P a w (fun a' w' => C w' ∧ wpMixT P ops E C Q tl (k + 1) rest a' w') NoExit
      else ∃ v, (∀ w2 : Subtype C, (execOp a.eval o).run P w2.1 = .ok (.value v) w2.1) ∧ wpMixT P ops E C Q tl (k + 1) rest (a.put o.dst v) w
    else wpMixT P ops E C Q tl (k + 1) rest (a.put o.dst undef) w)

theorem wpAnyT_lex {Q : Act → World → Prop} {n tl : Nat} (hch : Chain md ops E n) (htl : Tail md ops n tl) (hlast : tl + 1 = ops.size) (hs : Region.noSelect ops = true) :
    ∀ (l : List Oper) (k : Nat) (listed : Array Bool) (a : Act) (w : World), (∀ j, l[j]? = ops[k + j]?) → (∀ j, j < k → listed.getD j true = true) → Down md ops listed → C w →
      Region.lexFrom md ops l.length k listed = true → wpMixT P ops E C Q tl k l a w → wpAnyT P md ops E C Q tl l.length listed a w
  | [], _, _, _, _, _, _, _, _, hB, h => ⟨by simpa [Region.lexFrom] using hB, h⟩
  | o :: l, k, listed, a, w, hl, hbf, hdn, hw, hB, h => by
    have h0 : ops[k]? = some o := by simpa using (hl 0).symm
    have hklt : k < ops.size := (Array.getElem?_eq_some_iff.1 h0).1
    simp only [List.length_cons, Region.lexFrom, Bool.and_eq_true] at hB
    obtain ⟨⟨hr, hf⟩, hB'⟩ := hB
    have hr' : k ∈ Region.ready md ops listed := by simpa using hr
    have hbf' : ∀ j, j < k + 1 → (listed.setIfInBounds k true).getD j true = true := fun j hj => by
      by_cases hjk : k = j
      · subst hjk
        cases hg : (listed.setIfInBounds k true).getD k true with
        | true => rfl
        | false =>
          exfalso
          rcases Nat.lt_or_ge k listed.size with h1 | h1
          · simp [h1] at hg
          · simp [h1] at hg
      · rw [getD_set_ne true hjk]; exact hbf j (by omega)
    by_cases hkt : k = tl
    · have hnil : ∀ j, j ∈ Region.ready md ops (listed.setIfInBounds k true) → False := fun j hj => by
        obtain ⟨hun, oj, hoj, _⟩ := mem_ready.1 hj
        have := (Array.getElem?_eq_some_iff.1 hoj).1
        rw [hbf' j (by omega)] at hun
        cases hun
      have hnil' : Region.ready md ops (listed.setIfInBounds k true) = [] := List.eq_nil_iff_forall_not_mem.2 fun j hj => hnil j hj
      refine ⟨fun h1 => (by rw [h1] at hr'; cases hr'), fun i hi => ?_⟩
      have hik : i = k := by
        obtain ⟨hun, oi, hoi, _⟩ := mem_ready.1 hi
        have := (Array.getElem?_eq_some_iff.1 hoi).1
        rcases Nat.lt_or_ge i k with h1 | h1
        · rw [hbf i h1] at hun; cases hun
        · omega
      subst hik
      refine ⟨fun _ => ⟨hnil', ?_⟩, fun h1 => absurd hkt h1⟩
      unfold tOp
      rw [h0]
      unfold wpMixT at h
      exact h.1 hkt
    · have hm : mOp P ops E C k (wpMixT P ops E C Q tl (k + 1) l) a w := by
        unfold mOp
        rw [h0]
        unfold wpMixT at h
        have h := h.2 hkt
        dsimp only
        split
        · rename_i hwt
          simp only [hwt, if_true] at h
          split
          · rename_i hE; simp only [hE, if_true] at h; exact h
          · rename_i hE
            simp only [hE] at h
            obtain ⟨v, h1, h2⟩ := h
            exact ⟨v, fun w2 hw2 => h1 ⟨w2, hw2⟩, h2⟩
        · rename_i hwt
          simp only [hwt] at h
          exact h
      refine wpAnyT_first hch htl h0 hkt (Region.noSelect_spec hs) l.length listed a w hdn hw (Region.free_spec h0 hf) hr' ?_
      exact mOp_mono hw (fun a' w' hw' hK => wpAnyT_lex hch htl hlast hs l (k + 1) _ a' w' (fun j => by have := hl (j + 1); simpa [Nat.add_assoc, Nat.add_comm 1 j] using this) hbf' (hdn.ready hr') hw' hB' hK) hm

/-- the last one waits for all, as a test -/
def tailB (md : Region.Mode) (ops : Array Oper) (tl : Nat) : Bool := (List.range ops.size).all (fun i => i == tl || dep md ops ops.size tl i) && tl + 1 == ops.size
theorem tail_of {tl : Nat} (h : tailB md ops tl = true) : Tail md ops ops.size tl ∧ tl + 1 = ops.size := by
  unfold tailB at h
  rw [Bool.and_eq_true, List.all_eq_true, beq_iff_eq] at h
  refine ⟨fun i hi hne => ?_, h.2⟩
  have := h.1 i (List.mem_range.2 hi)
  simp only [Bool.or_eq_true, beq_iff_eq] at this
  exact this.resolve_left hne

/-- a region's rest, behind a box -/
structure MixT (P : Program) (ops : Array Oper) (E : Nat → Bool) (C : World → Prop) (Q : Act → World → Prop) (tl k : Nat) (rest : List Oper) (a : Act) (w : World) : Prop where
  out : wpMixT P ops E C Q tl k rest a w

theorem wp_region_mixT {id : Nat} {l : List Oper} {Es : List Nat} (tl : Nat) (C : World → Prop) {Q : Exit → Act → World → Prop} {a : Act} {w : World} (hm : P.follows .mixedOrders = true)
    (hB : (Region.lexB .any l.toArray && chainB .any l.toArray Es && tailB .any l.toArray tl) = true) (hC : C w.drew)
    (h : MixT P l.toArray (fun k => Es.contains k) C (fun a' w' => Q .normal a' w') tl 0 l a w.drew) : (Code.region id l.toArray true).wp P Q a w := by
  simp only [Region.lexB, Bool.and_eq_true] at hB
  obtain ⟨ht1, ht2⟩ := tail_of hB.2
  refine wp_region_any hm (wpAny_of_wpAnyT (Q := fun a' w' => Q .normal a' w') (C := C) (E := fun k => Es.contains k) (tl := tl) (fun _ _ h => h) _ _ _ _ hC ?_)
  have := wpAnyT_lex (P := P) (C := C) (Q := fun a' w' => Q .normal a' w') (md := .any) (chain_of hB.1.2) ht1 ht2 hB.1.1.1 l 0 (Array.replicate l.toArray.size false) a w.drew (by simp) (fun j hj => by omega) (Down.start _) hC (by simpa using hB.1.1.2) h.out
  simpa using this

section
variable {Es : List Nat} {Q : Act → World → Prop} {o : Oper} {rest : List Oper} {a : Act} {w : World} {k tl : Nat}

theorem mixT_nil (h : Q a w) : MixT P ops (fun k => Es.contains k) C Q tl k [] a w := ⟨h⟩

theorem mixT_step (hk : (Es.contains k || k == tl) = false) (h : ∀ K : Act → World → Prop, (∀ a w, MixT P ops (fun k => Es.contains k) C Q tl (k + 1) rest a w → K a w) →
      if Region.wanted o (yielded ops a.tmps) then ∃ v, (∀ w2 : Subtype C, (execOp a.eval o).run P w2.1 = .ok (.value v) w2.1) ∧ K (a.put o.dst v) w else K (a.put o.dst undef) w) :
    MixT P ops (fun k => Es.contains k) C Q tl k (o :: rest) a w := by
  have := h (fun a w => wpMixT P ops (fun k => Es.contains k) C Q tl (k + 1) rest a w) (fun _ _ h => h.out)
  rw [Bool.or_eq_false_iff] at hk
  have hkt : k ≠ tl := by simpa using hk.2
  refine ⟨?_⟩
  unfold wpMixT
  refine ⟨fun h => absurd h hkt, fun _ => ?_⟩
  simp only [hk.1]
  exact this

theorem mixT_eff (hk : (Es.contains k && !(k == tl)) = true) (h : ∀ K : Act → World → Prop, (∀ a w, C w → MixT P ops (fun k => Es.contains k) C Q tl (k + 1) rest a w → K a w) →
      if Region.wanted o (yielded ops a.tmps) then o.wp P a w K NoExit else K (a.put o.dst undef) w) :
    MixT P ops (fun k => Es.contains k) C Q tl k (o :: rest) a w := by
  have h1 := h (fun a' w' => C w' ∧ wpMixT P ops (fun k => Es.contains k) C Q tl (k + 1) rest a' w') (fun _ _ hc hh => ⟨hc, hh.out⟩)
  rw [Bool.and_eq_true] at hk
  have hkt : k ≠ tl := by simpa using hk.2
  refine ⟨?_⟩
  unfold wpMixT
  refine ⟨fun h => absurd h hkt, fun _ => ?_⟩
  simp only [hk.1, if_true]
  by_cases hw : Region.wanted o (yielded ops a.tmps) = true
  · simp only [hw, if_true] at h1 ⊢
    exact h1
  · simp only [hw] at h1 ⊢
    exact h1.2

theorem mixT_last (hk : (k == tl) = true) (h : ∀ K : Act → World → Prop, (∀ a w, Q a w → K a w) →
      if Region.wanted o (yielded ops a.tmps) then o.wp P a w K NoExit else K (a.put o.dst undef) w) :
    MixT P ops (fun k => Es.contains k) C Q tl k [o] a w := by
  have h1 := h Q (fun _ _ h => h)
  have hkt : k = tl := by simpa using hk
  refine ⟨?_⟩
  unfold wpMixT
  exact ⟨fun _ => h1, fun h => absurd hkt h⟩
end
end
end Go.Mix

