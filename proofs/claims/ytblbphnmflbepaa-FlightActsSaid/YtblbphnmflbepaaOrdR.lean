/- A region whose order is left open, with several effects that need not wait for one another: each effect leaves a fact that all others keep (rely and guarantee); walked once, in the order of the text, over whatever values the effects yield. No conditions beside. -/
import Derived.Test.YtblbphnmflbepaaOrdT
namespace Go.Mix
open Go
section
variable {P : Program} {ops : Array Oper} {md : Region.Mode} {E : Nat → Bool} {G : World → World → Prop} {w0 : World} {F : Nat → Value → World → Prop} {Sp : Nat → Value → Prop}

/-- what an effect's outcome leaves: its value, and the world -/
def EffR (P : Program) (R : Value → World → Prop) : Result Next → Prop
  | .ok (.value v) w' => R v w'
  | .ok .skip w' => R undef w'
  | .ok (.enter f args) w' => Calls P f args w' fun e w'' => match e with | .returned v => R v w'' | _ => False
  | .ok (.row row args) w' => Rows P row args w' R
  | _ => False
theorem EffR.upon {R : Value → World → Prop} {r : Result Next} {o : Oper} {a : Act} {K : Act → World → Prop} {Q : Exit → Act → World → Prop} (h : EffR P R r) (hK : ∀ v w', R v w' → K (a.put o.dst v) w') : o.upon P a K Q r := by
  cases r with
  | ok n w' =>
    cases n <;> simp only [EffR] at h
    case value v => exact hK _ _ h
    case skip => exact hK _ _ h
    case enter f args =>
      refine Calls.mono h fun e w'' he => ?_
      cases e with
      | returned v => exact hK _ _ he
      | panicked c => exact he.elim
      | outgrown => exact he.elim
    case row r args => exact Rows.mono h fun v w'' he => hK _ _ he
  | halt x w' => cases x <;> exact h.elim

/-- in whatever world of the class: the effect stays in it, and leaves its fact -/
def Eff (P : Program) (G : World → World → Prop) (w0 : World) (Fi : Value → World → Prop) (x : Sem Next) : Prop := ∀ w, G w0 w → EffR P (fun v w' => G w w' ∧ Fi v w') (x.run P w)

/-- operation i comes up; the facts so far: Φ -/
def rOp (P : Program) (ops : Array Oper) (E : Nat → Bool) (G : World → World → Prop) (w0 : World) (F : Nat → Value → World → Prop) (Sp : Nat → Value → Prop) (i : Nat) (K : Act → (World → Prop) → Prop) (a : Act) (Φ : World → Prop) : Prop :=
  match ops[i]? with
  | none => K a Φ
  | some o =>
    if Region.wanted o (yielded ops a.tmps) then
      if E i then Eff P G w0 (fun v w => Sp i v ∧ F i v w) (execOp a.eval o) ∧ ∀ v, Sp i v → K (a.put o.dst v) (fun w => Φ w ∧ F i v w)
      else ∃ v, (∀ w2, G w0 w2 → (execOp a.eval o).run P w2 = .ok (.value v) w2) ∧ K (a.put o.dst v) Φ
    else K (a.put o.dst undef) Φ

theorem rOp_mono {i : Nat} {K K' : Act → (World → Prop) → Prop} {a : Act} {Φ : World → Prop} (h : ∀ a Φ, K a Φ → K' a Φ) (hh : rOp P ops E G w0 F Sp i K a Φ) : rOp P ops E G w0 F Sp i K' a Φ := by
  unfold rOp at *
  split
  · rename_i ho; simp only [ho] at hh; exact h _ _ hh
  · rename_i o ho
    simp only [ho] at hh
    split
    · rename_i hw
      simp only [hw, if_true] at hh
      split
      · rename_i hE
        simp only [hE, if_true] at hh
        exact ⟨hh.1, fun v hv => h _ _ (hh.2 v hv)⟩
      · rename_i hE
        simp only [hE] at hh
        obtain ⟨v, h1, h2⟩ := hh
        exact ⟨v, h1, h _ _ h2⟩
    · rename_i hw
      simp only [hw] at hh
      exact h _ _ hh

/-- K is none the less true where more is known -/
def Anti (K : Act → (World → Prop) → Prop) : Prop := ∀ a (Φ Φ' : World → Prop), K a Φ → (∀ w, Φ' w → Φ w) → K a Φ'
theorem rOp_anti {i : Nat} {K : Act → (World → Prop) → Prop} (hK : Anti K) : Anti (rOp P ops E G w0 F Sp i K) := by
  intro a Φ Φ' h hi
  unfold rOp at *
  split
  · rename_i ho; simp only [ho] at h; exact hK _ _ _ h hi
  · rename_i o ho
    simp only [ho] at h
    split
    · rename_i hw
      simp only [hw, if_true] at h
      split
      · rename_i hE
        simp only [hE, if_true] at h
        exact ⟨h.1, fun v hv => hK _ _ _ (h.2 v hv) fun w hw => ⟨hi w hw.1, hw.2⟩⟩
      · rename_i hE
        simp only [hE] at h
        obtain ⟨v, h1, h2⟩ := h
        exact ⟨v, h1, hK _ _ _ h2 hi⟩
    · rename_i hw
      simp only [hw] at h
      exact hK _ _ _ h hi

def LeavesG (P : Program) (ops : Array Oper) (G : World → World → Prop) (w0 : World) (o : Oper) (v : Value) (a : Act) : Prop :=
  (Region.wanted o (yielded ops a.tmps) = true ∧ ∀ w2, G w0 w2 → (execOp a.eval o).run P w2 = .ok (.value v) w2) ∨ (Region.wanted o (yielded ops a.tmps) = false ∧ v = undef)

/-- what operation i does, apart from its way through 'match' -/
def rKind (P : Program) (ops : Array Oper) (E : Nat → Bool) (G : World → World → Prop) (w0 : World) (F : Nat → Value → World → Prop) (Sp : Nat → Value → Prop) (i : Nat) (o : Oper) (a : Act) (S : Value → Prop) (T : Value → World → Prop) : Prop :=
  (Region.wanted o (yielded ops a.tmps) = true ∧ E i = true ∧ Eff P G w0 (fun v w => Sp i v ∧ F i v w) (execOp a.eval o) ∧ (S = Sp i) ∧ T = F i) ∨
  (Region.wanted o (yielded ops a.tmps) = true ∧ E i = false ∧ ∃ v, (∀ w2, G w0 w2 → (execOp a.eval o).run P w2 = .ok (.value v) w2) ∧ (S = fun u => u = v) ∧ T = fun _ _ => True) ∨
  (Region.wanted o (yielded ops a.tmps) = false ∧ (S = fun u => u = undef) ∧ T = fun _ _ => True)

theorem rOp_kind {i : Nat} {o : Oper} (hi : ops[i]? = some o) {K : Act → (World → Prop) → Prop} (hK : Anti K) {a : Act} {Φ : World → Prop} :
    rOp P ops E G w0 F Sp i K a Φ ↔ ∃ S T, rKind P ops E G w0 F Sp i o a S T ∧ ∀ v, S v → K (a.put o.dst v) (fun w => Φ w ∧ T v w) := by
  unfold rOp rKind
  rw [hi]
  simp only
  constructor
  · intro h
    split at h
    · rename_i hw
      split at h
      · rename_i hE
        exact ⟨_, _, .inl ⟨hw, hE, h.1, rfl, rfl⟩, fun v hv => h.2 v hv⟩
      · rename_i hE
        obtain ⟨v, h1, h2⟩ := h
        exact ⟨_, _, .inr (.inl ⟨hw, by simpa using hE, v, h1, rfl, rfl⟩), fun u hu => by subst hu; exact hK _ _ _ h2 fun w hw => hw.1⟩
    · rename_i hw
      exact ⟨_, _, .inr (.inr ⟨by simpa using hw, rfl, rfl⟩), fun u hu => by subst hu; exact hK _ _ _ h fun w hw => hw.1⟩
  · rintro ⟨S, T, (⟨hw, hE, he, rfl, rfl⟩ | ⟨hw, hE, v, hv, rfl, rfl⟩ | ⟨hw, rfl, rfl⟩), hk⟩
    · simp only [hw, hE, if_true]
      exact ⟨he, fun v hv => hk v hv⟩
    · simp only [hw, hE, if_true, Bool.false_eq_true, if_false]
      exact ⟨v, hv, hK _ _ _ (hk v rfl) fun w hw => ⟨hw, trivial⟩⟩
    · simp only [hw, Bool.false_eq_true, if_false]
      exact hK _ _ _ (hk _ rfl) fun w hw => ⟨hw, trivial⟩

theorem rKind_put {i : Nat} {o : Oper} (hsel : ∀ cs b, o.op ≠ .select cs b) {x : Option Tmp} (h1 : ∀ d, x = some d → d ∉ o.looksAt ops) {a : Act} {u : Value} {S : Value → Prop} {T : Value → World → Prop} :
    rKind P ops E G w0 F Sp i o (a.put x u) S T ↔ rKind P ops E G w0 F Sp i o a S T := by
  unfold rKind
  rw [execOp_put (ops := ops) o hsel a x u h1, wanted_put o a x u h1]

theorem rKind_inh (hS : ∀ i, ∃ v, Sp i v) {i : Nat} {o : Oper} {a : Act} {S : Value → Prop} {T : Value → World → Prop} (h : rKind P ops E G w0 F Sp i o a S T) : ∃ v, S v := by
  rcases h with ⟨_, _, _, rfl, _⟩ | ⟨_, _, v, _, rfl, _⟩ | ⟨_, rfl, _⟩
  · exact hS i
  · exact ⟨v, rfl⟩
  · exact ⟨_, rfl⟩
theorem rKind_one {i : Nat} {o : Oper} {a : Act} {S S' : Value → Prop} {T T' : Value → World → Prop} (hr : G w0 w0) (h : rKind P ops E G w0 F Sp i o a S T) (h' : rKind P ops E G w0 F Sp i o a S' T') : S = S' ∧ T = T' := by
  rcases h with ⟨a1, a2, _, rfl, rfl⟩ | ⟨a1, a2, v, a3, rfl, rfl⟩ | ⟨a1, rfl, rfl⟩ <;> rcases h' with ⟨b1, b2, _, rfl, rfl⟩ | ⟨b1, b2, v', b3, rfl, rfl⟩ | ⟨b1, rfl, rfl⟩
  · exact ⟨rfl, rfl⟩
  · rw [a2] at b2; cases b2
  · rw [a1] at b1; cases b1
  · rw [a2] at b2; cases b2
  · have := (a3 w0 hr).symm.trans (b3 w0 hr)
    simp only [Result.ok.injEq, Next.value.injEq, and_true] at this
    subst this
    exact ⟨rfl, rfl⟩
  · rw [a1] at b1; cases b1
  · rw [a1] at b1; cases b1
  · rw [a1] at b1; cases b1
  · exact ⟨rfl, rfl⟩

theorem rOp_comm (hS : ∀ i, ∃ v, Sp i v) {i j : Nat} {oi oj : Oper} (hr : G w0 w0) (hi : ops[i]? = some oi) (hj : ops[j]? = some oj) (hap : oi.apart ops oj = true)
    (hsi : ∀ cs b, oi.op ≠ .select cs b) (hsj : ∀ cs b, oj.op ≠ .select cs b) {K : Act → (World → Prop) → Prop} (hK : Anti K) {a : Act} {Φ : World → Prop}
    (h : rOp P ops E G w0 F Sp i (rOp P ops E G w0 F Sp j K) a Φ) : rOp P ops E G w0 F Sp j (rOp P ops E G w0 F Sp i K) a Φ := by
  obtain ⟨h1, h2, h3⟩ := Oper.apart_spec hap
  rw [rOp_kind hi (rOp_anti hK)] at h
  obtain ⟨S, T, hk, h⟩ := h
  obtain ⟨v0, hv0⟩ := rKind_inh hS hk
  have hj0 := h v0 hv0
  rw [rOp_kind hj hK] at hj0
  obtain ⟨S', T', hk', _⟩ := hj0
  rw [rKind_put hsj h1] at hk'
  rw [rOp_kind hj (rOp_anti hK)]
  refine ⟨S', T', hk', fun u hu => ?_⟩
  rw [rOp_kind hi hK]
  refine ⟨S, T, (rKind_put hsi h3).2 hk, fun v hv => ?_⟩
  have h4 := h v hv
  rw [rOp_kind hj hK] at h4
  obtain ⟨S2, T2, hk2, h5⟩ := h4
  rw [rKind_put hsj h1] at hk2
  obtain ⟨rfl, rfl⟩ := rKind_one hr hk' hk2
  have h6 := h5 u hu
  rw [Act.put_comm a v u h2] at h6
  exact hK _ _ _ h6 fun w hw => ⟨⟨hw.1.1, hw.2⟩, hw.1.2⟩

/-! ### any order -/
def wpAnyR (P : Program) (md : Region.Mode) (ops : Array Oper) (E : Nat → Bool) (G : World → World → Prop) (w0 : World) (F : Nat → Value → World → Prop) (Sp : Nat → Value → Prop) (Q : Act → World → Prop) (tl : Nat) : Nat → Array Bool → Act → (World → Prop) → Prop
  | 0, listed, a, Φ => Region.ready md ops listed = [] ∧ ∀ w, G w0 w → Φ w → Q a w
  | fuel + 1, listed, a, Φ =>
    (Region.ready md ops listed = [] → ∀ w, G w0 w → Φ w → Q a w) ∧
    ∀ i ∈ Region.ready md ops listed, (i = tl → Region.ready md ops (listed.setIfInBounds i true) = [] ∧ ∀ w, G w0 w → Φ w → tOp P ops i Q a w) ∧
      (i ≠ tl → rOp P ops E G w0 F Sp i (wpAnyR P md ops E G w0 F Sp Q tl fuel (listed.setIfInBounds i true)) a Φ)

theorem wpAnyR_anti {Q : Act → World → Prop} {tl : Nat} : ∀ (fuel : Nat) (listed : Array Bool), Anti (wpAnyR P md ops E G w0 F Sp Q tl fuel listed)
  | 0, _ => fun _ _ _ h hi => ⟨h.1, fun w hg hw => h.2 w hg (hi w hw)⟩
  | fuel + 1, _ => fun _ _ _ h hi => ⟨fun h0 w hg hw => h.1 h0 w hg (hi w hw), fun i hir => ⟨fun hit => ⟨((h.2 i hir).1 hit).1, fun w hg hw => ((h.2 i hir).1 hit).2 w hg (hi w hw)⟩,
      fun hit => rOp_anti (wpAnyR_anti fuel _) _ _ _ ((h.2 i hir).2 hit) hi⟩⟩

theorem wpAny_of_wpAnyR {Q : Act → World → Prop} {Q' : Exit → Act → World → Prop} {tl : Nat} (hGt : ∀ {A B C : World}, G A B → G B C → G A C) (hGr : ∀ A, G A A) (hF : ∀ i v w w', F i v w → G w w' → F i v w') (hQ : ∀ a w, Q a w → Q' .normal a w) :
    ∀ (fuel : Nat) (listed : Array Bool) (a : Act) (w : World) (Φ : World → Prop), G w0 w → Φ w → (∀ w w', Φ w → G w w' → Φ w') → wpAnyR P md ops E G w0 F Sp Q tl fuel listed a Φ → wpAny P md ops Q' fuel listed a w
  | 0, _, _, _, _, hw, hp, _, h => ⟨h.1, hQ _ _ (h.2 _ hw hp)⟩
  | fuel + 1, listed, a, w, Φ, hw, hp, hst, h => ⟨fun h0 => hQ _ _ (h.1 h0 _ hw hp), fun i hi => by
      by_cases hit : i = tl
      · obtain ⟨h1, h2⟩ := (h.2 i hi).1 hit
        exact wpOp_of_tOp (fun a' w' hq => wpAny_end h1 fuel (hQ _ _ hq)) (h2 w hw hp)
      · have h3 := (h.2 i hi).2 hit
        unfold rOp at h3
        unfold wpOp
        split
        · rename_i ho
          simp only [ho] at h3
          exact wpAny_of_wpAnyR hGt hGr hF hQ fuel _ a w Φ hw hp hst h3
        · rename_i o ho
          simp only [ho] at h3
          split
          · rename_i hwt
            simp only [hwt, if_true] at h3
            refine .inl ?_
            split at h3
            · obtain ⟨he, hk⟩ := h3
              unfold Oper.wp
              refine (he w hw).upon fun v w' hv => ?_
              exact wpAny_of_wpAnyR hGt hGr hF hQ fuel _ _ w' _ (hGt hw hv.1) ⟨hst _ _ hp hv.1, hv.2.2⟩ (fun x y hx hg => ⟨hst _ _ hx.1 hg, hF _ _ _ _ hx.2 hg⟩) (hk v hv.2.1)
            · obtain ⟨v, h1, h2⟩ := h3
              unfold Oper.wp
              rw [h1 w hw]
              exact wpAny_of_wpAnyR hGt hGr hF hQ fuel _ _ w Φ hw hp hst h2
          · rename_i hwt
            simp only [hwt] at h3
            exact wpAny_of_wpAnyR hGt hGr hF hQ fuel _ _ w Φ hw hp hst h3⟩

theorem rOp_ex (hS : ∀ i, ∃ v, Sp i v) {i : Nat} {K : Act → (World → Prop) → Prop} {a : Act} {Φ : World → Prop} (h : rOp P ops E G w0 F Sp i K a Φ) : ∃ a' Φ', K a' Φ' := by
  unfold rOp at h
  split at h
  · exact ⟨_, _, h⟩
  · split at h
    · split at h
      · obtain ⟨v, hv⟩ := hS i
        exact ⟨_, _, h.2 v hv⟩
      · obtain ⟨v, _, h⟩ := h
        exact ⟨_, _, h⟩
    · exact ⟨_, _, h⟩

theorem wpAnyR_first (hS : ∀ i, ∃ v, Sp i v) {Q : Act → World → Prop} {n tl : Nat} (hr0 : G w0 w0) (htl : Tail md ops n tl) {i : Nat} {oi : Oper} (hi : ops[i]? = some oi) (hit : i ≠ tl)
    (hsel : ∀ (j : Nat) (o : Oper) cs b, ops[j]? = some o → o.op ≠ .select cs b) :
    ∀ (fuel : Nat) (listed : Array Bool) (a : Act) (Φ : World → Prop), Down md ops listed →
      (∀ j oj, ops[j]? = some oj → j ≠ i → listed.getD j true = false → (∀ e ∈ oj.after, Region.binds md e = true → e.on ≠ i) → oi.apart ops oj = true) →
      i ∈ Region.ready md ops listed →
      rOp P ops E G w0 F Sp i (wpAnyR P md ops E G w0 F Sp Q tl fuel (listed.setIfInBounds i true)) a Φ → wpAnyR P md ops E G w0 F Sp Q tl (fuel + 1) listed a Φ := by
  intro fuel
  induction fuel with
  | zero =>
    intro listed a Φ _ _ hr H
    refine ⟨fun h => (by rw [h] at hr; cases hr), fun j hj => ?_⟩
    by_cases hji : j = i
    · subst hji; exact ⟨fun h => absurd h hit, fun _ => H⟩
    · have := ready_mono hj hji
      obtain ⟨a', w', hK⟩ := rOp_ex hS H
      rw [hK.1] at this
      cases this
  | succ fuel ih =>
    intro listed a Φ hdn hfree hr H
    refine ⟨fun h => (by rw [h] at hr; cases hr), fun j hj => ?_⟩
    by_cases hji : j = i
    · subst hji; exact ⟨fun h => absurd h hit, fun _ => H⟩
    · obtain ⟨hjun, oj, hoj, hall⟩ := mem_ready.1 hj
      have hiun := (mem_ready.1 hr).1
      have hjt : j ≠ tl := by
        intro hjt
        subst hjt
        have h1 := htl i (Array.getElem?_eq_some_iff.1 hi).1 hit
        rw [dep_ready hdn (getD_true_false hiun) hj n] at h1
        cases h1
      refine ⟨fun h => absurd h hjt, fun _ => ?_⟩
      have hnot : ∀ e ∈ oj.after, Region.binds md e = true → e.on ≠ i := fun e he hb heq => by
        have h1 := hall e he hb
        rw [heq, getD_true_false hiun] at h1
        cases h1
      have hap := hfree j oj hoj hji hjun hnot
      have H1 : rOp P ops E G w0 F Sp i (rOp P ops E G w0 F Sp j (wpAnyR P md ops E G w0 F Sp Q tl fuel ((listed.setIfInBounds i true).setIfInBounds j true))) a Φ :=
        rOp_mono (fun a' Φ' hK => (hK.2 j (ready_mono hj hji)).2 hjt) H
      have H2 := rOp_comm hS hr0 hi hoj hap (fun cs b => hsel i oi cs b hi) (fun cs b => hsel j oj cs b hoj) (wpAnyR_anti fuel _) H1
      have hfree' : ∀ k ok, ops[k]? = some ok → k ≠ i → (listed.setIfInBounds j true).getD k true = false →
          (∀ e ∈ ok.after, Region.binds md e = true → e.on ≠ i) → oi.apart ops ok = true := fun k ok hk hki hun hno => by
        refine hfree k ok hk hki ?_ hno
        by_cases hjk : j = k
        · subst hjk; exact hjun
        · rw [getD_set_ne true hjk] at hun; exact hun
      refine rOp_mono (fun a' Φ' h3 => ih (listed.setIfInBounds j true) a' Φ' (hdn.ready hj) hfree' (ready_mono hr (Ne.symm hji)) ?_) H2
      rw [Array.setIfInBounds_comm _ _ hji]
      exact h3

/-- THE WALK IN THE ORDER OF THE TEXT -/
def wpMixR (P : Program) (ops : Array Oper) (E : Nat → Bool) (G : World → World → Prop) (w0 : World) (F : Nat → Value → World → Prop) (Sp : Nat → Value → Prop) (Q : Act → World → Prop) (tl : Nat) : Nat → List Oper → Act → (World → Prop) → Prop
  | _, [], a, Φ => ∀ w, G w0 w → Φ w → Q a w
  | k, o :: rest, a, Φ =>
    (k = tl → ∀ w, G w0 w → Φ w → if Region.wanted o (yielded ops a.tmps) then o.wp P a w Q NoExit else Q (a.put o.dst undef) w) ∧
    (k ≠ tl → if Region.wanted o (yielded ops a.tmps) then
      if E k then Eff P G w0 (fun v w => Sp k v ∧ F k v w) (execOp a.eval o) ∧ ∀ v, Sp k v → wpMixR P ops E G w0 F Sp Q tl (k + 1) rest (a.put o.dst v) (fun w => Φ w ∧ F k v w)
      else ∃ v, (∀ w2, G w0 w2 → (execOp a.eval o).run P w2 = .ok (.value v) w2) ∧ wpMixR P ops E G w0 F Sp Q tl (k + 1) rest (a.put o.dst v) Φ
    else wpMixR P ops E G w0 F Sp Q tl (k + 1) rest (a.put o.dst undef) Φ)

theorem wpAnyR_lex (hS : ∀ i, ∃ v, Sp i v) {Q : Act → World → Prop} {n tl : Nat} (hr0 : G w0 w0) (htl : Tail md ops n tl) (hlast : tl + 1 = ops.size) (hs : Region.noSelect ops = true) :
    ∀ (l : List Oper) (k : Nat) (listed : Array Bool) (a : Act) (Φ : World → Prop), (∀ j, l[j]? = ops[k + j]?) → (∀ j, j < k → listed.getD j true = true) → Down md ops listed →
      Region.lexFrom md ops l.length k listed = true → wpMixR P ops E G w0 F Sp Q tl k l a Φ → wpAnyR P md ops E G w0 F Sp Q tl l.length listed a Φ
  | [], _, _, _, _, _, _, _, hB, h => ⟨by simpa [Region.lexFrom] using hB, h⟩
  | o :: l, k, listed, a, Φ, hl, hbf, hdn, hB, h => by
    have h0 : ops[k]? = some o := by simpa using (hl 0).symm
    have hklt : k < ops.size := (Array.getElem?_eq_some_iff.1 h0).1
    simp only [List.length_cons, Region.lexFrom, Bool.and_eq_true] at hB
    obtain ⟨⟨hr, hf⟩, hB'⟩ := hB
    have hr' : k ∈ Region.ready md ops listed := by simpa using hr
    have hbf' : ∀ j, j < k + 1 → (listed.setIfInBounds k true).getD j true = true := fun j hj => by
      by_cases hjk : k = j
      · subst hjk
        cases hg : (listed.setIfInBounds k true).getD k true with
        | true => rfl
        | false =>
          exfalso
          rcases Nat.lt_or_ge k listed.size with h1 | h1
          · simp [h1] at hg
          · simp [h1] at hg
      · rw [getD_set_ne true hjk]; exact hbf j (by omega)
    by_cases hkt : k = tl
    · have hnil : ∀ j, j ∈ Region.ready md ops (listed.setIfInBounds k true) → False := fun j hj => by
        obtain ⟨hun, oj, hoj, _⟩ := mem_ready.1 hj
        have := (Array.getElem?_eq_some_iff.1 hoj).1
        rw [hbf' j (by omega)] at hun
        cases hun
      have hnil' : Region.ready md ops (listed.setIfInBounds k true) = [] := List.eq_nil_iff_forall_not_mem.2 fun j hj => hnil j hj
      refine ⟨fun h1 => (by rw [h1] at hr'; cases hr'), fun i hi => ?_⟩
      have hik : i = k := by
        obtain ⟨hun, oi, hoi, _⟩ := mem_ready.1 hi
        have := (Array.getElem?_eq_some_iff.1 hoi).1
        rcases Nat.lt_or_ge i k with h1 | h1
        · rw [hbf i h1] at hun; cases hun
        · omega
      subst hik
      refine ⟨fun _ => ⟨hnil', fun w hg hw => ?_⟩, fun h1 => absurd hkt h1⟩
      unfold tOp
      rw [h0]
      unfold wpMixR at h
      exact h.1 hkt w hg hw
    · have hm : rOp P ops E G w0 F Sp k (wpMixR P ops E G w0 F Sp Q tl (k + 1) l) a Φ := by
        unfold rOp
        rw [h0]
        unfold wpMixR at h
        exact h.2 hkt
      refine wpAnyR_first hS hr0 htl h0 hkt (Region.noSelect_spec hs) l.length listed a Φ hdn (Region.free_spec h0 hf) hr' ?_
      exact rOp_mono (fun a' Φ' hK => wpAnyR_lex hS hr0 htl hlast hs l (k + 1) _ a' Φ' (fun j => by have := hl (j + 1); simpa [Nat.add_assoc, Nat.add_comm 1 j] using this) hbf' (hdn.ready hr') hB' hK) hm

structure MixR (P : Program) (ops : Array Oper) (E : Nat → Bool) (G : World → World → Prop) (w0 : World) (F : Nat → Value → World → Prop) (Sp : Nat → Value → Prop) (Q : Act → World → Prop) (tl k : Nat) (rest : List Oper) (a : Act) (Φ : World → Prop) : Prop where
  out : wpMixR P ops E G w0 F Sp Q tl k rest a Φ

theorem wp_region_mixR {id : Nat} {l : List Oper} (Es : List Nat) (tl : Nat) (G : World → World → Prop) (F : Nat → Value → World → Prop) (Sp : Nat → Value → Prop) {Q : Exit → Act → World → Prop} {a : Act} {w : World} (hm : P.follows .mixedOrders = true)
    (hB : (Region.lexB .any l.toArray && tailB .any l.toArray tl) = true) (hGt : ∀ {A B C : World}, G A B → G B C → G A C) (hGr : ∀ A, G A A) (hF : ∀ i v w w', F i v w → G w w' → F i v w') (hS : ∀ i, ∃ v, Sp i v)
    (h : MixR P l.toArray (fun k => Es.contains k) G w.drew F Sp (fun a' w' => Q .normal a' w') tl 0 l a (fun _ => True)) : (Code.region id l.toArray true).wp P Q a w := by
  simp only [Region.lexB, Bool.and_eq_true] at hB
  obtain ⟨ht1, ht2⟩ := tail_of hB.2
  refine wp_region_any hm (wpAny_of_wpAnyR (Q := fun a' w' => Q .normal a' w') (E := fun k => Es.contains k) (tl := tl) (w0 := w.drew) (F := F) (G := G) (Sp := Sp) hGt hGr hF (fun _ _ h => h) _ _ _ _ (fun _ => True) (hGr _) trivial (fun _ _ _ _ => trivial) ?_)
  have := wpAnyR_lex (P := P) (G := G) (F := F) (Sp := Sp) hS (Q := fun a' w' => Q .normal a' w') (md := .any) (hGr w.drew) ht1 ht2 hB.1.1 l 0 (Array.replicate l.toArray.size false) a (fun _ => True) (by simp) (fun j hj => by omega) (Down.start _) (by simpa using hB.1.2) h.out
  simpa using this

section
variable {Es : List Nat} {Q : Act → World → Prop} {o : Oper} {rest : List Oper} {a : Act} {k tl : Nat} {Φ : World → Prop}

theorem mixR_step (hk : (Es.contains k || k == tl) = false) (h : ∀ K : Act → Prop, (∀ a, MixR P ops (fun k => Es.contains k) G w0 F Sp Q tl (k + 1) rest a Φ → K a) →
      if Region.wanted o (yielded ops a.tmps) then ∃ v, (∀ w2 : Subtype (G w0), (execOp a.eval o).run P w2.1 = .ok (.value v) w2.1) ∧ K (a.put o.dst v) else K (a.put o.dst undef)) :
    MixR P ops (fun k => Es.contains k) G w0 F Sp Q tl k (o :: rest) a Φ := by
  have := h (fun a => wpMixR P ops (fun k => Es.contains k) G w0 F Sp Q tl (k + 1) rest a Φ) (fun _ h => h.out)
  rw [Bool.or_eq_false_iff] at hk
  have hkt : k ≠ tl := by simpa using hk.2
  refine ⟨?_⟩
  unfold wpMixR
  refine ⟨fun h => absurd h hkt, fun _ => ?_⟩
  simp only [hk.1]
  split
  · rename_i hw
    rw [if_pos hw] at this
    obtain ⟨v, h1, h2⟩ := this
    exact ⟨v, fun w2 hw2 => h1 ⟨w2, hw2⟩, h2⟩
  · rename_i hw
    rw [if_neg hw] at this
    exact this

/-- an effect that is made -/
theorem mixR_eff (hk : (Es.contains k && !(k == tl)) = true) (hw : Region.wanted o (yielded ops a.tmps) = true) (he : ∀ w, G w0 w → EffR P (fun v w' => G w w' ∧ Sp k v ∧ F k v w') ((execOp a.eval o).run P w))
    (h : ∀ v, Sp k v → MixR P ops (fun k => Es.contains k) G w0 F Sp Q tl (k + 1) rest (a.put o.dst v) (fun w => Φ w ∧ F k v w)) :
    MixR P ops (fun k => Es.contains k) G w0 F Sp Q tl k (o :: rest) a Φ := by
  rw [Bool.and_eq_true] at hk
  have hkt : k ≠ tl := by simpa using hk.2
  refine ⟨?_⟩
  unfold wpMixR
  refine ⟨fun h => absurd h hkt, fun _ => ?_⟩
  simp only [hk.1, hw, if_true]
  exact ⟨he, fun v hv => (h v hv).out⟩

/-- the last one -/
theorem mixR_last (hk : (k == tl) = true) (h : ∀ w, G w0 w → Φ w → ∀ K : Act → World → Prop, (∀ a w, Q a w → K a w) →
      if Region.wanted o (yielded ops a.tmps) then o.wp P a w K NoExit else K (a.put o.dst undef) w) :
    MixR P ops (fun k => Es.contains k) G w0 F Sp Q tl k [o] a Φ := by
  have hkt : k = tl := by simpa using hk
  refine ⟨?_⟩
  unfold wpMixR
  exact ⟨fun _ w hg hw => h w hg hw Q (fun _ _ h => h), fun h => absurd hkt h⟩
end
end
end Go.Mix
