/- A region whose order is left open, with several effects that need not wait for one another, each of which may lean on what the effects whose values it takes have left (rely and guarantee): walked once, in the order of the text. No conditions beside. -/
import Derived.Test.YtblbphnmflbepaaOrdR
import Derived.Test.YtblbphnmflbepaaOrdC
namespace Go.Mix
open Go
section
variable {P : Program} {ops : Array Oper} {md : Region.Mode} {E : Nat → Bool} {G : World → World → Prop} {w0 : World} {F : Nat → Value → World → Prop} {Sp : Nat → Value → Prop} {D : Nat → Act → World → Prop}

/-- an operation's need says nothing of what it does not look at -/
def DPut (ops : Array Oper) (D : Nat → Act → World → Prop) : Prop := ∀ (i : Nat) (o : Oper) (x : Option Tmp), ops[i]? = some o → (∀ d, x = some d → d ∉ o.looksAt ops) → ∀ (a : Act) (u : Value) (w : World), D i (a.put x u) w ↔ D i a w

/-- what is known of the effects that have been made -/
structure Known (md : Region.Mode) (ops : Array Oper) (E : Nat → Bool) (G : World → World → Prop) (F : Nat → Value → World → Prop) (D : Nat → Act → World → Prop) (Inv : Array Bool → Act → World → Prop) : Prop where
  keep : ∀ L a w w', Inv L a w → G w w' → Inv L a w'
  made : ∀ L a w i o v, ops[i]? = some o → i ∈ Region.ready md ops L → Down md ops L → E i = true → Inv L a w → F i v w → Inv (L.setIfInBounds i true) (a.put o.dst v) w
  quiet : ∀ L a w i o v, ops[i]? = some o → i ∈ Region.ready md ops L → Down md ops L → (E i = false ∨ Region.wanted o (yielded ops a.tmps) = false) → Inv L a w → Inv (L.setIfInBounds i true) (a.put o.dst v) w
  need : ∀ L a w i o, ops[i]? = some o → i ∈ Region.ready md ops L → Region.wanted o (yielded ops a.tmps) = true → Inv L a w → D i a w

/-- in whatever world of the class: the effect stays in it, and leaves its fact -/
def EffD (P : Program) (G : World → World → Prop) (w0 : World) (Di : World → Prop) (Fi : Value → World → Prop) (x : Sem Next) : Prop := ∀ w, G w0 w → Di w → EffR P (fun v w' => G w w' ∧ Fi v w') (x.run P w)

/-- operation i comes up; the facts so far: Φ -/
def rOpD (P : Program) (ops : Array Oper) (E : Nat → Bool) (G : World → World → Prop) (w0 : World) (F : Nat → Value → World → Prop) (Sp : Nat → Value → Prop) (D : Nat → Act → World → Prop) (i : Nat) (K : Act → (World → Prop) → Prop) (a : Act) (Φ : World → Prop) : Prop :=
  match ops[i]? with
  | none => K a Φ
  | some o =>
    if Region.wanted o (yielded ops a.tmps) then
      if E i then EffD P G w0 (D i a) (fun v w => Sp i v ∧ F i v w) (execOp a.eval o) ∧ ∀ v, Sp i v → K (a.put o.dst v) (fun w => Φ w ∧ F i v w)
      else ∃ v, (∀ w2, G w0 w2 → (execOp a.eval o).run P w2 = .ok (.value v) w2) ∧ K (a.put o.dst v) Φ
    else K (a.put o.dst undef) Φ

theorem rOpD_mono {i : Nat} {K K' : Act → (World → Prop) → Prop} {a : Act} {Φ : World → Prop} (h : ∀ a Φ, K a Φ → K' a Φ) (hh : rOpD P ops E G w0 F Sp D i K a Φ) : rOpD P ops E G w0 F Sp D i K' a Φ := by
  unfold rOpD at *
  split
  · rename_i ho; simp only [ho] at hh; exact h _ _ hh
  · rename_i o ho
    simp only [ho] at hh
    split
    · rename_i hw
      simp only [hw, if_true] at hh
      split
      · rename_i hE
        simp only [hE, if_true] at hh
        exact ⟨hh.1, fun v hv => h _ _ (hh.2 v hv)⟩
      · rename_i hE
        simp only [hE] at hh
        obtain ⟨v, h1, h2⟩ := hh
        exact ⟨v, h1, h _ _ h2⟩
    · rename_i hw
      simp only [hw] at hh
      exact h _ _ hh

theorem rOpD_anti {i : Nat} {K : Act → (World → Prop) → Prop} (hK : Anti K) : Anti (rOpD P ops E G w0 F Sp D i K) := by
  intro a Φ Φ' h hi
  unfold rOpD at *
  split
  · rename_i ho; simp only [ho] at h; exact hK _ _ _ h hi
  · rename_i o ho
    simp only [ho] at h
    split
    · rename_i hw
      simp only [hw, if_true] at h
      split
      · rename_i hE
        simp only [hE, if_true] at h
        exact ⟨h.1, fun v hv => hK _ _ _ (h.2 v hv) fun w hw => ⟨hi w hw.1, hw.2⟩⟩
      · rename_i hE
        simp only [hE] at h
        obtain ⟨v, h1, h2⟩ := h
        exact ⟨v, h1, hK _ _ _ h2 hi⟩
    · rename_i hw
      simp only [hw] at h
      exact hK _ _ _ h hi

/-- what operation i does, apart from its way through 'match' -/
def rKindD (P : Program) (ops : Array Oper) (E : Nat → Bool) (G : World → World → Prop) (w0 : World) (F : Nat → Value → World → Prop) (Sp : Nat → Value → Prop) (D : Nat → Act → World → Prop) (i : Nat) (o : Oper) (a : Act) (S : Value → Prop) (T : Value → World → Prop) : Prop :=
  (Region.wanted o (yielded ops a.tmps) = true ∧ E i = true ∧ EffD P G w0 (D i a) (fun v w => Sp i v ∧ F i v w) (execOp a.eval o) ∧ (S = Sp i) ∧ T = F i) ∨
  (Region.wanted o (yielded ops a.tmps) = true ∧ E i = false ∧ ∃ v, (∀ w2, G w0 w2 → (execOp a.eval o).run P w2 = .ok (.value v) w2) ∧ (S = fun u => u = v) ∧ T = fun _ _ => True) ∨
  (Region.wanted o (yielded ops a.tmps) = false ∧ (S = fun u => u = undef) ∧ T = fun _ _ => True)

theorem rOpD_kind {i : Nat} {o : Oper} (hi : ops[i]? = some o) {K : Act → (World → Prop) → Prop} (hK : Anti K) {a : Act} {Φ : World → Prop} :
    rOpD P ops E G w0 F Sp D i K a Φ ↔ ∃ S T, rKindD P ops E G w0 F Sp D i o a S T ∧ ∀ v, S v → K (a.put o.dst v) (fun w => Φ w ∧ T v w) := by
  unfold rOpD rKindD
  rw [hi]
  simp only
  constructor
  · intro h
    split at h
    · rename_i hw
      split at h
      · rename_i hE
        exact ⟨_, _, .inl ⟨hw, hE, h.1, rfl, rfl⟩, fun v hv => h.2 v hv⟩
      · rename_i hE
        obtain ⟨v, h1, h2⟩ := h
        exact ⟨_, _, .inr (.inl ⟨hw, by simpa using hE, v, h1, rfl, rfl⟩), fun u hu => by subst hu; exact hK _ _ _ h2 fun w hw => hw.1⟩
    · rename_i hw
      exact ⟨_, _, .inr (.inr ⟨by simpa using hw, rfl, rfl⟩), fun u hu => by subst hu; exact hK _ _ _ h fun w hw => hw.1⟩
  · rintro ⟨S, T, (⟨hw, hE, he, rfl, rfl⟩ | ⟨hw, hE, v, hv, rfl, rfl⟩ | ⟨hw, rfl, rfl⟩), hk⟩
    · simp only [hw, hE, if_true]
      exact ⟨he, fun v hv => hk v hv⟩
    · simp only [hw, hE, if_true, Bool.false_eq_true, if_false]
      exact ⟨v, hv, hK _ _ _ (hk v rfl) fun w hw => ⟨hw, trivial⟩⟩
    · simp only [hw, Bool.false_eq_true, if_false]
      exact hK _ _ _ (hk _ rfl) fun w hw => ⟨hw, trivial⟩

theorem rKindD_put (hDp : DPut ops D) {i : Nat} {o : Oper} (hi : ops[i]? = some o) (hsel : ∀ cs b, o.op ≠ .select cs b) {x : Option Tmp} (h1 : ∀ d, x = some d → d ∉ o.looksAt ops) {a : Act} {u : Value} {S : Value → Prop} {T : Value → World → Prop} :
    rKindD P ops E G w0 F Sp D i o (a.put x u) S T ↔ rKindD P ops E G w0 F Sp D i o a S T := by
  have hd : D i (a.put x u) = D i a := funext fun w => propext (hDp i o x hi h1 a u w)
  unfold rKindD
  rw [execOp_put (ops := ops) o hsel a x u h1, wanted_put o a x u h1, hd]

theorem rKindD_inh (hS : ∀ i, ∃ v, Sp i v) {i : Nat} {o : Oper} {a : Act} {S : Value → Prop} {T : Value → World → Prop} (h : rKindD P ops E G w0 F Sp D i o a S T) : ∃ v, S v := by
  rcases h with ⟨_, _, _, rfl, _⟩ | ⟨_, _, v, _, rfl, _⟩ | ⟨_, rfl, _⟩
  · exact hS i
  · exact ⟨v, rfl⟩
  · exact ⟨_, rfl⟩
theorem rKindD_one {i : Nat} {o : Oper} {a : Act} {S S' : Value → Prop} {T T' : Value → World → Prop} (hr : G w0 w0) (h : rKindD P ops E G w0 F Sp D i o a S T) (h' : rKindD P ops E G w0 F Sp D i o a S' T') : S = S' ∧ T = T' := by
  rcases h with ⟨a1, a2, _, rfl, rfl⟩ | ⟨a1, a2, v, a3, rfl, rfl⟩ | ⟨a1, rfl, rfl⟩ <;> rcases h' with ⟨b1, b2, _, rfl, rfl⟩ | ⟨b1, b2, v', b3, rfl, rfl⟩ | ⟨b1, rfl, rfl⟩
  · exact ⟨rfl, rfl⟩
  · rw [a2] at b2; cases b2
  · rw [a1] at b1; cases b1
  · rw [a2] at b2; cases b2
  · have := (a3 w0 hr).symm.trans (b3 w0 hr)
    simp only [Result.ok.injEq, Next.value.injEq, and_true] at this
    subst this
    exact ⟨rfl, rfl⟩
  · rw [a1] at b1; cases b1
  · rw [a1] at b1; cases b1
  · rw [a1] at b1; cases b1
  · exact ⟨rfl, rfl⟩

theorem rOpD_comm (hDp : DPut ops D) (hS : ∀ i, ∃ v, Sp i v) {i j : Nat} {oi oj : Oper} (hr : G w0 w0) (hi : ops[i]? = some oi) (hj : ops[j]? = some oj) (hap : oi.apart ops oj = true)
    (hsi : ∀ cs b, oi.op ≠ .select cs b) (hsj : ∀ cs b, oj.op ≠ .select cs b) {K : Act → (World → Prop) → Prop} (hK : Anti K) {a : Act} {Φ : World → Prop}
    (h : rOpD P ops E G w0 F Sp D i (rOpD P ops E G w0 F Sp D j K) a Φ) : rOpD P ops E G w0 F Sp D j (rOpD P ops E G w0 F Sp D i K) a Φ := by
  obtain ⟨h1, h2, h3⟩ := Oper.apart_spec hap
  rw [rOpD_kind hi (rOpD_anti hK)] at h
  obtain ⟨S, T, hk, h⟩ := h
  obtain ⟨v0, hv0⟩ := rKindD_inh hS hk
  have hj0 := h v0 hv0
  rw [rOpD_kind hj hK] at hj0
  obtain ⟨S', T', hk', _⟩ := hj0
  rw [rKindD_put hDp hj hsj h1] at hk'
  rw [rOpD_kind hj (rOpD_anti hK)]
  refine ⟨S', T', hk', fun u hu => ?_⟩
  rw [rOpD_kind hi hK]
  refine ⟨S, T, (rKindD_put hDp hi hsi h3).2 hk, fun v hv => ?_⟩
  have h4 := h v hv
  rw [rOpD_kind hj hK] at h4
  obtain ⟨S2, T2, hk2, h5⟩ := h4
  rw [rKindD_put hDp hj hsj h1] at hk2
  obtain ⟨rfl, rfl⟩ := rKindD_one hr hk' hk2
  have h6 := h5 u hu
  rw [Act.put_comm a v u h2] at h6
  exact hK _ _ _ h6 fun w hw => ⟨⟨hw.1.1, hw.2⟩, hw.1.2⟩

/-! ### any order -/
def wpAnyD (P : Program) (md : Region.Mode) (ops : Array Oper) (E : Nat → Bool) (G : World → World → Prop) (w0 : World) (F : Nat → Value → World → Prop) (Sp : Nat → Value → Prop) (D : Nat → Act → World → Prop) (Q : Act → World → Prop) (tl : Nat) : Nat → Array Bool → Act → (World → Prop) → Prop
  | 0, listed, a, Φ => Region.ready md ops listed = [] ∧ ∀ w, G w0 w → Φ w → Q a w
  | fuel + 1, listed, a, Φ =>
    (Region.ready md ops listed = [] → ∀ w, G w0 w → Φ w → Q a w) ∧
    ∀ i ∈ Region.ready md ops listed, (i = tl → Region.ready md ops (listed.setIfInBounds i true) = [] ∧ ∀ w, G w0 w → Φ w → tOp P ops i Q a w) ∧
      (i ≠ tl → rOpD P ops E G w0 F Sp D i (wpAnyD P md ops E G w0 F Sp D Q tl fuel (listed.setIfInBounds i true)) a Φ)

theorem wpAnyD_anti {Q : Act → World → Prop} {tl : Nat} : ∀ (fuel : Nat) (listed : Array Bool), Anti (wpAnyD P md ops E G w0 F Sp D Q tl fuel listed)
  | 0, _ => fun _ _ _ h hi => ⟨h.1, fun w hg hw => h.2 w hg (hi w hw)⟩
  | fuel + 1, _ => fun _ _ _ h hi => ⟨fun h0 w hg hw => h.1 h0 w hg (hi w hw), fun i hir => ⟨fun hit => ⟨((h.2 i hir).1 hit).1, fun w hg hw => ((h.2 i hir).1 hit).2 w hg (hi w hw)⟩,
      fun hit => rOpD_anti (wpAnyD_anti fuel _) _ _ _ ((h.2 i hir).2 hit) hi⟩⟩

theorem wpAny_of_wpAnyD {Q : Act → World → Prop} {Q' : Exit → Act → World → Prop} {tl : Nat} {Inv : Array Bool → Act → World → Prop} (hI : Known md ops E G F D Inv) (hGt : ∀ {A B C : World}, G A B → G B C → G A C) (hGr : ∀ A, G A A) (hF : ∀ i v w w', F i v w → G w w' → F i v w') (hQ : ∀ a w, Q a w → Q' .normal a w) :
    ∀ (fuel : Nat) (listed : Array Bool) (a : Act) (w : World) (Φ : World → Prop), G w0 w → Down md ops listed → Inv listed a w → Φ w → (∀ w w', Φ w → G w w' → Φ w') → wpAnyD P md ops E G w0 F Sp D Q tl fuel listed a Φ → wpAny P md ops Q' fuel listed a w
  | 0, _, _, _, _, hw, _, _, hp, _, h => ⟨h.1, hQ _ _ (h.2 _ hw hp)⟩
  | fuel + 1, listed, a, w, Φ, hw, hdn, hin, hp, hst, h => ⟨fun h0 => hQ _ _ (h.1 h0 _ hw hp), fun i hi => by
      by_cases hit : i = tl
      · obtain ⟨h1, h2⟩ := (h.2 i hi).1 hit
        exact wpOp_of_tOp (fun a' w' hq => wpAny_end h1 fuel (hQ _ _ hq)) (h2 w hw hp)
      · have h3 := (h.2 i hi).2 hit
        unfold rOpD at h3
        unfold wpOp
        split
        · rename_i ho
          obtain ⟨_, o, ho2, _⟩ := mem_ready.1 hi
          rw [ho] at ho2
          cases ho2
        · rename_i o ho
          simp only [ho] at h3
          split
          · rename_i hwt
            simp only [hwt, if_true] at h3
            refine .inl ?_
            split at h3
            · rename_i hE
              obtain ⟨he, hk⟩ := h3
              unfold Oper.wp
              refine (he w hw (hI.need _ _ _ _ _ ho hi hwt hin)).upon fun v w' hv => ?_
              exact wpAny_of_wpAnyD hI hGt hGr hF hQ fuel _ _ w' _ (hGt hw hv.1) (hdn.ready hi) (hI.made _ _ _ _ _ _ ho hi hdn hE (hI.keep _ _ _ _ hin hv.1) hv.2.2) ⟨hst _ _ hp hv.1, hv.2.2⟩ (fun x y hx hg => ⟨hst _ _ hx.1 hg, hF _ _ _ _ hx.2 hg⟩) (hk v hv.2.1)
            · rename_i hE
              obtain ⟨v, h1, h2⟩ := h3
              unfold Oper.wp
              rw [h1 w hw]
              exact wpAny_of_wpAnyD hI hGt hGr hF hQ fuel _ _ w Φ hw (hdn.ready hi) (hI.quiet _ _ _ _ _ _ ho hi hdn (.inl (by simpa using hE)) hin) hp hst h2
          · rename_i hwt
            simp only [hwt] at h3
            exact wpAny_of_wpAnyD hI hGt hGr hF hQ fuel _ _ w Φ hw (hdn.ready hi) (hI.quiet _ _ _ _ _ _ ho hi hdn (.inr (by simpa using hwt)) hin) hp hst h3⟩

theorem rOpD_ex (hS : ∀ i, ∃ v, Sp i v) {i : Nat} {K : Act → (World → Prop) → Prop} {a : Act} {Φ : World → Prop} (h : rOpD P ops E G w0 F Sp D i K a Φ) : ∃ a' Φ', K a' Φ' := by
  unfold rOpD at h
  split at h
  · exact ⟨_, _, h⟩
  · split at h
    · split at h
      · obtain ⟨v, hv⟩ := hS i
        exact ⟨_, _, h.2 v hv⟩
      · obtain ⟨v, _, h⟩ := h
        exact ⟨_, _, h⟩
    · exact ⟨_, _, h⟩

theorem wpAnyD_first (hDp : DPut ops D) (hS : ∀ i, ∃ v, Sp i v) {Q : Act → World → Prop} {n tl : Nat} (hr0 : G w0 w0) (htl : Tail md ops n tl) {i : Nat} {oi : Oper} (hi : ops[i]? = some oi) (hit : i ≠ tl)
    (hsel : ∀ (j : Nat) (o : Oper) cs b, ops[j]? = some o → o.op ≠ .select cs b) :
    ∀ (fuel : Nat) (listed : Array Bool) (a : Act) (Φ : World → Prop), Down md ops listed →
      (∀ j oj, ops[j]? = some oj → j ≠ i → listed.getD j true = false → (∀ e ∈ oj.after, Region.binds md e = true → e.on ≠ i) → oi.apart ops oj = true) →
      i ∈ Region.ready md ops listed →
      rOpD P ops E G w0 F Sp D i (wpAnyD P md ops E G w0 F Sp D Q tl fuel (listed.setIfInBounds i true)) a Φ → wpAnyD P md ops E G w0 F Sp D Q tl (fuel + 1) listed a Φ := by
  intro fuel
  induction fuel with
  | zero =>
    intro listed a Φ _ _ hr H
    refine ⟨fun h => (by rw [h] at hr; cases hr), fun j hj => ?_⟩
    by_cases hji : j = i
    · subst hji; exact ⟨fun h => absurd h hit, fun _ => H⟩
    · have := ready_mono hj hji
      obtain ⟨a', w', hK⟩ := rOpD_ex hS H
      rw [hK.1] at this
      cases this
  | succ fuel ih =>
    intro listed a Φ hdn hfree hr H
    refine ⟨fun h => (by rw [h] at hr; cases hr), fun j hj => ?_⟩
    by_cases hji : j = i
    · subst hji; exact ⟨fun h => absurd h hit, fun _ => H⟩
    · obtain ⟨hjun, oj, hoj, hall⟩ := mem_ready.1 hj
      have hiun := (mem_ready.1 hr).1
      have hjt : j ≠ tl := by
        intro hjt
        subst hjt
        have h1 := htl i (Array.getElem?_eq_some_iff.1 hi).1 hit
        rw [dep_ready hdn (getD_true_false hiun) hj n] at h1
        cases h1
      refine ⟨fun h => absurd h hjt, fun _ => ?_⟩
      have hnot : ∀ e ∈ oj.after, Region.binds md e = true → e.on ≠ i := fun e he hb heq => by
        have h1 := hall e he hb
        rw [heq, getD_true_false hiun] at h1
        cases h1
      have hap := hfree j oj hoj hji hjun hnot
      have H1 : rOpD P ops E G w0 F Sp D i (rOpD P ops E G w0 F Sp D j (wpAnyD P md ops E G w0 F Sp D Q tl fuel ((listed.setIfInBounds i true).setIfInBounds j true))) a Φ :=
        rOpD_mono (fun a' Φ' hK => (hK.2 j (ready_mono hj hji)).2 hjt) H
      have H2 := rOpD_comm hDp hS hr0 hi hoj hap (fun cs b => hsel i oi cs b hi) (fun cs b => hsel j oj cs b hoj) (wpAnyD_anti fuel _) H1
      have hfree' : ∀ k ok, ops[k]? = some ok → k ≠ i → (listed.setIfInBounds j true).getD k true = false →
          (∀ e ∈ ok.after, Region.binds md e = true → e.on ≠ i) → oi.apart ops ok = true := fun k ok hk hki hun hno => by
        refine hfree k ok hk hki ?_ hno
        by_cases hjk : j = k
        · subst hjk; exact hjun
        · rw [getD_set_ne true hjk] at hun; exact hun
      refine rOpD_mono (fun a' Φ' h3 => ih (listed.setIfInBounds j true) a' Φ' (hdn.ready hj) hfree' (ready_mono hr (Ne.symm hji)) ?_) H2
      rw [Array.setIfInBounds_comm _ _ hji]
      exact h3

/-- THE WALK IN THE ORDER OF THE TEXT -/
def wpMixD (P : Program) (ops : Array Oper) (E : Nat → Bool) (G : World → World → Prop) (w0 : World) (F : Nat → Value → World → Prop) (Sp : Nat → Value → Prop) (D : Nat → Act → World → Prop) (Q : Act → World → Prop) (tl : Nat) : Nat → List Oper → Act → (World → Prop) → Prop
  | _, [], a, Φ => ∀ w, G w0 w → Φ w → Q a w
  | k, o :: rest, a, Φ =>
    (k = tl → ∀ w, G w0 w → Φ w → if Region.wanted o (yielded ops a.tmps) then o.wp P a w Q NoExit else Q (a.put o.dst undef) w) ∧
    (k ≠ tl → if Region.wanted o (yielded ops a.tmps) then
      if E k then EffD P G w0 (D k a) (fun v w => Sp k v ∧ F k v w) (execOp a.eval o) ∧ ∀ v, Sp k v → wpMixD P ops E G w0 F Sp D Q tl (k + 1) rest (a.put o.dst v) (fun w => Φ w ∧ F k v w)
      else ∃ v, (∀ w2, G w0 w2 → (execOp a.eval o).run P w2 = .ok (.value v) w2) ∧ wpMixD P ops E G w0 F Sp D Q tl (k + 1) rest (a.put o.dst v) Φ
    else wpMixD P ops E G w0 F Sp D Q tl (k + 1) rest (a.put o.dst undef) Φ)

theorem wpAnyD_lex (hDp : DPut ops D) (hS : ∀ i, ∃ v, Sp i v) {Q : Act → World → Prop} {n tl : Nat} (hr0 : G w0 w0) (htl : Tail md ops n tl) (hlast : tl + 1 = ops.size) (hs : Region.noSelect ops = true) :
    ∀ (l : List Oper) (k : Nat) (listed : Array Bool) (a : Act) (Φ : World → Prop), (∀ j, l[j]? = ops[k + j]?) → (∀ j, j < k → listed.getD j true = true) → Down md ops listed →
      Region.lexFrom md ops l.length k listed = true → wpMixD P ops E G w0 F Sp D Q tl k l a Φ → wpAnyD P md ops E G w0 F Sp D Q tl l.length listed a Φ
  | [], _, _, _, _, _, _, _, hB, h => ⟨by simpa [Region.lexFrom] using hB, h⟩
  | o :: l, k, listed, a, Φ, hl, hbf, hdn, hB, h => by
    have h0 : ops[k]? = some o := by simpa using (hl 0).symm
    have hklt : k < ops.size := (Array.getElem?_eq_some_iff.1 h0).1
    simp only [List.length_cons, Region.lexFrom, Bool.and_eq_true] at hB
    obtain ⟨⟨hr, hf⟩, hB'⟩ := hB
    have hr' : k ∈ Region.ready md ops listed := by simpa using hr
    have hbf' : ∀ j, j < k + 1 → (listed.setIfInBounds k true).getD j true = true := fun j hj => by
      by_cases hjk : k = j
      · subst hjk
        cases hg : (listed.setIfInBounds k true).getD k true with
        | true => rfl
        | false =>
          exfalso
          rcases Nat.lt_or_ge k listed.size with h1 | h1
          · simp [h1] at hg
          · simp [h1] at hg
      · rw [getD_set_ne true hjk]; exact hbf j (by omega)
    by_cases hkt : k = tl
    · have hnil : ∀ j, j ∈ Region.ready md ops (listed.setIfInBounds k true) → False := fun j hj => by
        obtain ⟨hun, oj, hoj, _⟩ := mem_ready.1 hj
        have := (Array.getElem?_eq_some_iff.1 hoj).1
        rw [hbf' j (by omega)] at hun
        cases hun
      have hnil' : Region.ready md ops (listed.setIfInBounds k true) = [] := List.eq_nil_iff_forall_not_mem.2 fun j hj => hnil j hj
      refine ⟨fun h1 => (by rw [h1] at hr'; cases hr'), fun i hi => ?_⟩
      have hik : i = k := by
        obtain ⟨hun, oi, hoi, _⟩ := mem_ready.1 hi
        have := (Array.getElem?_eq_some_iff.1 hoi).1
        rcases Nat.lt_or_ge i k with h1 | h1
        · rw [hbf i h1] at hun; cases hun
        · omega
      subst hik
      refine ⟨fun _ => ⟨hnil', fun w hg hw => ?_⟩, fun h1 => absurd hkt h1⟩
      unfold tOp
      rw [h0]
      unfold wpMixD at h
      exact h.1 hkt w hg hw
    · have hm : rOpD P ops E G w0 F Sp D k (wpMixD P ops E G w0 F Sp D Q tl (k + 1) l) a Φ := by
        unfold rOpD
        rw [h0]
        unfold wpMixD at h
        exact h.2 hkt
      refine wpAnyD_first hDp hS hr0 htl h0 hkt (Region.noSelect_spec hs) l.length listed a Φ hdn (Region.free_spec h0 hf) hr' ?_
      exact rOpD_mono (fun a' Φ' hK => wpAnyD_lex hDp hS hr0 htl hlast hs l (k + 1) _ a' Φ' (fun j => by have := hl (j + 1); simpa [Nat.add_assoc, Nat.add_comm 1 j] using this) hbf' (hdn.ready hr') hB' hK) hm

structure MixD (P : Program) (ops : Array Oper) (E : Nat → Bool) (G : World → World → Prop) (w0 : World) (F : Nat → Value → World → Prop) (Sp : Nat → Value → Prop) (D : Nat → Act → World → Prop) (Q : Act → World → Prop) (tl k : Nat) (rest : List Oper) (a : Act) (Φ : World → Prop) : Prop where
  out : wpMixD P ops E G w0 F Sp D Q tl k rest a Φ

/-- whose values an effect takes: operation, effect, the effect's slot -/
abbrev Deps := List (Nat × Nat × Tmp)
def needOf (F : Nat → Value → World → Prop) (deps : Deps) (i : Nat) (a : Act) (w : World) : Prop := ∀ e s, (i, e, s) ∈ deps → F e (a.tmps.getD s undef) w
def invOf (ops : Array Oper) (F : Nat → Value → World → Prop) (deps : Deps) (L : Array Bool) (a : Act) (w : World) : Prop :=
  ∀ i e s, (i, e, s) ∈ deps → s < a.tmps.size ∧ (L.getD e false = true → ∀ oe, ops[e]? = some oe → Region.wanted oe (yielded ops a.tmps) = true → F e (a.tmps.getD s undef) w)
/-- what is asked of such a list -/
structure DepsOk (md : Region.Mode) (ops : Array Oper) (Es : List Nat) (deps : Deps) : Prop where
  ok : ∀ i e s, (i, e, s) ∈ deps → ∃ oi oe, ops[i]? = some oi ∧ ops[e]? = some oe ∧ oe.dst = some s ∧ Es.contains e = true ∧ oi.guard = oe.guard ∧ s ∈ oi.looksAt ops ∧ s ∉ oe.looksAt ops ∧
    (∃ x ∈ oi.after, Region.binds md x = true ∧ x.on = e) ∧
    ∀ k ok d, ops[k]? = some ok → k ≠ e → ok.dst = some d → (d = s ∨ d ∈ oe.looksAt ops) → dep md ops ops.size e k = true

theorem getD_put_other {a : Act} {x : Option Tmp} {v : Value} {s : Tmp} (h : ∀ d, x = some d → d ≠ s) : (a.put x v).tmps.getD s undef = a.tmps.getD s undef := by
  cases x with
  | none => rfl
  | some d =>
    have := h d rfl
    simp [Act.put, Array.getElem?_setIfInBounds_ne this]
theorem size_put (a : Act) (x : Option Tmp) (v : Value) : (a.put x v).tmps.size = a.tmps.size := by
  cases x <;> simp [Act.put]
theorem getD_put_same {a : Act} {v : Value} {s : Tmp} (h : s < a.tmps.size) : (a.put (some s) v).tmps.getD s undef = v := by
  simp [Act.put, h]

theorem known_of {Es : List Nat} {deps : Deps} (hd : DepsOk md ops Es deps) (hF : ∀ i v w w', F i v w → G w w' → F i v w') : Known md ops (fun k => Es.contains k) G F (needOf F deps) (invOf ops F deps) where
  keep L a w w' h hg i e s hm := ⟨(h i e s hm).1, fun hl oe ho hw => hF _ _ _ _ ((h i e s hm).2 hl oe ho hw) hg⟩
  made L a w k o v ho hr hdn hE h hf i e s hm := by
    refine ⟨by rw [size_put]; exact (h i e s hm).1, fun hl oe hoe hw => ?_⟩
    obtain ⟨oi, oe', _, hoe', hdst, _, _, _, hs, _, hk⟩ := hd.ok i e s hm
    rw [hoe] at hoe'
    cases hoe'
    by_cases hke : k = e
    · subst hke
      rw [ho] at hoe
      cases hoe
      rw [hdst, getD_put_same (h i k s hm).1]
      exact hf
    · have hl' : L.getD e false = true := by rwa [getD_set_ne false hke] at hl
      have hun := getD_true_false (mem_ready.1 hr).1
      have hno : ∀ d, o.dst = some d → d ≠ s ∧ d ∉ oe.looksAt ops := fun d hd' => by
        have := fun hx => hk k o d ho hke hd' hx
        have hdl := dep_listed hdn hun ops.size e hl'
        exact ⟨fun hx => (by rw [this (.inl hx)] at hdl; cases hdl), fun hx => (by rw [this (.inr hx)] at hdl; cases hdl)⟩
      rw [getD_put_other fun d hd' => (hno d hd').1]
      rw [wanted_put oe a o.dst v fun d hd' => (hno d hd').2] at hw
      exact (h i e s hm).2 hl' oe hoe hw
  quiet L a w k o v ho hr hdn hE h i e s hm := by
    refine ⟨by rw [size_put]; exact (h i e s hm).1, fun hl oe hoe hw => ?_⟩
    obtain ⟨oi, oe', _, hoe', hdst, hEe, _, _, hs, _, hk⟩ := hd.ok i e s hm
    rw [hoe] at hoe'
    cases hoe'
    by_cases hke : k = e
    · subst hke
      rw [ho] at hoe
      cases hoe
      rcases hE with hE | hE
      · have hE' : Es.contains k = false := hE
        rw [hEe] at hE'
        cases hE'
      · rw [wanted_put o a o.dst v fun d hd' => by rw [hdst] at hd'; cases hd'; exact hs, hE] at hw
        cases hw
    · have hl' : L.getD e false = true := by rwa [getD_set_ne false hke] at hl
      have hun := getD_true_false (mem_ready.1 hr).1
      have hno : ∀ d, o.dst = some d → d ≠ s ∧ d ∉ oe.looksAt ops := fun d hd' => by
        have := fun hx => hk k o d ho hke hd' hx
        have hdl := dep_listed hdn hun ops.size e hl'
        exact ⟨fun hx => (by rw [this (.inl hx)] at hdl; cases hdl), fun hx => (by rw [this (.inr hx)] at hdl; cases hdl)⟩
      rw [getD_put_other fun d hd' => (hno d hd').1]
      rw [wanted_put oe a o.dst v fun d hd' => (hno d hd').2] at hw
      exact (h i e s hm).2 hl' oe hoe hw
  need L a w i o ho hr hw h e s hm := by
    obtain ⟨oi, oe, hoi, hoe, _, _, hgd, _, _, ⟨x, hx, hb, hxe⟩, _⟩ := hd.ok i e s hm
    rw [ho] at hoi
    cases hoi
    obtain ⟨_, o', ho', hall⟩ := mem_ready.1 hr
    rw [ho] at ho'
    cases ho'
    refine (h i e s hm).2 (by rw [← hxe]; exact hall x hx hb) oe hoe ?_
    have : Region.wanted oe (yielded ops a.tmps) = Region.wanted o (yielded ops a.tmps) := by unfold Region.wanted; rw [hgd]
    rw [this, hw]
theorem put_of {Es : List Nat} {deps : Deps} (hd : DepsOk md ops Es deps) : DPut ops (needOf F deps) := by
  intro i o x ho hx a u w
  have key : ∀ e s, (i, e, s) ∈ deps → (a.put x u).tmps.getD s undef = a.tmps.getD s undef := fun e s hm => by
    obtain ⟨oi, _, hoi, _, _, _, _, hl, _⟩ := hd.ok i e s hm
    rw [ho] at hoi
    cases hoi
    exact getD_put_other fun d hd' e' => hx d hd' (by rw [e']; exact hl)
  constructor
  · intro h e s hm
    have := h e s hm
    rwa [key e s hm] at this
  · intro h e s hm
    rw [key e s hm]
    exact h e s hm

/-- the test, by bits -/
def depsB (md : Region.Mode) (ops : Array Oper) (Es : List Nat) (deps : Deps) : Bool :=
  let A := ancAll md ops.toList []
  deps.all fun p => match ops[p.1]?, ops[p.2.1]? with
    | some oi, some oe => oe.dst == some p.2.2 && Es.contains p.2.1 && decide (oi.guard = oe.guard) && (oi.looksAt ops).contains p.2.2 && !((oe.looksAt ops).contains p.2.2) && oi.after.any (fun x => Region.binds md x && x.on == p.2.1) &&
        (List.range ops.size).all fun k => k == p.2.1 || (A.getD p.2.1 0).testBit k || (match (ops[k]?).bind (·.dst) with | some d => !(d == p.2.2) && !((oe.looksAt ops).contains d) | none => true)
    | _, _ => false
theorem depsB_ok {Es : List Nat} {deps : Deps} (h : depsB md ops Es deps = true) : DepsOk md ops Es deps := by
  have hA : AncOk md ops (ancAll md ops.toList []) := anc_all ops.toList [] (fun j i h => by simp at h) (fun j => by simp)
  unfold depsB at h
  simp only [List.all_eq_true] at h
  refine ⟨fun i e s hm => ?_⟩
  have hp := h _ hm
  simp only at hp
  split at hp
  · rename_i oi oe h1 h2
    simp only [Bool.and_eq_true, decide_eq_true_eq, Bool.not_eq_true', List.contains_eq_mem, beq_iff_eq, decide_eq_false_iff_not] at hp
    obtain ⟨⟨⟨⟨⟨⟨p1, p2⟩, p3⟩, p4⟩, p5⟩, p6⟩, p7⟩ := hp
    refine ⟨oi, oe, h1, h2, p1, by simpa using p2, p3, p4, p5, ?_, fun k ok d hk hne hdst hds => ?_⟩
    · obtain ⟨x, hx, hb⟩ := Array.any_eq_true'.1 p6
      simp only [Bool.and_eq_true, beq_iff_eq] at hb
      exact ⟨x, hx, hb.1, hb.2⟩
    · have hks : k < ops.size := (Array.getElem?_eq_some_iff.1 hk).1
      have he : e < ops.size := (Array.getElem?_eq_some_iff.1 h2).1
      have := List.all_eq_true.1 p7 k (List.mem_range.2 hks)
      rw [hk] at this
      simp only [Option.bind_some, hdst, Bool.or_eq_true, beq_iff_eq, Bool.and_eq_true, Bool.not_eq_true', decide_eq_false_iff_not, beq_eq_false_iff_ne] at this
      rcases this with (h3 | h3) | h3
      · exact absurd h3 hne
      · exact dep_mono _ _ _ (hA e k h3).2 _ he
      · rcases hds with h4 | h4
        · exact absurd h4 h3.1
        · exact absurd h4 h3.2
  · cases hp
def tailC (md : Region.Mode) (ops : Array Oper) (tl : Nat) : Bool := let A := ancAll md ops.toList []; (List.range ops.size).all (fun i => i == tl || (A.getD tl 0).testBit i) && tl + 1 == ops.size
theorem tailC_of {tl : Nat} (h : tailC md ops tl = true) : Tail md ops ops.size tl ∧ tl + 1 = ops.size := by
  have hA : AncOk md ops (ancAll md ops.toList []) := anc_all ops.toList [] (fun j i h => by simp at h) (fun j => by simp)
  unfold tailC at h
  simp only [Bool.and_eq_true, List.all_eq_true, beq_iff_eq] at h
  refine ⟨fun i hi hne => ?_, h.2⟩
  have h3 := h.1 i (List.mem_range.2 hi)
  simp only [Bool.or_eq_true, beq_iff_eq] at h3
  rcases h3 with h3 | h3
  · exact absurd h3 hne
  · have := (hA tl i h3).2
    rw [h.2] at this
    exact this

theorem wp_region_mixD {id : Nat} {l : List Oper} (Es : List Nat) (tl : Nat) (G : World → World → Prop) (F : Nat → Value → World → Prop) (Sp : Nat → Value → Prop) (deps : Deps) {Q : Exit → Act → World → Prop} {a : Act} {w : World} (hm : P.follows .mixedOrders = true)
    (hB : (Region.lexB .any l.toArray && tailC .any l.toArray tl && depsB .any l.toArray Es deps) = true) (hsz : ∀ i e s, (i, e, s) ∈ deps → s < a.tmps.size) (hGt : ∀ {A B C : World}, G A B → G B C → G A C) (hGr : ∀ A, G A A) (hF : ∀ i v w w', F i v w → G w w' → F i v w') (hS : ∀ i, ∃ v, Sp i v)
    (h : MixD P l.toArray (fun k => Es.contains k) G w.drew F Sp (needOf F deps) (fun a' w' => Q .normal a' w') tl 0 l a (fun _ => True)) : (Code.region id l.toArray true).wp P Q a w := by
  simp only [Region.lexB, Bool.and_eq_true] at hB
  obtain ⟨⟨hB1, hB2⟩, hB3⟩ := hB
  obtain ⟨ht1, ht2⟩ := tailC_of hB2
  have hd := depsB_ok hB3
  refine wp_region_any hm (wpAny_of_wpAnyD (Q := fun a' w' => Q .normal a' w') (E := fun k => Es.contains k) (tl := tl) (w0 := w.drew) (F := F) (G := G) (Sp := Sp) (known_of hd hF) hGt hGr hF (fun _ _ h => h) _ _ _ _ (fun _ => True) (hGr _) (Down.start _) (fun i e s hm => ⟨hsz i e s hm, fun hl => by
    have : (Array.replicate l.toArray.size false).getD e false = false := by
      rw [Array.getD_eq_getD_getElem?, Array.getElem?_replicate]
      split <;> rfl
    rw [this] at hl
    cases hl⟩) trivial (fun _ _ _ _ => trivial) ?_)
  have := wpAnyD_lex (P := P) (G := G) (F := F) (Sp := Sp) (put_of hd) hS (Q := fun a' w' => Q .normal a' w') (md := .any) (hGr w.drew) ht1 ht2 hB1.1 l 0 (Array.replicate l.toArray.size false) a (fun _ => True) (by simp) (fun j hj => by omega) (Down.start _) (by simpa using hB1.2) h.out
  simpa using this

section
variable {Es : List Nat} {Q : Act → World → Prop} {o : Oper} {rest : List Oper} {a : Act} {k tl : Nat} {Φ : World → Prop}

theorem mixD_step (hk : (Es.contains k || k == tl) = false) (h : ∀ K : Act → Prop, (∀ a, MixD P ops (fun k => Es.contains k) G w0 F Sp D Q tl (k + 1) rest a Φ → K a) →
      if Region.wanted o (yielded ops a.tmps) then ∃ v, (∀ w2 : Subtype (G w0), (execOp a.eval o).run P w2.1 = .ok (.value v) w2.1) ∧ K (a.put o.dst v) else K (a.put o.dst undef)) :
    MixD P ops (fun k => Es.contains k) G w0 F Sp D Q tl k (o :: rest) a Φ := by
  have := h (fun a => wpMixD P ops (fun k => Es.contains k) G w0 F Sp D Q tl (k + 1) rest a Φ) (fun _ h => h.out)
  rw [Bool.or_eq_false_iff] at hk
  have hkt : k ≠ tl := by simpa using hk.2
  refine ⟨?_⟩
  unfold wpMixD
  refine ⟨fun h => absurd h hkt, fun _ => ?_⟩
  simp only [hk.1]
  split
  · rename_i hw
    rw [if_pos hw] at this
    obtain ⟨v, h1, h2⟩ := this
    exact ⟨v, fun w2 hw2 => h1 ⟨w2, hw2⟩, h2⟩
  · rename_i hw
    rw [if_neg hw] at this
    exact this

/-- an effect that is made -/
theorem mixD_eff (hk : (Es.contains k && !(k == tl)) = true) (hw : Region.wanted o (yielded ops a.tmps) = true) (he : ∀ w, G w0 w → D k a w → EffR P (fun v w' => G w w' ∧ Sp k v ∧ F k v w') ((execOp a.eval o).run P w))
    (h : ∀ v, Sp k v → MixD P ops (fun k => Es.contains k) G w0 F Sp D Q tl (k + 1) rest (a.put o.dst v) (fun w => Φ w ∧ F k v w)) :
    MixD P ops (fun k => Es.contains k) G w0 F Sp D Q tl k (o :: rest) a Φ := by
  rw [Bool.and_eq_true] at hk
  have hkt : k ≠ tl := by simpa using hk.2
  refine ⟨?_⟩
  unfold wpMixD
  refine ⟨fun h => absurd h hkt, fun _ => ?_⟩
  simp only [hk.1, hw, if_true]
  exact ⟨he, fun v hv => (h v hv).out⟩

/-- the last one -/
theorem mixD_last (hk : (k == tl) = true) (h : ∀ w, G w0 w → Φ w → ∀ K : Act → World → Prop, (∀ a w, Q a w → K a w) →
      if Region.wanted o (yielded ops a.tmps) then o.wp P a w K NoExit else K (a.put o.dst undef) w) :
    MixD P ops (fun k => Es.contains k) G w0 F Sp D Q tl k [o] a Φ := by
  have hkt : k = tl := by simpa using hk
  refine ⟨?_⟩
  unfold wpMixD
  exact ⟨fun _ w hg hw => h w hg hw Q (fun _ _ h => h), fun h => absurd hkt h⟩
end
end
end Go.Mix
