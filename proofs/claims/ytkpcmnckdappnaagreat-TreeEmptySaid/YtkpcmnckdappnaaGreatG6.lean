/- Merged texts of the seat, in their order: OrdE, TrG, TrK, TrM, TrN, TrO. -/
import Derived.Test.YtkpcmnckdappnaaGreatG3
import Derived.Test.YtkpcmnckdappnaaGreatG4
import Derived.Test.YtkpcmnckdappnaaGreatG5
import Derived.Deep.QuietTactic
/- A region whose order is left open, with several effects that need not wait for one another, each of which may lean on what the effects whose values it takes have left, and a tail: from an operation on each waits for all ahead of it (stores, assignments). No conditions beside. -/
namespace Go.Mix
open Go
section
variable {P : Program} {ops : Array Oper} {md : Region.Mode} {E : Nat → Bool} {G : World → World → Prop} {w0 : World} {F : Nat → Value → World → Prop} {Sp : Nat → Value → Prop} {D : Nat → Act → World → Prop} {T : Nat → Bool}

def wpAnyE (P : Program) (md : Region.Mode) (ops : Array Oper) (E T : Nat → Bool) (G : World → World → Prop) (w0 : World) (F : Nat → Value → World → Prop) (Sp : Nat → Value → Prop) (D : Nat → Act → World → Prop) (Q : Act → World → Prop) (tl : Nat) : Nat → Array Bool → Act → (World → Prop) → Prop
  | 0, listed, a, Φ => Region.ready md ops listed = [] ∧ ∀ w, G w0 w → Φ w → Q a w
  | fuel + 1, listed, a, Φ =>
    (Region.ready md ops listed = [] → ∀ w, G w0 w → Φ w → Q a w) ∧
    ∀ i ∈ Region.ready md ops listed, (i = tl → ∀ w, G w0 w → Φ w → mOp P ops T (fun _ => True) i (wpAnyM P md ops T (fun _ => True) Q fuel (listed.setIfInBounds i true)) a w) ∧
      (i ≠ tl → rOpD P ops E G w0 F Sp D i (wpAnyE P md ops E T G w0 F Sp D Q tl fuel (listed.setIfInBounds i true)) a Φ)

theorem wpAnyE_anti {Q : Act → World → Prop} {tl : Nat} : ∀ (fuel : Nat) (listed : Array Bool), Anti (wpAnyE P md ops E T G w0 F Sp D Q tl fuel listed)
  | 0, _ => fun _ _ _ h hi => ⟨h.1, fun w hg hw => h.2 w hg (hi w hw)⟩
  | fuel + 1, _ => fun _ _ _ h hi => ⟨fun h0 w hg hw => h.1 h0 w hg (hi w hw), fun i hir => ⟨fun hit w hg hw => (h.2 i hir).1 hit w hg (hi w hw),
      fun hit => rOpD_anti (wpAnyE_anti fuel _) _ _ _ ((h.2 i hir).2 hit) hi⟩⟩

theorem wpAny_of_wpAnyE {Q : Act → World → Prop} {Q' : Exit → Act → World → Prop} {tl : Nat} {Inv : Array Bool → Act → World → Prop} (hI : Known md ops E G F D Inv) (hGt : ∀ {A B C : World}, G A B → G B C → G A C) (hGr : ∀ A, G A A) (hF : ∀ i v w w', F i v w → G w w' → F i v w') (hQ : ∀ a w, Q a w → Q' .normal a w) :
    ∀ (fuel : Nat) (listed : Array Bool) (a : Act) (w : World) (Φ : World → Prop), G w0 w → Down md ops listed → Inv listed a w → Φ w → (∀ w w', Φ w → G w w' → Φ w') → wpAnyE P md ops E T G w0 F Sp D Q tl fuel listed a Φ → wpAny P md ops Q' fuel listed a w
  | 0, _, _, _, _, hw, _, _, hp, _, h => ⟨h.1, hQ _ _ (h.2 _ hw hp)⟩
  | fuel + 1, listed, a, w, Φ, hw, hdn, hin, hp, hst, h => ⟨fun h0 => hQ _ _ (h.1 h0 _ hw hp), fun i hi => by
      by_cases hit : i = tl
      · exact wpOp_of_mOp (C := fun _ => True) trivial (fun a' w' hw' hk => wpAny_of_wpAnyM (C := fun _ => True) (fun a w _ hq => hQ a w hq) fuel _ a' w' hw' hk) ((h.2 i hi).1 hit w hw hp)
      · have h3 := (h.2 i hi).2 hit
        unfold rOpD at h3
        unfold wpOp
        split
        · rename_i ho
          obtain ⟨_, o, ho2, _⟩ := mem_ready.1 hi
          rw [ho] at ho2
          cases ho2
        · rename_i o ho
          simp only [ho] at h3
          split
          · rename_i hwt
            simp only [hwt, if_true] at h3
            refine .inl ?_
            split at h3
            · rename_i hE
              obtain ⟨he, hk⟩ := h3
              unfold Oper.wp
              refine (he w hw (hI.need _ _ _ _ _ ho hi hwt hin)).upon fun v w' hv => ?_
              exact wpAny_of_wpAnyE hI hGt hGr hF hQ fuel _ _ w' _ (hGt hw hv.1) (hdn.ready hi) (hI.made _ _ _ _ _ _ ho hi hdn hE (hI.keep _ _ _ _ hin hv.1) hv.2.2) ⟨hst _ _ hp hv.1, hv.2.2⟩ (fun x y hx hg => ⟨hst _ _ hx.1 hg, hF _ _ _ _ hx.2 hg⟩) (hk v hv.2.1)
            · rename_i hE
              obtain ⟨v, h1, h2⟩ := h3
              unfold Oper.wp
              rw [h1 w hw]
              exact wpAny_of_wpAnyE hI hGt hGr hF hQ fuel _ _ w Φ hw (hdn.ready hi) (hI.quiet _ _ _ _ _ _ ho hi hdn (.inl (by simpa using hE)) hin) hp hst h2
          · rename_i hwt
            simp only [hwt] at h3
            exact wpAny_of_wpAnyE hI hGt hGr hF hQ fuel _ _ w Φ hw (hdn.ready hi) (hI.quiet _ _ _ _ _ _ ho hi hdn (.inr (by simpa using hwt)) hin) hp hst h3⟩

/-- the tail's first waits for all ahead of it but the free ones, all behind it wait for it -/
structure TailE (md : Region.Mode) (ops : Array Oper) (E T Qs : Nat → Bool) (n tl : Nat) : Prop where
  lo : ∀ i, i < tl → dep md ops n tl i = true ∨ (Qs i = true ∧ E i = false ∧ T i = false)
  hi : ∀ i, tl < i → i < ops.size → dep md ops n i tl = true
/-- quiet in whatever world -/
def SQ (P : Program) (ops : Array Oper) (o : Oper) (a : Act) : Prop := Region.wanted o (yielded ops a.tmps) = true → ∃ v, ∀ w, (execOp a.eval o).run P w = .ok (.value v) w
theorem SQ.put {o : Oper} {a : Act} (h : SQ P ops o a) (hsel : ∀ cs b, o.op ≠ .select cs b) {x : Option Tmp} (h1 : ∀ d, x = some d → d ∉ o.looksAt ops) (u : Value) : SQ P ops o (a.put x u) := by
  unfold SQ at *
  rw [execOp_put (ops := ops) o hsel a x u h1, wanted_put o a x u h1]
  exact h
theorem rOpD_mono' {i : Nat} {o : Oper} (ho : ops[i]? = some o) {K K' : Act → (World → Prop) → Prop} {a : Act} {Φ : World → Prop} (h : ∀ v Φ, K (a.put o.dst v) Φ → K' (a.put o.dst v) Φ) (hh : rOpD P ops E G w0 F Sp D i K a Φ) : rOpD P ops E G w0 F Sp D i K' a Φ := by
  unfold rOpD at *
  rw [ho] at hh ⊢
  simp only at hh ⊢
  split
  · rename_i hw
    simp only [hw, if_true] at hh
    split
    · rename_i hE
      simp only [hE, if_true] at hh
      exact ⟨hh.1, fun v hv => h _ _ (hh.2 v hv)⟩
    · rename_i hE
      simp only [hE] at hh
      obtain ⟨v, h1, h2⟩ := hh
      exact ⟨v, h1, h _ _ h2⟩
  · rename_i hw
    simp only [hw] at hh
    exact h _ _ hh

theorem wpAnyE_first {Qs : Nat → Bool} (hDp : DPut ops D) (hS : ∀ i, ∃ v, Sp i v) {Q : Act → World → Prop} {n tl : Nat} (hr0 : G w0 w0) (htl : TailE md ops E T Qs n tl) (hch : Chain md ops T n) {i : Nat} {oi : Oper} (hi : ops[i]? = some oi) (hit : i < tl)
    (hsel : ∀ (j : Nat) (o : Oper) cs b, ops[j]? = some o → o.op ≠ .select cs b) :
    ∀ (fuel : Nat) (listed : Array Bool) (a : Act) (Φ : World → Prop), (Qs i = true → SQ P ops oi a) → Down md ops listed →
      (∀ j oj, ops[j]? = some oj → j ≠ i → listed.getD j true = false → (∀ e ∈ oj.after, Region.binds md e = true → e.on ≠ i) → oi.apart ops oj = true) →
      i ∈ Region.ready md ops listed →
      rOpD P ops E G w0 F Sp D i (wpAnyE P md ops E T G w0 F Sp D Q tl fuel (listed.setIfInBounds i true)) a Φ → wpAnyE P md ops E T G w0 F Sp D Q tl (fuel + 1) listed a Φ := by
  intro fuel
  induction fuel with
  | zero =>
    intro listed a Φ _ _ _ hr H
    refine ⟨fun h => (by rw [h] at hr; cases hr), fun j hj => ?_⟩
    by_cases hji : j = i
    · subst hji; exact ⟨fun h => absurd h (by omega), fun _ => H⟩
    · have := ready_mono hj hji
      obtain ⟨a', w', hK⟩ := rOpD_ex hS H
      rw [hK.1] at this
      cases this
  | succ fuel ih =>
    intro listed a Φ hsq hdn hfree hr H
    refine ⟨fun h => (by rw [h] at hr; cases hr), fun j hj => ?_⟩
    by_cases hji : j = i
    · subst hji; exact ⟨fun h => absurd h (by omega), fun _ => H⟩
    · obtain ⟨hjun, oj, hoj, hall⟩ := mem_ready.1 hj
      have hiun := (mem_ready.1 hr).1
      have hnot : ∀ e ∈ oj.after, Region.binds md e = true → e.on ≠ i := fun e he hb heq => by
        have h1 := hall e he hb
        rw [heq, getD_true_false hiun] at h1
        cases h1
      have hap := hfree j oj hoj hji hjun hnot
      have hfree' : ∀ k ok, ops[k]? = some ok → k ≠ i → (listed.setIfInBounds j true).getD k true = false →
          (∀ e ∈ ok.after, Region.binds md e = true → e.on ≠ i) → oi.apart ops ok = true := fun k ok hk hki hun hno => by
        refine hfree k ok hk hki ?_ hno
        by_cases hjk : j = k
        · subst hjk; exact hjun
        · rw [getD_set_ne true hjk] at hun; exact hun
      by_cases hjt : j = tl
      · subst hjt
        refine ⟨fun _ w hg hw => ?_, fun h => absurd rfl h⟩
        rcases htl.lo i hit with h1 | ⟨hqi, hEi, hTi⟩
        · exfalso
          rw [dep_ready hdn (getD_true_false hiun) hj n] at h1
          cases h1
        · have H1 : mOp P ops T (fun _ => True) i (mOp P ops T (fun _ => True) j (wpAnyM P md ops T (fun _ => True) Q fuel ((listed.setIfInBounds i true).setIfInBounds j true))) a w := by
            have hs := hsq hqi
            unfold rOpD at H
            rw [hi] at H
            simp only [hEi, Bool.false_eq_true, if_false] at H
            unfold mOp
            rw [hi]
            simp only [hTi, Bool.false_eq_true, if_false]
            split
            · rename_i hwt
              rw [if_pos hwt] at H
              obtain ⟨v, hv, hK⟩ := H
              obtain ⟨v', hv'⟩ := hs hwt
              have e := (hv w hg).symm.trans (hv' w)
              simp only [Result.ok.injEq, Next.value.injEq, and_true] at e
              subst e
              exact ⟨v, fun w2 _ => hv' w2, (hK.2 j (ready_mono hj hji)).1 rfl w hg hw⟩
            · rename_i hwt
              rw [if_neg hwt] at H
              exact (H.2 j (ready_mono hj hji)).1 rfl w hg hw
          have H2 := mOp_comm hi hoj hap (fun cs b => hsel i oi cs b hi) (fun cs b => hsel j oj cs b hoj) (by rw [hTi]; simp) trivial H1
          refine mOp_mono (C := fun _ => True) trivial (fun a' w' hw' h3 => wpAnyM_first hch hi hsel fuel (listed.setIfInBounds j true) a' w' (hdn.ready hj) trivial hfree' (ready_mono hr (Ne.symm hji)) ?_) H2
          rw [Array.setIfInBounds_comm _ _ hji]
          exact h3
      refine ⟨fun h => absurd h hjt, fun _ => ?_⟩
      have H1 : rOpD P ops E G w0 F Sp D i (rOpD P ops E G w0 F Sp D j (wpAnyE P md ops E T G w0 F Sp D Q tl fuel ((listed.setIfInBounds i true).setIfInBounds j true))) a Φ :=
        rOpD_mono (fun a' Φ' hK => (hK.2 j (ready_mono hj hji)).2 hjt) H
      have H2 := rOpD_comm hDp hS hr0 hi hoj hap (fun cs b => hsel i oi cs b hi) (fun cs b => hsel j oj cs b hoj) (wpAnyE_anti fuel _) H1
      obtain ⟨_, _, hap3⟩ := Oper.apart_spec hap
      refine rOpD_mono' hoj (fun v Φ' h3 => ih (listed.setIfInBounds j true) _ Φ' (fun hq => (hsq hq).put (fun cs b => hsel i oi cs b hi) hap3 v) (hdn.ready hj) hfree' (ready_mono hr (Ne.symm hji)) ?_) H2
      rw [Array.setIfInBounds_comm _ _ hji]
      exact h3

/-- THE WALK IN THE ORDER OF THE TEXT -/
def wpMixE (P : Program) (ops : Array Oper) (E T Qs : Nat → Bool) (G : World → World → Prop) (w0 : World) (F : Nat → Value → World → Prop) (Sp : Nat → Value → Prop) (D : Nat → Act → World → Prop) (Q : Act → World → Prop) (tl : Nat) : Nat → List Oper → Act → (World → Prop) → Prop
  | _, [], a, Φ => ∀ w, G w0 w → Φ w → Q a w
  | k, o :: rest, a, Φ =>
    (k = tl → ∀ w, G w0 w → Φ w → wpMix P ops T (fun _ => True) Q k (o :: rest) a w) ∧
    (k < tl → (Qs k = true → SQ P ops o a) ∧ if Region.wanted o (yielded ops a.tmps) then
      if E k then EffD P G w0 (D k a) (fun v w => Sp k v ∧ F k v w) (execOp a.eval o) ∧ ∀ v, Sp k v → wpMixE P ops E T Qs G w0 F Sp D Q tl (k + 1) rest (a.put o.dst v) (fun w => Φ w ∧ F k v w)
      else ∃ v, (∀ w2, G w0 w2 → (execOp a.eval o).run P w2 = .ok (.value v) w2) ∧ wpMixE P ops E T Qs G w0 F Sp D Q tl (k + 1) rest (a.put o.dst v) Φ
    else wpMixE P ops E T Qs G w0 F Sp D Q tl (k + 1) rest (a.put o.dst undef) Φ)

theorem listed_nextE {k : Nat} {listed : Array Bool} (hbf : ∀ j, j < k → listed.getD j true = true) : ∀ j, j < k + 1 → (listed.setIfInBounds k true).getD j true = true := fun j hj => by
  by_cases hjk : k = j
  · subst hjk
    cases hg : (listed.setIfInBounds k true).getD k true with
    | true => rfl
    | false =>
      exfalso
      rcases Nat.lt_or_ge k listed.size with h1 | h1
      · simp [h1] at hg
      · simp [h1] at hg
  · rw [getD_set_ne true hjk]; exact hbf j (by omega)

theorem wpAnyE_lex {Qs : Nat → Bool} (hDp : DPut ops D) (hS : ∀ i, ∃ v, Sp i v) {Q : Act → World → Prop} {n tl : Nat} (hr0 : G w0 w0) (htl : TailE md ops E T Qs n tl) (hch : Chain md ops T n) (hs : Region.noSelect ops = true) :
    ∀ (l : List Oper) (k : Nat) (listed : Array Bool) (a : Act) (Φ : World → Prop), k ≤ tl → tl < k + l.length → (∀ j, l[j]? = ops[k + j]?) → (∀ j, j < k → listed.getD j true = true) → Down md ops listed →
      Region.lexFrom md ops l.length k listed = true → wpMixE P ops E T Qs G w0 F Sp D Q tl k l a Φ → wpAnyE P md ops E T G w0 F Sp D Q tl l.length listed a Φ
  | [], k, _, _, _, h1, h2, _, _, _, _, _ => by simp at h2; omega
  | o :: l, k, listed, a, Φ, hk1, hk2, hl, hbf, hdn, hB, h => by
    have h0 : ops[k]? = some o := by simpa using (hl 0).symm
    have hB0 := hB
    simp only [List.length_cons, Region.lexFrom, Bool.and_eq_true] at hB
    obtain ⟨⟨hr, hf⟩, hB'⟩ := hB
    have hr' : k ∈ Region.ready md ops listed := by simpa using hr
    by_cases hkt : k = tl
    · refine ⟨fun h1 => (by rw [h1] at hr'; cases hr'), fun i hi => ?_⟩
      have hik : i = k := by
        obtain ⟨hun, oi, hoi, _⟩ := mem_ready.1 hi
        have hilt := (Array.getElem?_eq_some_iff.1 hoi).1
        rcases Nat.lt_trichotomy i k with h1 | h1 | h1
        · rw [hbf i h1] at hun; cases hun
        · exact h1
        · exfalso
          have h2 := htl.hi i (by omega) hilt
          have hkun := (mem_ready.1 hr').1
          rw [← hkt, dep_ready hdn (getD_true_false hkun) hi n] at h2
          cases h2
      subst hik
      refine ⟨fun _ w hg hw => ?_, fun h1 => absurd hkt h1⟩
      unfold wpMixE at h
      have := wpAnyM_lex (md := md) (C := fun _ => True) hch hs (o :: l) i listed a w hl hdn trivial hB0 (h.1 hkt w hg hw)
      exact this.2 i hi
    · have hklt : k < tl := by omega
      have hm : rOpD P ops E G w0 F Sp D k (wpMixE P ops E T Qs G w0 F Sp D Q tl (k + 1) l) a Φ := by
        unfold rOpD
        rw [h0]
        unfold wpMixE at h
        exact (h.2 hklt).2
      have hsq : Qs k = true → SQ P ops o a := by
        unfold wpMixE at h
        exact (h.2 hklt).1
      refine wpAnyE_first hDp hS hr0 htl hch h0 hklt (Region.noSelect_spec hs) l.length listed a Φ hsq hdn (Region.free_spec h0 hf) hr' ?_
      exact rOpD_mono (fun a' Φ' hK => wpAnyE_lex hDp hS hr0 htl hch hs l (k + 1) _ a' Φ' (by omega) (by simp at hk2; omega) (fun j => by have := hl (j + 1); simpa [Nat.add_assoc, Nat.add_comm 1 j] using this) (listed_nextE hbf) (hdn.ready hr') hB' hK) hm

structure MixE (P : Program) (ops : Array Oper) (E T Qs : Nat → Bool) (G : World → World → Prop) (w0 : World) (F : Nat → Value → World → Prop) (Sp : Nat → Value → Prop) (D : Nat → Act → World → Prop) (Q : Act → World → Prop) (tl k : Nat) (rest : List Oper) (a : Act) (Φ : World → Prop) : Prop where
  out : wpMixE P ops E T Qs G w0 F Sp D Q tl k rest a Φ

def tailE (md : Region.Mode) (ops : Array Oper) (Es Ts Qs : List Nat) (tl : Nat) : Bool := let A := ancAll md ops.toList []; (List.range tl).all (fun i => (A.getD tl 0).testBit i || (Qs.contains i && !Es.contains i && !Ts.contains i)) && (List.range ops.size).all (fun i => decide (i ≤ tl) || (A.getD i 0).testBit tl) && decide (tl < ops.size)
theorem tailE_of {Es Ts Qs : List Nat} {tl : Nat} (h : tailE md ops Es Ts Qs tl = true) : TailE md ops (fun k => Es.contains k) (fun k => Ts.contains k) (fun k => Qs.contains k) ops.size tl ∧ tl < ops.size := by
  have hA : AncOk md ops (ancAll md ops.toList []) := anc_all ops.toList [] (fun j i h => by simp at h) (fun j => by simp)
  unfold tailE at h
  simp only [Bool.and_eq_true, List.all_eq_true, decide_eq_true_eq, Bool.or_eq_true, Bool.not_eq_true'] at h
  obtain ⟨⟨h1, h2⟩, h3⟩ := h
  refine ⟨⟨fun i hi => ?_, fun i hi hs => ?_⟩, h3⟩
  · rcases h1 i (List.mem_range.2 hi) with h4 | ⟨⟨h4, h5⟩, h6⟩
    · exact .inl (dep_mono _ _ _ (hA tl i h4).2 _ (by omega))
    · exact .inr ⟨h4, h5, h6⟩
  · rcases h2 i (List.mem_range.2 hs) with h4 | h4
    · omega
    · exact dep_mono _ _ _ (hA i tl h4).2 _ (by omega)

theorem wp_region_mixE {id : Nat} {l : List Oper} (Es Ts Qs : List Nat) (tl : Nat) (G : World → World → Prop) (F : Nat → Value → World → Prop) (Sp : Nat → Value → Prop) (deps : Deps) {Q : Exit → Act → World → Prop} {a : Act} {w : World} (hm : P.follows .mixedOrders = true)
    (hB : (Region.lexB .any l.toArray && tailE .any l.toArray Es Ts Qs tl && depsB .any l.toArray Es deps && chainC .any l.toArray Ts) = true) (hsz : ∀ i e s, (i, e, s) ∈ deps → s < a.tmps.size) (hGt : ∀ {A B C : World}, G A B → G B C → G A C) (hGr : ∀ A, G A A) (hF : ∀ i v w w', F i v w → G w w' → F i v w') (hS : ∀ i, ∃ v, Sp i v)
    (h : MixE P l.toArray (fun k => Es.contains k) (fun k => Ts.contains k) (fun k => Qs.contains k) G w.drew F Sp (needOf F deps) (fun a' w' => Q .normal a' w') tl 0 l a (fun _ => True)) : (Code.region id l.toArray true).wp P Q a w := by
  simp only [Region.lexB, Bool.and_eq_true] at hB
  obtain ⟨⟨⟨hB1, hB2⟩, hB3⟩, hB4⟩ := hB
  obtain ⟨ht1, ht2⟩ := tailE_of hB2
  have hd := depsB_ok hB3
  refine wp_region_any hm (wpAny_of_wpAnyE (Q := fun a' w' => Q .normal a' w') (E := fun k => Es.contains k) (T := fun k => Ts.contains k) (tl := tl) (w0 := w.drew) (F := F) (G := G) (Sp := Sp) (known_of hd hF) hGt hGr hF (fun _ _ h => h) _ _ _ _ (fun _ => True) (hGr _) (Down.start _) (fun i e s hm => ⟨hsz i e s hm, fun hl => by
    have : (Array.replicate l.toArray.size false).getD e false = false := by
      rw [Array.getD_eq_getD_getElem?, Array.getElem?_replicate]
      split <;> rfl
    rw [this] at hl
    cases hl⟩) trivial (fun _ _ _ _ => trivial) ?_)
  have := wpAnyE_lex (P := P) (G := G) (F := F) (Sp := Sp) (put_of hd) hS (Q := fun a' w' => Q .normal a' w') (md := .any) (hGr w.drew) ht1 (chainC_of hB4) hB1.1 l 0 (Array.replicate l.toArray.size false) a (fun _ => True) (Nat.zero_le _) (by simpa using ht2) (by simp) (fun j hj => by omega) (Down.start _) (by simpa using hB1.2) h.out
  simpa using this

section
variable {Es Ts Qs : List Nat} {Q : Act → World → Prop} {o : Oper} {rest : List Oper} {a : Act} {k tl : Nat} {Φ : World → Prop}

theorem mixE_step (hk : (Es.contains k || (Qs.contains k || !decide (k < tl))) = false) (h : ∀ K : Act → Prop, (∀ a, MixE P ops (fun k => Es.contains k) (fun k => Ts.contains k) (fun k => Qs.contains k) G w0 F Sp D Q tl (k + 1) rest a Φ → K a) →
      if Region.wanted o (yielded ops a.tmps) then ∃ v, (∀ w2 : Subtype (G w0), (execOp a.eval o).run P w2.1 = .ok (.value v) w2.1) ∧ K (a.put o.dst v) else K (a.put o.dst undef)) :
    MixE P ops (fun k => Es.contains k) (fun k => Ts.contains k) (fun k => Qs.contains k) G w0 F Sp D Q tl k (o :: rest) a Φ := by
  have := h (fun a => wpMixE P ops (fun k => Es.contains k) (fun k => Ts.contains k) (fun k => Qs.contains k) G w0 F Sp D Q tl (k + 1) rest a Φ) (fun _ h => h.out)
  rw [Bool.or_eq_false_iff, Bool.or_eq_false_iff] at hk
  have hkt : k < tl := by simpa using hk.2.2
  refine ⟨?_⟩
  unfold wpMixE
  refine ⟨fun h => by omega, fun _ => ⟨fun h => (by rw [hk.2.1] at h; cases h), ?_⟩⟩
  simp only [hk.1]
  split
  · rename_i hw
    rw [if_pos hw] at this
    obtain ⟨v, h1, h2⟩ := this
    exact ⟨v, fun w2 hw2 => h1 ⟨w2, hw2⟩, h2⟩
  · rename_i hw
    rw [if_neg hw] at this
    exact this

/-- a free one: quiet in whatever world -/
theorem mixE_free (hk : (Es.contains k || !decide (k < tl)) = false) (h : ∀ K : Act → Prop, (∀ a, MixE P ops (fun k => Es.contains k) (fun k => Ts.contains k) (fun k => Qs.contains k) G w0 F Sp D Q tl (k + 1) rest a Φ → K a) →
      if Region.wanted o (yielded ops a.tmps) then ∃ v, (∀ w2 : World, (execOp a.eval o).run P w2 = .ok (.value v) w2) ∧ K (a.put o.dst v) else K (a.put o.dst undef)) :
    MixE P ops (fun k => Es.contains k) (fun k => Ts.contains k) (fun k => Qs.contains k) G w0 F Sp D Q tl k (o :: rest) a Φ := by
  have := h (fun a => wpMixE P ops (fun k => Es.contains k) (fun k => Ts.contains k) (fun k => Qs.contains k) G w0 F Sp D Q tl (k + 1) rest a Φ) (fun _ h => h.out)
  rw [Bool.or_eq_false_iff] at hk
  have hkt : k < tl := by simpa using hk.2
  refine ⟨?_⟩
  unfold wpMixE
  refine ⟨fun h => by omega, fun _ => ⟨fun _ hw => ?_, ?_⟩⟩
  · rw [if_pos hw] at this
    obtain ⟨v, h1, _⟩ := this
    exact ⟨v, h1⟩
  · simp only [hk.1]
    split
    · rename_i hw
      rw [if_pos hw] at this
      obtain ⟨v, h1, h2⟩ := this
      exact ⟨v, fun w2 _ => h1 w2, h2⟩
    · rename_i hw
      rw [if_neg hw] at this
      exact this

/-- an effect that is made -/
theorem mixE_eff (hk : (Es.contains k && (!Qs.contains k && decide (k < tl))) = true) (hw : Region.wanted o (yielded ops a.tmps) = true) (he : ∀ w, G w0 w → D k a w → EffR P (fun v w' => G w w' ∧ Sp k v ∧ F k v w') ((execOp a.eval o).run P w))
    (h : ∀ v, Sp k v → MixE P ops (fun k => Es.contains k) (fun k => Ts.contains k) (fun k => Qs.contains k) G w0 F Sp D Q tl (k + 1) rest (a.put o.dst v) (fun w => Φ w ∧ F k v w)) :
    MixE P ops (fun k => Es.contains k) (fun k => Ts.contains k) (fun k => Qs.contains k) G w0 F Sp D Q tl k (o :: rest) a Φ := by
  rw [Bool.and_eq_true, Bool.and_eq_true, Bool.not_eq_true'] at hk
  have hkt : k < tl := by simpa using hk.2.2
  refine ⟨?_⟩
  unfold wpMixE
  refine ⟨fun h => by omega, fun _ => ⟨fun h => (by rw [hk.2.1] at h; cases h), ?_⟩⟩
  simp only [hk.1, hw, if_true]
  exact ⟨he, fun v hv => (h v hv).out⟩

/-- the tail: walked on by 'mix_eff', 'mix_step' and 'mix_nil' -/
theorem mixE_tail (hk : k = tl) (h : ∀ w, G w0 w → Φ w → MixG P ops (fun k => Ts.contains k) (fun _ => True) Q k (o :: rest) a w) :
    MixE P ops (fun k => Es.contains k) (fun k => Ts.contains k) (fun k => Qs.contains k) G w0 F Sp D Q tl k (o :: rest) a Φ := by
  refine ⟨?_⟩
  unfold wpMixE
  exact ⟨fun _ w hg hw => (h w hg hw).out, fun h => by omega⟩
end
end
end Go.Mix

/- Tree: slices.Clone whose result is one's own; own. -/
namespace Go.Proofs.YtkpcmnckdappnaaGreat
open Go.RowKit Go.Sort Go.Lib
set_option maxRecDepth 100000
set_option linter.unusedVariables false
set_option linter.unusedSimpArgs false

theorem owns_lower {w : World} {B B' e sz n : Nat} {v : Value} {xs : List Value} (h : w.ownsRow B e sz v n xs) (hb : B' ≤ B) : w.ownsRow B' e sz v n xs := by
  obtain ⟨h1, h2⟩ := h
  refine ⟨h1, ?_⟩
  rcases h2 with h2 | ⟨g, cap, cur, a1, a2, a3⟩
  · exact .inl h2
  · exact .inr ⟨g, cap, cur, a1, Nat.le_trans hb a2, a3⟩
theorem owns_setCell {w : World} {B e sz n : Nat} {v : Value} {xs : List Value} (h : w.ownsRow B e sz v n xs) {p : Addr} (hp : p.block < B) (u : Value) : (w.setCell p u).ownsRow B e sz v n xs := by
  obtain ⟨h1, h2⟩ := h
  refine ⟨h1, ?_⟩
  rcases h2 with h2 | ⟨g, cap, cur, a1, a2, a3, a4⟩
  · exact .inl h2
  · exact .inr ⟨g, cap, cur, a1, a2, (heap_setCell_other w p g u (by omega)).trans a3, a4⟩
theorem owns_setRow {w : World} {B e sz n k : Nat} {v : Value} {xs : List Value} (h : w.ownsRow B e sz v n xs) (hk : k < B) (new : Array Value) : (w.setRow k new).ownsRow B e sz v n xs := by
  obtain ⟨h1, h2⟩ := h
  refine ⟨h1, ?_⟩
  rcases h2 with h2 | ⟨g, cap, cur, a1, a2, a3, a4⟩
  · exact .inl h2
  · exact .inr ⟨g, cap, cur, a1, a2, (setRow_other w k g new (by omega)).trans a3, a4⟩
theorem run_app0o {P : Program} {t e sz bytes : Nat} (ei : EI P t e sz bytes) (w : World) (ty g base : Nat) {src : Value} {m : Nat} {news : List Value} (hge : w.heap[g]? = some (.cells #[] e (0, 0))) (hgb : base ≤ g)
    (hsrc : SlC w sz src m news) (h1 : ∀ u ∈ news, u.oneCell' = true) (h63 : m ≤ maxLen) (hbytes : m * bytes ≤ 140737488355328) :
    ∃ v' w', (Builtin.append_ #[t, t] ty #[.slice (some ⟨g, 0, none⟩) 0 0, src]).run P w = .ok v' w' ∧ (∃ a c, v' = .slice a m c) ∧ w'.ownsRow base e sz v' m news ∧ Below w.heap.size w w' := by
  have hgl := (Array.getElem?_eq_some_iff.1 hge).1
  obtain ⟨i, z, ht, hi, hz, hsz, hby, hzs, hpos⟩ := ei
  obtain ⟨hl, a, cap, rfl, hm, hcm, hz0, hc⟩ := hsrc
  by_cases h0 : m = 0
  · subst h0
    have hn : news = [] := List.eq_nil_of_length_eq_zero (by simpa using hl)
    subst hn
    have hrun : (Builtin.append_ #[t, t] ty #[.slice (some ⟨g, 0, none⟩) 0 0, .slice a 0 cap]).run P w = .ok (.slice (some ⟨g, 0, none⟩) 0 0) w := by
      cases a with
      | some x =>
        have hfc := run_firstCells_some (P := P) w i.size 0 x 0 cap [] (by simp) (fun j u h => by simp at h)
        simp [Builtin.append_, run_underlying ht, sizeOf, typeInfo, hi, Builtin.lenOf, hfc, storeCells]
      | none =>
        obtain rfl := hz0 rfl
        have hfc : (Builtin.firstCells i.size 0 (.slice none 0 0)).run P w = .ok #[] w := by simp [Builtin.firstCells]
        simp [Builtin.append_, run_underlying ht, sizeOf, typeInfo, hi, Builtin.lenOf, hfc, storeCells]
    exact ⟨_, _, hrun, ⟨_, _, rfl⟩, ⟨by simp, .inr ⟨g, 0, #[], rfl, hgb, hge, Nat.le_refl _, Nat.zero_le _, by simp, by simp⟩⟩, Below.refl _ _⟩
  · cases a with
    | none => have := hz0 rfl; omega
    | some x =>
      have hnews : ∀ j u, news[j]? = some u → w.cell? (x.add j) = some u := by
        intro j u hu
        have hj : j < news.length := (List.getElem?_eq_some_iff.1 hu).1
        rcases hc with rfl | ⟨b, off, hx, _, hcell⟩
        · omega
        · simp only [Option.some.injEq] at hx
          subst hx
          rw [Addr.add_lit, hcell j (by omega)]
          exact hu
      obtain ⟨v', w', hrun, ho, hg⟩ := run_append_arg_grows (P := P) (w := w) t ty e i z sz bytes ht hi hz hsz hby hzs hpos ⟨g, 0, none⟩ 0 0 [] (by simp) (fun j u h => by simp at h) x m cap news hl hnews (by omega) (by omega) (by rw [Nat.zero_add]; exact hbytes)
      rw [Nat.zero_add, List.nil_append] at ho
      obtain ⟨a', c', hv', _, _⟩ := (SlC.of_owns ho).slice
      exact ⟨v', w', hrun, ⟨a', c', hv'⟩, owns_lower ho (by omega), ⟨hg.os, hg.tape, hg.output, hg.size, fun k hk => hg.block k hk (by simp)⟩⟩
theorem wp_app0o {P : Program} {t e sz bytes : Nat} (ei : EI P t e sz bytes) {w : World} {ops : Array Oper} {rest : List Oper} {o : Oper} {a : Act} {Q : Exit → Act → World → Prop} (s x : Operand) (hgd : o.guard = none)
    (ho : o.op = .call { callee := .builtin .append, args := #[s, x], argTypes := #[t, t] }) (g base : Nat) {src : Value} {m : Nat} {news : List Value} (hs : a.eval s = .slice (some ⟨g, 0, none⟩) 0 0) (hx : a.eval x = src) (hge : w.heap[g]? = some (.cells #[] e (0, 0))) (hgb : base ≤ g)
    (hsrc : SlC w sz src m news) (h1 : ∀ u ∈ news, u.oneCell' = true) (h63 : m ≤ maxLen) (hbytes : m * bytes ≤ 140737488355328)
    (h : ∀ a' c' w', w'.ownsRow base e sz (.slice a' m c') m news → Below w.heap.size w w' → wpList P ops Q rest (a.put o.dst (.slice a' m c')) w') : wpList P ops Q (o :: rest) a w :=
  wpList_plain hgd fun K hK => by
    obtain ⟨v', w', hr, ⟨a', c', rfl⟩, h2, h3⟩ := run_app0o ei w o.type g base hge hgb hsrc h1 h63 hbytes
    unfold Oper.wp execOp
    simp only [ho, resolve, invoke, builtin, Sem.run_bind, Sem.run_pure, Result.andThen_ok, List.map_toArray, List.map_cons, List.map_nil, hs, hx, hr]
    exact hK _ _ (h a' c' w' h2 h3)
theorem one_svs (l : List Sv) : ∀ u ∈ encV l, u.oneCell' = true := by
  intro u hu
  obtain ⟨s, _, hs⟩ := List.mem_flatMap.1 hu
  exact one_sv s u hs
set_option maxHeartbeats 1000000 in
theorem cloneRo_any (a : Option Addr) (cap : Nat) (l : List Rc.RR) (w : World) (hst : RRs w (.slice a l.length cap) l) (hl : l.length ≤ 1000000) :
    Calls Tryz.prog 58 #[.slice a l.length cap] w fun e w' => ∃ a' c', e = .returned (.slice a' l.length c') ∧ w'.ownsRow w.heap.size 43 5 (.slice a' l.length c') l.length (encR l) ∧ Below w.heap.size w w' := by
  cases a with
  | none =>
    have hst0 : SlC w 5 (.slice none l.length cap) l.length (encR l) := hst
    obtain ⟨_, h1, _⟩ := hst0.cap
    have hc : cap = 0 := by
      obtain ⟨_, a, c, hv, _, _, hz, _⟩ := hst0
      simp only [Value.slice.injEq] at hv
      obtain ⟨rfl, _, rfl⟩ := hv
      exact hz rfl
    have hlen : l.length = 0 := by omega
    have hnl : l = [] := List.eq_nil_of_length_eq_zero hlen
    subst hnl hc
    clear hst hst0 h1 hlen hl
    have hnil := run_eql_sliceNil 32 43 none 0 0 Tryz.underlying32 w
    simp only [Option.isNone_none] at hnil
    simp only [List.length_nil]
    go_enter Tryz.func58, Tryz.ntmps58
    go_wp2_with fail
    go_ret
    exact ⟨none, 0, rfl, World.ownsRow_nil _ _ _ _, Below.refl _ _⟩
  | some x =>
    have hone := one_rrs l
    have hst2 : SlC (w.alloc (.cells #[] 43)) 5 (.slice (some x) l.length cap) l.length (encR l) := SlC.below hst ((Below.refl _ w).alloc (Nat.le_refl _) (.cells #[] 43)) (Nat.le_refl _)
    have hge : (w.alloc (.cells #[] 43)).heap[w.heap.size]? = some (.cells #[] 43 (0, 0)) := World.alloc_heap_new _ _
    have hnil := run_eql_sliceNil 32 43 (some x) l.length cap Tryz.underlying32 w
    simp only [Option.isNone_some] at hnil
    have HST := Go.Lib.hid hst
    have HST2 := Go.Lib.hid hst2
    have HONE := Go.Lib.hid hone
    have HGE := Go.Lib.hid hge
    clear hst hst2 hone hge
    go_enter Tryz.func58, Tryz.ntmps58
    go_wp2_with (at_builtin; refine wp_app0o eiRR (.tmp 5) (.tmp 6) rfl rfl w.heap.size w.heap.size rfl rfl HGE.out (Nat.le_refl _) HST2.out HONE.out (by unfold maxLen; omega) (by omega) (fun a' c' w' h1 h2 => ?_); have H1 := Go.Lib.hid h1; clear h1; have H2 := Go.Lib.hid h2; clear h2)
    go_ret
    exact ⟨a', c', rfl, H1.out, ((Below.refl _ w).alloc (Nat.le_refl _) _).trans (H2.out.mono (by simp))⟩
set_option maxHeartbeats 1000000 in
theorem cloneVo_any (a : Option Addr) (cap : Nat) (l : List Sv) (w : World) (hst : Svs w (.slice a l.length cap) l) (hl : l.length ≤ 1000000) :
    Calls Tryz.prog 59 #[.slice a l.length cap] w fun e w' => ∃ a' c', e = .returned (.slice a' l.length c') ∧ w'.ownsRow w.heap.size 55 2 (.slice a' l.length c') l.length (encV l) ∧ Below w.heap.size w w' := by
  cases a with
  | none =>
    have hst0 : SlC w 2 (.slice none l.length cap) l.length (encV l) := hst
    obtain ⟨_, h1, _⟩ := hst0.cap
    have hc : cap = 0 := by
      obtain ⟨_, a, c, hv, _, _, hz, _⟩ := hst0
      simp only [Value.slice.injEq] at hv
      obtain ⟨rfl, _, rfl⟩ := hv
      exact hz rfl
    have hlen : l.length = 0 := by omega
    have hnl : l = [] := List.eq_nil_of_length_eq_zero hlen
    subst hnl hc
    clear hst hst0 h1 hlen hl
    have hnil := run_eql_sliceNil 48 55 none 0 0 Tryz.underlying48 w
    simp only [Option.isNone_none] at hnil
    simp only [List.length_nil]
    go_enter Tryz.func59, Tryz.ntmps59
    go_wp2_with fail
    go_ret
    exact ⟨none, 0, rfl, World.ownsRow_nil _ _ _ _, Below.refl _ _⟩
  | some x =>
    have hone := one_svs l
    have hst2 : SlC (w.alloc (.cells #[] 55)) 2 (.slice (some x) l.length cap) l.length (encV l) := SlC.below hst ((Below.refl _ w).alloc (Nat.le_refl _) (.cells #[] 55)) (Nat.le_refl _)
    have hge : (w.alloc (.cells #[] 55)).heap[w.heap.size]? = some (.cells #[] 55 (0, 0)) := World.alloc_heap_new _ _
    have hnil := run_eql_sliceNil 48 55 (some x) l.length cap Tryz.underlying48 w
    simp only [Option.isNone_some] at hnil
    have HST := Go.Lib.hid hst
    have HST2 := Go.Lib.hid hst2
    have HONE := Go.Lib.hid hone
    have HGE := Go.Lib.hid hge
    clear hst hst2 hone hge
    go_enter Tryz.func59, Tryz.ntmps59
    go_wp2_with (at_builtin; refine wp_app0o eiSv (.tmp 5) (.tmp 6) rfl rfl w.heap.size w.heap.size rfl rfl HGE.out (Nat.le_refl _) HST2.out HONE.out (by unfold maxLen; omega) (by omega) (fun a' c' w' h1 h2 => ?_); have H1 := Go.Lib.hid h1; clear h1; have H2 := Go.Lib.hid h2; clear h2)
    go_ret
    exact ⟨a', c', rfl, H1.out, ((Below.refl _ w).alloc (Nat.le_refl _) _).trans (H2.out.mono (by simp))⟩

/-! ### own -/
structure FO (rs : List Rc.RR) (sv : List Sv) (B : Nat) (i : Nat) (v : Value) (w : World) : Prop where
  f2 : i = 2 → w.ownsRow B 43 5 v rs.length (encR rs)
  f5 : i = 5 → w.ownsRow B 55 2 v sv.length (encV sv)
theorem FO.stable {rs : List Rc.RR} {sv : List Sv} {B i : Nat} {v : Value} {w w' : World} (h : FO rs sv B i v w) (hg : GB w w') : FO rs sv B i v w' := ⟨fun e => owns_below (h.f2 e) hg, fun e => owns_below (h.f5 e) hg⟩
structure SO (N M : Nat) (i : Nat) (v : Value) : Prop where
  s2 : i = 2 → ∃ a c, v = .slice a N c
  s5 : i = 5 → ∃ a c, v = .slice a M c
theorem SO.inh (N M : Nat) (i : Nat) : ∃ v, SO N M i v := by
  by_cases h2 : i = 2
  · exact ⟨.slice none N 0, fun _ => ⟨_, _, rfl⟩, fun h => by omega⟩
  · exact ⟨.slice none M 0, fun h => absurd h h2, fun _ => ⟨_, _, rfl⟩⟩
/-- a zone whose lists are one's own -/
structure ZnOw (B : Nat) (w : World) (z : Zn) : Prop where
  rs : w.ownsRow B 43 5 (.slice z.ra z.rs.length z.rc) z.rs.length (encR z.rs)
  sv : w.ownsRow B 55 2 (.slice z.sa z.sv.length z.sc) z.sv.length (encV z.sv)
theorem ZnOw.lies {B : Nat} {w : World} {z : Zn} (h : ZnOw B w z) : ZnAt w z := ⟨SlC.of_owns h.rs, SlC.of_owns h.sv⟩
theorem ZnOw.below {B : Nat} {w w' : World} {z : Zn} (h : ZnOw B w z) (hb : Below w.heap.size w w') : ZnOw B w' z := ⟨owns_below h.rs hb, owns_below h.sv hb⟩
theorem ZnOw.lower {B B' : Nat} {w : World} {z : Zn} (h : ZnOw B w z) (hb : B' ≤ B) : ZnOw B' w z := ⟨owns_lower h.rs hb, owns_lower h.sv hb⟩
theorem ZnOw.setCell {B : Nat} {w : World} {z : Zn} (h : ZnOw B w z) {p : Addr} (hp : p.block < B) (u : Value) : ZnOw B (w.setCell p u) z := ⟨owns_setCell h.rs hp u, owns_setCell h.sv hp u⟩
theorem ZnOw.kept {B B2 n : Nat} {w w' : World} {z : Zn} {v : Value} {xs : List Value} (h : ZnOw B w z) (ho : w.ownsRow B2 50 3 v n xs) (hg : w.grownBy w' v.ownBlock) : ZnOw B w' z :=
  ⟨h.rs.kept hg (rows_apart h.rs ho (by decide)), h.sv.kept hg (rows_apart h.sv ho (by decide))⟩
theorem infoZt : (Tryz.prog.info? 50).map (·.size) = some 3 := by kernel_rfl
theorem undZn : ∃ fs, Tryz.prog.underlying 50 = some (.struct fs) := ⟨_, Tryz.underlying50⟩
theorem ret_zn {fn : Func} {p : Tmp} {a : Act} {W : World} {R : Ending → World → Prop} {z : Zn} {g : Nat} (hr : fn.results = #[.cell p 50]) (hp : a.tmps.getD p undef = .pointer (some ⟨g, 0, none⟩)) (hd : a.defers = [])
    (hg : W.heap[g]? = some (.cells (znA z) 50 (0, 0))) (h : R (.returned (znV z)) W) : bodyPost Tryz.prog fn R Exit.ret a W := by
  obtain ⟨fs, hu⟩ := undZn
  exact bodyPost_ret (results_cell_row hr _ _ g _ _ (0, 0) _ hp hg hu rfl infoZt) hd h
set_option maxHeartbeats 8000000 in
theorem own_any (z : Zn) (w : World) (hz : ZnAt w z) (hzo : ZnOk z) :
    Calls Tryz.prog 28 #[znV z] w fun e w' => ∃ z', e = .returned (znV z') ∧ z'.p = z.p ∧ ZnOw w.heap.size w' z' ∧ Below w.heap.size w w' := by
  have mixed : Tryz.prog.follows .mixedOrders = true := by kernel_rfl
  obtain ⟨X1, hX1⟩ : ∃ X, w.alloc (.cells #[.string (mk z.nm), .slice z.ra z.rs.length z.rc, .slice z.sa z.sv.length z.sc] 50) = X := ⟨_, rfl⟩
  obtain ⟨X, hX⟩ : ∃ X, X1.alloc (.cells #[.string ⟨#[]⟩, .slice none 0 0, .slice none 0 0] 50) = X := ⟨_, rfl⟩
  have g1 : X1.heap[w.heap.size]? = some (.cells #[.string (mk z.nm), .slice z.ra z.rs.length z.rc, .slice z.sa z.sv.length z.sc] 50 (0, 0)) := by rw [← hX1]; exact World.alloc_heap_new _ _
  have b1 : Below w.heap.size w X1 := by rw [← hX1]; exact (Below.refl _ w).alloc (Nat.le_refl _) _
  have s1 : X1.heap.size = w.heap.size + 1 := by rw [← hX1]; simp
  have g2 : X.heap[X1.heap.size]? = some (.cells #[.string ⟨#[]⟩, .slice none 0 0, .slice none 0 0] 50 (0, 0)) := by rw [← hX]; exact World.alloc_heap_new _ _
  have b2 : Below X1.heap.size X1 X := by rw [← hX]; exact (Below.refl _ X1).alloc (Nat.le_refl _) _
  have s2 : X.heap.size = w.heap.size + 2 := by rw [← hX]; simp [s1]
  have g1' := (b2.block _ (Array.getElem?_eq_some_iff.1 g1).1).trans g1
  have hbX := b1.trans (b2.mono b1.size)
  have hzX := hz.below hbX
  have hl1 := hzo.l1
  have hl2 := hzo.l2
  have hcr := fun W (h : Below X.heap.size X W) => cloneRo_any z.ra z.rc z.rs W (hzX.below h).rs (by omega)
  have hcv := fun W (h : Below X.heap.size X W) => cloneVo_any z.sa z.sc z.sv W (hzX.below h).sv (by omega)
  obtain ⟨zn, ra, rc, rs, sa, sc, sv⟩ := z
  simp only at hX1 g1 g1' hcr hcv
  show Calls Tryz.prog 28 #[.agg #[.string (mk zn), .slice ra rs.length rc, .slice sa sv.length sc]] w _
  have l1 := (Array.getElem?_eq_some_iff.1 g1').1
  have D1 := GB.cell (W := X) (row_cell g1' 1 _ rfl) l1
  have D2 := GB.cell (W := X) (row_cell g1' 2 _ rfl) l1
  have hne : Nonempty (Subtype (GB X.drew)) := ⟨⟨X.drew, GB.refl _⟩⟩
  have hZp : ∀ z' : Zn, z'.nm = zn → z'.rs = rs → z'.sv = sv → z'.p = (Zn.p ⟨zn, ra, rc, rs, sa, sc, sv⟩) := fun z' e1 e2 e3 => by unfold Zn.p; rw [e1, e2, e3]
  generalize (Zn.p ⟨zn, ra, rc, rs, sa, sc, sv⟩) = ZP0 at *
  generalize hN : rs.length = N at *
  generalize hM : sv.length = M at *
  clear hz hzo hzX hl1 hl2 g1 b1 b2 l1
  have HCR := Go.Lib.hid hcr
  have HCV := Go.Lib.hid hcv
  have HBX := Go.Lib.hid hbX
  have G1 := Go.Lib.hid g1'
  have G2 := Go.Lib.hid g2
  have HN := Go.Lib.hid hN
  have HM := Go.Lib.hid hM
  have HS1 := Go.Lib.hid s1
  have HS2 := Go.Lib.hid s2
  have HZP := Go.Lib.hid hZp
  clear hcr hcv hbX g1' g2 hN hM s1 s2 hZp
  go_enter Tryz.func28, Tryz.ntmps28
  go_wp2_with fail
  refine Go.Mix.wp_region_mixE [2, 5] [7, 9] [6] 7 GB (FO rs sv X.heap.size) (SO N M) [] mixed (by kernel_rfl) (fun i e q hm => by simp at hm) GB.trans GB.refl (fun i v w w' h hg => h.stable hg) (SO.inh _ _) ?_
  iterate 2 (refine Go.Mix.mixE_step rfl (fun K hK => ?_); have HKK := Go.Lib.hid hK; clear hK; go_simp; refine HKK.out _ ?_; clear HKK K)
  refine Go.Mix.mixE_eff rfl rfl (fun w7 hw7 hn7 => ?_) (fun v2 hv2 => ?_)
  · clear hn7
    have hk7 := HCR.out w7 (show Below X.heap.size X w7 from Below.trans (Below.drew (Below.refl _ X)) hw7)
    have hwb : X.heap.size ≤ w7.heap.size := (show X.drew.heap.size ≤ w7.heap.size from GB.size hw7)
    go_simp
    show Calls _ _ _ _ _
    refine hk7.mono ?_; rintro e w8 ⟨a8, c8, rfl, hk8, hx8⟩
    exact ⟨hx8, ⟨fun _ => ⟨_, _, rfl⟩, fun h => absurd h (by decide)⟩, ⟨fun _ => (by rw [HN.out]; exact owns_lower hk8 hwb), fun h => absurd h (by decide)⟩⟩
  obtain ⟨a2, c2, rfl⟩ := hv2.s2 rfl
  clear hv2
  iterate 2 (refine Go.Mix.mixE_step rfl (fun K hK => ?_); have HKK := Go.Lib.hid hK; clear hK; go_simp; refine HKK.out _ ?_; clear HKK K)
  refine Go.Mix.mixE_eff rfl rfl (fun w7 hw7 hn7 => ?_) (fun v5 hv5 => ?_)
  · clear hn7
    have hk7 := HCV.out w7 (show Below X.heap.size X w7 from Below.trans (Below.drew (Below.refl _ X)) hw7)
    have hwb : X.heap.size ≤ w7.heap.size := (show X.drew.heap.size ≤ w7.heap.size from GB.size hw7)
    go_simp
    show Calls _ _ _ _ _
    refine hk7.mono ?_; rintro e w8 ⟨a8, c8, rfl, hk8, hx8⟩
    exact ⟨hx8, ⟨fun h => absurd h (by decide), fun _ => ⟨_, _, rfl⟩⟩, ⟨fun h => absurd h (by decide), fun _ => (by rw [HM.out]; exact owns_lower hk8 hwb)⟩⟩
  obtain ⟨a5, c5, rfl⟩ := hv5.s5 rfl
  clear hv5
  (refine Go.Mix.mixE_free rfl (fun K hK => ?_); have HKK := Go.Lib.hid hK; clear hK; go_simp; refine HKK.out _ ?_; clear HKK K)
  refine Go.Mix.mixE_tail rfl (fun w9 hg9 hΦ => ?_)
  have o2 := hΦ.1.2.f2 rfl
  have o5 := hΦ.2.f5 rfl
  rw [HN.out] at o2
  rw [HM.out] at o5
  have hb9 : Below X.heap.size X w9 := Below.trans (Below.drew (Below.refl _ X)) hg9
  have e1 := (hb9.block _ (Array.getElem?_eq_some_iff.1 G1.out).1).trans G1.out
  have e2 := (hb9.block _ (Array.getElem?_eq_some_iff.1 G2.out).1).trans G2.out
  have hbw := HBX.out.trans (hb9.mono HBX.out.size)
  have s2' := HS2.out
  clear hΦ hg9 D1 D2 hne
  have m1 := cell_of_heap e1 1
  have f1 := frozen_of_row w9 w.heap.size 1 _ _ e1
  simp only [List.getElem?_toArray, List.getElem?_cons_succ, List.getElem?_cons_zero] at m1
  have HO2 := Go.Lib.hid o2
  have HO5 := Go.Lib.hid o5
  have HE1 := Go.Lib.hid e1
  have HE2 := Go.Lib.hid e2
  have HBW := Go.Lib.hid hbw
  have HS := Go.Lib.hid s2'
  clear o2 o5 e1 e2 hbw s2'
  refine Go.Mix.mix_eff rfl (fun K hK => ?_)
  have HKK := Go.Lib.hid hK
  clear hK
  go_simp
  refine HKK.out _ _ trivial ?_
  clear HKK K m1 f1
  have E1 : (w9.setCell ⟨w.heap.size, 1, none⟩ (.slice a2 N c2)).heap[w.heap.size]? = some (.cells #[.string (mk zn), .slice a2 N c2, .slice sa M sc] 50 (0, 0)) := heap_setCell_same w9 w.heap.size 1 _ _ (.slice a2 N c2) HE1.out
  have E2 := (heap_setCell_other w9 ⟨w.heap.size, 1, none⟩ X1.heap.size (.slice a2 N c2) (by have := HS1.out; simp only; omega)).trans HE2.out
  have O2 := owns_setCell HO2.out (p := ⟨w.heap.size, 1, none⟩) (by have := HS.out; simp only; omega) (.slice a2 N c2)
  have O5 := owns_setCell HO5.out (p := ⟨w.heap.size, 1, none⟩) (by have := HS.out; simp only; omega) (.slice a2 N c2)
  have HBW1 := Go.Lib.hid (HBW.out.setCell (p := ⟨w.heap.size, 1, none⟩) (Nat.le_refl _) (.slice a2 N c2))
  clear HO2 HO5 HE1 HE2 HBW
  generalize w9.setCell ⟨w.heap.size, 1, none⟩ (.slice a2 N c2) = X2 at *
  have m2 := cell_of_heap E1 2
  have f2 := frozen_of_row X2 w.heap.size 2 _ _ E1
  simp only [List.getElem?_toArray, List.getElem?_cons_succ, List.getElem?_cons_zero] at m2
  have HO2 := Go.Lib.hid O2
  have HO5 := Go.Lib.hid O5
  have HE1 := Go.Lib.hid E1
  have HE2 := Go.Lib.hid E2
  clear O2 O5 E1 E2
  iterate 1 (refine Go.Mix.mix_step rfl (fun K hK => ?_); have HKK := Go.Lib.hid hK; clear hK; go_simp; refine HKK.out _ _ ?_; clear HKK K)
  refine Go.Mix.mix_eff rfl (fun K hK => ?_)
  have HKK := Go.Lib.hid hK
  clear hK
  go_simp
  refine HKK.out _ _ trivial ?_
  clear HKK K m2 f2
  have E1 : (X2.setCell ⟨w.heap.size, 2, none⟩ (.slice a5 M c5)).heap[w.heap.size]? = some (.cells #[.string (mk zn), .slice a2 N c2, .slice a5 M c5] 50 (0, 0)) := heap_setCell_same X2 w.heap.size 2 _ _ (.slice a5 M c5) HE1.out
  have E2 := (heap_setCell_other X2 ⟨w.heap.size, 2, none⟩ X1.heap.size (.slice a5 M c5) (by have := HS1.out; simp only; omega)).trans HE2.out
  have O2 := owns_setCell HO2.out (p := ⟨w.heap.size, 2, none⟩) (by have := HS.out; simp only; omega) (.slice a5 M c5)
  have O5 := owns_setCell HO5.out (p := ⟨w.heap.size, 2, none⟩) (by have := HS.out; simp only; omega) (.slice a5 M c5)
  have HBW2 := Go.Lib.hid (HBW1.out.setCell (p := ⟨w.heap.size, 2, none⟩) (Nat.le_refl _) (.slice a5 M c5))
  clear HO2 HO5 HE1 HE2 HBW1
  generalize X2.setCell ⟨w.heap.size, 2, none⟩ (.slice a5 M c5) = X3 at *
  have HO2 := Go.Lib.hid O2
  have HO5 := Go.Lib.hid O5
  have HE1 := Go.Lib.hid E1
  have HE2 := Go.Lib.hid E2
  clear O2 O5 E1 E2
  refine Go.Mix.mix_nil ?_
  obtain ⟨fs, hu⟩ := undZn
  have hone : (#[.string (mk zn), .slice a2 N c2, .slice a5 M c5] : Array Value).all (·.oneCell') = true := by simp [Value.oneCell']
  have HU := Go.Lib.hid hu
  clear hu
  go_wp2_with (first | (refine wpList_load_row rfl 50 (.tmp 1) rfl w.heap.size rfl _ _ (0, 0) _ HE1.out HU.out rfl infoZt ?_) | (refine wpList_store_row rfl 50 (.tmp 2) (.tmp 11) rfl X1.heap.size #[.string (mk zn), .slice a2 N c2, .slice a5 M c5] rfl rfl _ _ HE2.out infoZt rfl hone ?_))
  have E3 : (X3.setRow X1.heap.size #[.string (mk zn), .slice a2 N c2, .slice a5 M c5]).heap[X1.heap.size]? = some (.cells (znA ⟨zn, a2, c2, rs, a5, c5, sv⟩) 50 (0, 0)) := by
    have := setRow_heap X3 X1.heap.size _ #[.string (mk zn), .slice a2 N c2, .slice a5 M c5] _ _ HE2.out
    rw [this]
    unfold znA
    simp only [HN.out, HM.out]
  refine ret_zn (z := ⟨zn, a2, c2, rs, a5, c5, sv⟩) rfl rfl rfl E3 ?_
  refine ⟨⟨zn, a2, c2, rs, a5, c5, sv⟩, rfl, HZP.out _ rfl rfl rfl, ⟨?_, ?_⟩, below_setRow HBW2.out (by have := HS1.out; omega) _⟩
  · show World.ownsRow _ _ _ 5 (.slice a2 rs.length c2) rs.length (encR rs)
    rw [HN.out]
    exact owns_lower (owns_setRow HO2.out (by have := HS.out; have := HS1.out; omega) _) (by have := HS.out; omega)
  · show World.ownsRow _ _ _ 2 (.slice a5 sv.length c5) sv.length (encV sv)
    rw [HM.out]
    exact owns_lower (owns_setRow HO5.out (by have := HS.out; have := HS1.out; omega) _) (by have := HS.out; omega)
end Go.Proofs.YtkpcmnckdappnaaGreat

/- Tree: the contracts of ns, soa, of, has. -/
namespace Go.Proofs.YtkpcmnckdappnaaGreat
open Go.RowKit Go.Sort Go.Lib
set_option maxRecDepth 100000
set_option linter.unusedVariables false
set_option linter.unusedSimpArgs false

def RetRRs (w : World) (l : List Rc.RR) (e : Ending) (w' : World) : Prop := ∃ v, e = .returned v ∧ w'.ownsRow w.heap.size 43 5 v l.length (encR l) ∧ Below w.heap.size w w'
theorem owns_apart2 {w0 w1 : World} {B1 B2 e1 e2 s1 s2 n1 n2 : Nat} {v1 v2 : Value} {x1 x2 : List Value} (h1 : w1.ownsRow B1 e1 s1 v1 n1 x1) (hb : w0.heap.size ≤ B1) (h2 : w0.ownsRow B2 e2 s2 v2 n2 x2) : v1.ownBlock = none ∨ v1.ownBlock ≠ v2.ownBlock := by
  rcases h1.2 with ⟨rfl, _⟩ | ⟨g, cap, cur, rfl, hg, _⟩
  · exact .inl rfl
  · right
    rcases h2.2 with ⟨rfl, _⟩ | ⟨g2, cap2, cur2, rfl, _, hg2, _⟩
    · simp [Value.ownBlock]
    · intro e
      have := (Array.getElem?_eq_some_iff.1 hg2).1
      simp only [Value.ownBlock, Option.some.injEq] at e
      omega
theorem madeN_ok {r : Rc.RR} (h : RROk r) : RROk (madeN r) := by
  unfold madeN
  split
  · exact h
  · exact ⟨by simp [rZ, maxLen], by simp [rZ, maxLen]⟩
theorem makeNN_ok {n to : List UInt8} (t ttl : Int) (hn : n.length ≤ maxLen) (ht : to.length ≤ maxLen) : RROk (makeNN n t ttl to) := by
  unfold makeNN
  split
  · exact madeN_ok ⟨hn, ht⟩
  · exact ⟨by simp [rZ, maxLen], by simp [rZ, maxLen]⟩
theorem makeSN_ok {n : List UInt8} (ttl x y : Int) (hn : n.length ≤ 1000) : RROk (makeSN n ttl x y) := by
  unfold makeSN
  split
  · exact madeN_ok ⟨by unfold maxLen; simp only; omega, by simp [soaD, four_length, maxLen]; omega⟩
  · exact ⟨by simp [rZ, maxLen], by simp [rZ, maxLen]⟩
def nsS (nm : List UInt8) (out : List Rc.RR) (s : Sv) : List Rc.RR := if out.any (fun x => Rc.sameRR x (makeNN nm 2 3600 s.1)) then out else out ++ [makeNN nm 2 3600 s.1]
def nsK (nm : List UInt8) (sv : List Sv) (k : Nat) : List Rc.RR := (sv.take k).foldl (nsS nm) []
theorem nsK_step {nm : List UInt8} {sv : List Sv} {k : Nat} (hk : k < sv.length) : nsK nm sv (k + 1) = nsS nm (nsK nm sv k) (sv.getD k s0) := by
  unfold nsK
  rw [List.take_succ_eq_append_getElem hk, List.foldl_append, List.getD_eq_getElem?_getD, List.getElem?_eq_getElem hk]
  rfl
theorem nsK_all (z : Zp) : nsK z.nm z.sv z.sv.length = nsP z := by unfold nsK nsP; rw [List.take_length]; rfl
theorem nsK_good {nm : List UInt8} {sv : List Sv} (hn : nm.length ≤ maxLen) (hs : ∀ s ∈ sv, s.1.length ≤ maxLen) : ∀ k, k ≤ sv.length → (nsK nm sv k).length ≤ k ∧ ∀ r ∈ nsK nm sv k, RROk r
  | 0, _ => ⟨by simp [nsK], fun r h => by simp [nsK] at h⟩
  | k + 1, hk => by
    obtain ⟨h1, h2⟩ := nsK_good hn hs k (by omega)
    rw [nsK_step (by omega)]
    unfold nsS
    split
    · exact ⟨by omega, h2⟩
    · refine ⟨by rw [List.length_append]; simp; omega, fun r hr => ?_⟩
      rcases List.mem_append.1 hr with h | h
      · exact h2 r h
      · rw [List.mem_singleton.1 h]
        exact makeNN_ok _ _ hn (hs _ (by rw [List.getD_eq_getElem?_getD, List.getElem?_eq_getElem (by omega)]; exact List.getElem_mem _))
theorem nsP_good {z : Zn} (h : ZnOk z) : (nsP z.p).length ≤ 1000 ∧ ∀ r ∈ nsP z.p, RROk r := by
  have := nsK_good h.nmM (fun s hs => by have := h.sv s hs; unfold maxLen; omega) z.sv.length (Nat.le_refl _)
  rw [show nsK z.nm z.sv z.sv.length = nsP z.p from nsK_all z.p] at this
  exact ⟨by have := h.l2; omega, this.2⟩
theorem soaP_good {z : Zn} (h : ZnOk z) : RROk (soaP z.p) := makeSN_ok _ _ _ h.nm

def FN4 (B : Nat) (i : Nat) (v : Value) (w : World) : Prop := i = 7 → ∃ kb, v = .pointer (some ⟨kb, 0, none⟩) ∧ B ≤ kb ∧ w.heap[kb]? = some (.cells (rrC rZ) 43 (0, 0))
def SN4 (r : Rc.RR) (i : Nat) (v : Value) : Prop := (i = 6 → v = rrV r) ∧ (i = 7 → ∃ kb, v = .pointer (some ⟨kb, 0, none⟩))
theorem FN4.stable {B i : Nat} {v : Value} {w w' : World} (h : FN4 B i v w) (hg : GB w w') : FN4 B i v w' := fun e => by
  obtain ⟨kb, h1, h2, h3⟩ := h e
  exact ⟨kb, h1, h2, hg.heap h3⟩
theorem SN4.inh (r : Rc.RR) (i : Nat) : ∃ v, SN4 r i v := by
  by_cases h2 : i = 6
  · exact ⟨rrV r, fun _ => rfl, fun e => by omega⟩
  · exact ⟨.pointer (some ⟨0, 0, none⟩), fun e => absurd e h2, fun _ => ⟨0, rfl⟩⟩
theorem ns1_any (x r : Rc.RR) (B : Nat) (W : World) (hx : RROk x) (hr : RROk r) (hB : W.heap[B]? = some (.cells (rrC r) 43 (0, 0))) :
    Calls Tryz.prog 89 #[rrV x, .pointer (some ⟨B, 0, none⟩)] W fun e w' => e = .returned (.bool (Rc.sameRR x r)) ∧ Below W.heap.size W w' := by
  have hs0 := fun W => recSame_any x r W hx hr
  generalize Rc.sameRR x r = q at *
  obtain ⟨xn, xt, xc, xl, xd⟩ := x
  obtain ⟨rn, rt, rc, rl, rd⟩ := r
  obtain ⟨Y, hY⟩ : ∃ Y, W.alloc (.cells #[.string (mk xn), .int .i64 xt, .int .i64 xc, .int .i64 xl, .string (mk xd)] 43) = Y := ⟨_, rfl⟩
  have gY : Y.heap[W.heap.size]? = some (.cells #[.string (mk xn), .int .i64 xt, .int .i64 xc, .int .i64 xl, .string (mk xd)] 43 (0, 0)) := by rw [← hY]; exact World.alloc_heap_new _ _
  have hbY : Below W.heap.size W Y := by rw [← hY]; exact (Below.refl _ W).alloc (Nat.le_refl _) _
  have gB := (hbY.block B (Array.getElem?_eq_some_iff.1 hB).1).trans hB
  have k0 : Y.cell? ⟨W.heap.size, 0, none⟩ = some (.string (mk xn)) := row_cell gY 0 _ rfl
  have k1 : Y.cell? ⟨W.heap.size, 1, none⟩ = some (.int .i64 xt) := row_cell gY 1 _ rfl
  have k2 : Y.cell? ⟨W.heap.size, 2, none⟩ = some (.int .i64 xc) := row_cell gY 2 _ rfl
  have k3 : Y.cell? ⟨W.heap.size, 3, none⟩ = some (.int .i64 xl) := row_cell gY 3 _ rfl
  have k4 : Y.cell? ⟨W.heap.size, 4, none⟩ = some (.string (mk xd)) := row_cell gY 4 _ rfl
  have j0 : Y.cell? ⟨B, 0, none⟩ = some (.string (mk rn)) := row_cell gB 0 _ rfl
  have j1 : Y.cell? ⟨B, 1, none⟩ = some (.int .i64 rt) := row_cell gB 1 _ rfl
  have j2 : Y.cell? ⟨B, 2, none⟩ = some (.int .i64 rc) := row_cell gB 2 _ rfl
  have j3 : Y.cell? ⟨B, 3, none⟩ = some (.int .i64 rl) := row_cell gB 3 _ rfl
  have j4 : Y.cell? ⟨B, 4, none⟩ = some (.string (mk rd)) := row_cell gB 4 _ rfl
  have hs := hs0 Y
  simp only [rrV] at hs ⊢
  clear hB gY gB hs0 hx hr
  have HBY := Go.Lib.hid hbY
  have HS := Go.Lib.hid hs
  clear hbY hs
  go_enter Tryz.func89, Tryz.ntmps89
  go_wp2_with fail
  refine HS.out.mono ?_; rintro e wb ⟨rfl, hx⟩
  have HX := Go.Lib.hid hx
  clear hx
  go_wp2_with fail
  go_ret
  exact ⟨rfl, HBY.out.trans (HX.out.mono HBY.out.size)⟩
set_option maxHeartbeats 8000000 in
theorem ns_any (z : Zn) (b o : Nat) (w : World) (hz : ZP w b o z) (hzo : ZnOk z) :
    Calls Tryz.prog 68 #[.pointer (some ⟨b, o, none⟩)] w (RetRRs w (nsP z.p)) := by
  have mixed : Tryz.prog.follows .mixedOrders = true := by kernel_rfl
  have hnm := hzo.nmM
  have hall : nsK z.nm z.sv z.sv.length = nsP z.p := nsK_all z.p
  have hsl : ∀ s ∈ z.sv, s.1.length ≤ maxLen := fun s hs => by have := hzo.sv s hs; unfold maxLen; omega
  have hgood := nsK_good hnm hsl
  have hstep := fun k (hk : k < z.sv.length) => nsK_step (nm := z.nm) (sv := z.sv) (k := k) hk
  have hl2 := hzo.l2
  have c0 := hz.c0
  have c2 := hz.c2
  have hbl := hz.lt
  have hsv := hz.zt.sv
  generalize nsP z.p = R at *
  obtain ⟨zn, ra, rc, rs, sa, sc, sv⟩ := z
  simp only at hnm hall hsl hgood hstep hl2 c0 c2 hsv
  clear hz hzo
  generalize hN : sv.length = N at *
  have HALL := Go.Lib.hid hall
  have HSL := Go.Lib.hid hsl
  have HGD := Go.Lib.hid hgood
  have HSTEP := Go.Lib.hid hstep
  have HSV := Go.Lib.hid hsv
  have HN := Go.Lib.hid hN
  clear hall hsl hgood hstep hsv hN
  go_enter Tryz.func68, Tryz.ntmps68
  go_wp2_with fail
  go_loopw [2, 11] (fun v i wr => ∃ k : Nat, i = .int .i64 k ∧ k ≤ N ∧ wr.ownsRow w.heap.size 43 5 v (nsK zn sv k).length (encR (nsK zn sv k)) ∧ Below w.heap.size w wr) (fun _ i _ => N - (intOf i).toNat)
  case atStart => exact ⟨0, rfl, Nat.zero_le _, World.ownsRow_nil _ _ _ _, Below.refl _ _⟩
  case round =>
    obtain ⟨k, rfl, hk, hown, hbr⟩ := hrel
    have hws := hbr.size
    obtain ⟨hgl, hgr⟩ := HGD.out k hk
    by_cases hlt : k < N
    · have hsw : Svs wr (.slice sa sv.length sc) sv := by rw [HN.out]; exact HSV.out.below hbr (Nat.le_refl _)
      obtain ⟨b2, off, rfl, hbb, hcell⟩ := Svs.at hsw (by rw [HN.out]; omega)
      obtain ⟨d0, d1⟩ := hcell k (by rw [HN.out]; exact hlt)
      have hsn := HSL.out (sv.getD k s0) (by rw [List.getD_eq_getElem?_getD, List.getElem?_eq_getElem (by rw [HN.out]; exact hlt)]; exact List.getElem_mem _)
      have hst := HSTEP.out k hlt
      have hlt2 : (k : Int) < (N : Int) := by omega
      have w1 : IntKind.i64.wrap ((k : Int) + 1) = (k : Int) + 1 := wrapi (by omega) (by omega)
      clear hsw hcell
      generalize sv.getD k s0 = s at *
      obtain ⟨sn, sx⟩ := s
      simp only at d0 d1 hsn
      obtain ⟨Y, hY⟩ : ∃ Y, wr.alloc (.cells #[.string (mk sn), .int .i64 sx] 55) = Y := ⟨_, rfl⟩
      have gY : Y.heap[wr.heap.size]? = some (.cells #[.string (mk sn), .int .i64 sx] 55 (0, 0)) := by rw [← hY]; exact World.alloc_heap_new _ _
      have hbY : Below wr.heap.size wr Y := by rw [← hY]; exact (Below.refl _ wr).alloc (Nat.le_refl _) _
      have hbwY := hbr.trans (hbY.mono hws)
      have hownY := owns_below hown hbY
      have e0 : Y.cell? ⟨b, o, none⟩ = some (.string (mk zn)) := (hbwY.cell (p := ⟨b, o, none⟩) hbl).trans c0
      have e1 : Y.cell? ⟨wr.heap.size, 0, none⟩ = some (.string (mk sn)) := row_cell gY 0 _ rfl
      have hlY := (Array.getElem?_eq_some_iff.1 gY).1
      have hblY := Nat.lt_of_lt_of_le hbl hbwY.size
      have D0 := GB.cell (W := Y) e0 hblY
      have D1 := GB.cell (W := Y) e1 hlY
      have hne : Nonempty (Subtype (GB Y.drew)) := ⟨⟨Y.drew, GB.refl _⟩⟩
      have hmk := fun W => MakeName_any zn 2 3600 sn W hnm hsn
      have hrok := makeNN_ok (n := zn) (to := sn) 2 3600 hnm hsn
      have hone := one_rrC (makeNN zn 2 3600 sn)
      have hst2 : nsK zn sv (k + 1) = if (nsK zn sv k).any (fun x => Rc.sameRR x (makeNN zn 2 3600 sn)) then nsK zn sv k else nsK zn sv k ++ [makeNN zn 2 3600 sn] := hst
      generalize makeNN zn 2 3600 sn = r at *
      generalize hL : nsK zn sv k = L at *
      have hzY := hbwY.size
      clear hst hown hbr
      have HMK := Go.Lib.hid hmk
      have HROK := Go.Lib.hid hrok
      have HONE := Go.Lib.hid hone
      have HST := Go.Lib.hid hst2
      have HBWY := Go.Lib.hid hbwY
      have HOY := Go.Lib.hid hownY
      have HGR := Go.Lib.hid hgr
      have HL0 := Go.Lib.hid hL
      have HBY := Go.Lib.hid hbY
      clear hmk hrok hone hst2 hbwY hownY hgr hL hbY
      clear gY
      go_wp2_with fail
      refine Go.Mix.wp_region_mixR [6, 7] 8 GB (FN4 Y.heap.size) (SN4 r) mixed (by kernel_rfl) GB.trans GB.refl (fun i v w w' h hg => h.stable hg) (SN4.inh r) ?_
      iterate 6 (refine Go.Mix.mixR_step rfl (fun K hK => ?_); have HKK := Go.Lib.hid hK; clear hK; go_simp; refine HKK.out _ ?_; clear HKK K)
      refine Go.Mix.mixR_eff rfl rfl (fun w7 hw7 => ?_) (fun v5 hv5 => ?_)
      · go_simp
        show Calls _ _ _ _ _
        refine (HMK.out _).mono ?_; rintro e w8 ⟨rfl, hx⟩
        exact ⟨hx, ⟨fun _ => rfl, (fun h => by cases h)⟩, (fun h => by cases h)⟩
      obtain rfl := hv5.1 rfl
      clear hv5
      refine Go.Mix.mixR_eff rfl rfl (fun w7 hw7 => ?_) (fun v12 hv12 => ?_)
      · have h7 : Y.drew.heap.size ≤ w7.heap.size := GB.size hw7
        have h8 : Y.drew.heap.size = Y.heap.size := rfl
        go_simp
        exact ⟨(Below.refl _ _).alloc (Nat.le_refl _) _, ⟨(fun h => by cases h), fun _ => ⟨_, rfl⟩⟩, fun _ => ⟨w7.heap.size, rfl, by omega, World.alloc_heap_new _ _⟩⟩
      obtain ⟨kb, rfl⟩ := hv12.2 rfl
      clear hv12
      refine Go.Mix.mixR_last rfl (fun w9 hg9 hΦ K hK => ?_)
      obtain ⟨kb', hk1, hk2, hk3⟩ := hΦ.2 rfl
      simp only [Value.pointer.injEq, Option.some.injEq, Addr.mk.injEq, and_true] at hk1
      subst hk1
      clear hΦ
      rw [if_pos (show Region.wanted _ _ = true from rfl)]
      refine wp_store_row 43 (.tmp 5) (.tmp 21) rfl kb (rrC r) rfl rfl _ _ hk3 infoR5 rfl HONE.out ?_
      refine hK _ _ ?_
      clear hK K
      have hB10 : GB Y (w9.setRow kb (rrC r)) := below_setRow (Below.trans (Below.drew (Below.refl _ Y)) hg9) hk2 _
      have hkX := setRow_heap w9 kb _ (rrC r) _ _ hk3
      clear hk3 hg9 D0 D1 hne e0 e1 hY
      generalize w9.setRow kb (rrC r) = X at *
      have hownX := owns_below HOY.out hB10
      have hbX := HBWY.out.trans (Below.mono hB10 HBWY.out.size)
      have hsX := hB10.size
      have hsX2 : RRs X (_ : Value) L := SlC.of_owns hownX
      obtain ⟨av, cv, rfl, hnc, hcm⟩ := (SlC.of_owns hownX).slice
      have hany := hasR_any 89 #[.pointer (some ⟨kb, 0, none⟩)] (fun x => Rc.sameRR x r) av cv L X (SlC.of_owns hownX) (by omega) (enters_of Tryz.func89 (by kernel_rfl) rfl)
        (fun W' x hx hb => ns1_any x r kb W' (HGR.out x hx) HROK.out (heap_later hb hkX))
      generalize hq : L.any (fun x => Rc.sameRR x r) = q at *
      generalize hM : L.length = M at *
      clear hsX2
      have HOX := Go.Lib.hid hownX
      have HBX := Go.Lib.hid hbX
      have HANY := Go.Lib.hid hany
      have HKX := Go.Lib.hid hkX
      have HM := Go.Lib.hid hM
      have HQ := Go.Lib.hid hq
      clear hownX hbX hany hkX hM hq
      clear hB10
      go_wp2_with fail
      refine HANY.out.mono ?_; rintro e Z ⟨rfl, hz⟩
      have hownZ := owns_below HOX.out hz
      have hbZ := HBX.out.trans (hz.mono HBX.out.size)
      have hkZ := heap_later hz HKX.out
      have hzz := hz.size
      have hHST := HST.out
      have hL0 := HL0.out
      clear hz HQ
      cases q with
      | true =>
        have hfin : nsK zn sv (k + 1) = L := hHST
        have HOZ := Go.Lib.hid hownZ
        have HBZ := Go.Lib.hid hbZ
        have HFIN := Go.Lib.hid hfin
        clear hownZ hbZ hfin
        clear hHST hkZ hL0
        go_wp2_with fail
        go_roundw
        case rel => exact ⟨k + 1, by go_num, by omega, by rw [HFIN.out, HM.out]; exact HOZ.out, HBZ.out⟩
        case measure => simp [intOf]; omega
      | false =>
        have hfin : nsK zn sv (k + 1) = L ++ [r] := hHST
        obtain ⟨rn, rt, rcl, rl, rd⟩ := r
        have m0 : Z.cell? ⟨kb, 0, none⟩ = some (.string (mk rn)) := row_cell hkZ 0 _ rfl
        have m1 : Z.cell? ⟨kb, 1, none⟩ = some (.int .i64 rt) := row_cell hkZ 1 _ rfl
        have m2 : Z.cell? ⟨kb, 2, none⟩ = some (.int .i64 rcl) := row_cell hkZ 2 _ rfl
        have m3 : Z.cell? ⟨kb, 3, none⟩ = some (.int .i64 rl) := row_cell hkZ 3 _ rfl
        have m4 : Z.cell? ⟨kb, 4, none⟩ = some (.string (mk rd)) := row_cell hkZ 4 _ rfl
        have hownZ2 := hownZ.alloc (.cells #[.string (mk rn), .int .i64 rt, .int .i64 rcl, .int .i64 rl, .string (mk rd)] 43)
        have hbZ2 := hbZ.alloc hbZ.size (.cells #[.string (mk rn), .int .i64 rt, .int .i64 rcl, .int .i64 rl, .string (mk rd)] 43)
        have hzz2 := hbZ2.size
        have hnc2 := new_cells Z [.string (mk rn), .int .i64 rt, .int .i64 rcl, .int .i64 rl, .string (mk rd)] 43
        have hon2 := one_rr ⟨rn, rt, rcl, rl, rd⟩
        have HOZ := Go.Lib.hid hownZ2
        have HBZ := Go.Lib.hid hbZ2
        have HNC := Go.Lib.hid hnc2
        have HON := Go.Lib.hid hon2
        have HFIN := Go.Lib.hid hfin
        clear hownZ2 hbZ2 hnc2 hon2 hfin
        clear hownZ hbZ hHST hkZ hL0
        go_wp2_with (at_builtin; refine wpList_app1 eiRR (.tmp 26) (.tmp 28) rfl rfl w.heap.size rfl rfl HOZ.out (news := [.string (mk rn), .int .i64 rt, .int .i64 rcl, .int .i64 rl, .string (mk rd)]) rfl HNC.out HON.out (by unfold maxLen; omega) (by omega) (by omega) ?_; intro v5 W5 hown5 hg5 hsn5)
        have hb5 := below_app HBZ.out HOZ.out hg5 (Nat.le_refl _) hzz2
        have HO5 := Go.Lib.hid hown5
        have HB5 := Go.Lib.hid hb5
        clear hown5 hb5
        clear hg5 hsn5
        go_roundw
        case rel => exact ⟨k + 1, by go_num, by omega, by rw [HFIN.out, List.length_append, encR_snoc, HM.out]; exact HO5.out, HB5.out⟩
        case measure => simp [intOf]; omega
    · have hke : k = N := by omega
      rw [hke, HALL.out] at hown
      have hlt2 : ¬ (k : Int) < (N : Int) := by omega
      have HOWN := Go.Lib.hid hown
      have HBR := Go.Lib.hid hbr
      have HGR := Go.Lib.hid hgr
      clear hown hbr hgr
      go_wp2_with fail
      go_ret
      exact ⟨_, rfl, HOWN.out, HBR.out⟩
theorem soa_any (z : Zn) (b o : Nat) (w : World) (hz : ZP w b o z) (hzo : ZnOk z) :
    Calls Tryz.prog 71 #[.pointer (some ⟨b, o, none⟩)] w fun e w' => e = .returned (rrV (soaP z.p)) ∧ Below w.heap.size w w' := by
  obtain ⟨X, hX⟩ : ∃ X, w.alloc (.cells #[.string ⟨#[]⟩, .int .i64 0, .int .i64 0, .int .i64 0, .string ⟨#[]⟩] 43) = X := ⟨_, rfl⟩
  have gX : X.heap[w.heap.size]? = some (.cells (rrC rZ) 43 (0, 0)) := by rw [← hX]; exact World.alloc_heap_new _ _
  have hbX : Below w.heap.size w X := by rw [← hX]; exact (Below.refl _ w).alloc (Nat.le_refl _) _
  have hmk := MakeSOA_any z.nm 60 1 30 X hzo.nm
  have hdef : soaP z.p = makeSN z.nm 60 1 30 := rfl
  have e0 : X.cell? ⟨b, o, none⟩ = some (.string (mk z.nm)) := (hbX.cell (p := ⟨b, o, none⟩) hz.lt).trans hz.c0
  have hone := one_rrC (makeSN z.nm 60 1 30)
  rw [hdef]
  generalize makeSN z.nm 60 1 30 = r at *
  generalize z.nm = zn at *
  clear hz hzo hdef
  have GX := Go.Lib.hid gX
  have HBX := Go.Lib.hid hbX
  have HMK := Go.Lib.hid hmk
  have HONE := Go.Lib.hid hone
  clear gX hbX hmk hone
  go_enter Tryz.func71, Tryz.ntmps71
  go_wp2_with fail
  refine HMK.out.mono ?_; rintro e Z ⟨rfl, hz⟩
  have gZ := heap_later hz GX.out
  have hbZ := HBX.out.trans (hz.mono HBX.out.size)
  have GZ := Go.Lib.hid gZ
  have HBZ := Go.Lib.hid hbZ
  clear gZ hbZ
  clear hz
  go_wp2_with (refine wpList_store_row rfl 43 (.tmp 2) (.tmp 7) rfl w.heap.size (rrC r) rfl rfl _ _ GZ.out infoR5 rfl HONE.out ?_)
  refine ret_rr (r := r) rfl rfl rfl (setRow_heap Z w.heap.size _ (rrC r) _ _ GZ.out) ⟨rfl, below_setRow HBZ.out (Nat.le_refl _) _⟩
end Go.Proofs.YtkpcmnckdappnaaGreat

/- Tree: the contract of of. -/
namespace Go.Proofs.YtkpcmnckdappnaaGreat
open Go.RowKit Go.Sort Go.Lib
set_option maxRecDepth 100000
set_option linter.unusedVariables false
set_option linter.unusedSimpArgs false

def ofF (n : List UInt8) (t : Int) (r : Rc.RR) : Bool := Nm.sameN r.name n && decide (r.ty = t)
def ofK (n : List UInt8) (t : Int) (rs : List Rc.RR) (k : Nat) : List Rc.RR := (rs.take k).filter (ofF n t)
theorem ofK_step {n : List UInt8} {t : Int} {rs : List Rc.RR} {k : Nat} (hk : k < rs.length) : ofK n t rs (k + 1) = if ofF n t (rs.getD k r0) then ofK n t rs k ++ [rs.getD k r0] else ofK n t rs k := by
  unfold ofK
  rw [List.take_succ_eq_append_getElem hk, List.filter_append, List.getD_eq_getElem?_getD, List.getElem?_eq_getElem hk]
  simp only [Option.getD_some]
  cases hp : ofF n t rs[k] with
  | true => simp [List.filter, hp]
  | false => simp [List.filter, hp]
theorem ofK_len {n : List UInt8} {t : Int} {rs : List Rc.RR} {k : Nat} : (ofK n t rs k).length ≤ k := by
  unfold ofK
  exact Nat.le_trans (List.length_filter_le _ _) (by rw [List.length_take]; omega)
theorem ofP_good {z : Zn} (h : ZnOk z) (n : List UInt8) (t : Int) : (ofP z.p n t).length ≤ 1000 ∧ ∀ r ∈ ofP z.p n t, RROk r := by
  unfold ofP
  split
  · exact nsP_good h
  · split
    · exact ⟨by simp, fun r hr => by rw [List.mem_singleton.1 hr]; exact soaP_good h⟩
    · exact ⟨Nat.le_trans (List.length_filter_le _ _) h.l1, fun r hr => h.rs r (List.mem_filter.1 hr).1⟩
set_option maxHeartbeats 8000000 in
theorem of_any (z : Zn) (b o : Nat) (n : List UInt8) (t : Int) (w : World) (hz : ZP w b o z) (hzo : ZnOk z) (hn : n.length ≤ maxLen) :
    Calls Tryz.prog 38 #[.pointer (some ⟨b, o, none⟩), .string (mk n), .int .i64 t] w (RetRRs w (ofP z.p n t)) := by
  have hdef : ofP z.p n t = if Nm.sameN n z.nm && decide (t = 2) then nsP z.p else if Nm.sameN n z.nm && decide (t = 6) then [soaP z.p] else ofK n t z.rs z.rs.length := by unfold ofK; rw [List.take_length]; rfl
  have hsm := fun W => sameM n z.nm W hn hzo.nmM
  have hns := fun W (h : Below w.heap.size w W) => ns_any z b o W (hz.below h) hzo
  have hso := fun W (h : Below w.heap.size w W) => soa_any z b o W (hz.below h) hzo
  have hstep := fun k (hk : k < z.rs.length) => ofK_step (n := n) (t := t) (rs := z.rs) (k := k) hk
  have hlen := fun k => ofK_len (n := n) (t := t) (rs := z.rs) (k := k)
  have hok := hzo.rs
  have hl1 := hzo.l1
  have c0 := hz.c0
  have c1 := hz.c1
  have hbl := hz.lt
  have hrs := hz.zt.rs
  generalize hR : ofP z.p n t = R at *
  generalize nsP z.p = NS at *
  generalize soaP z.p = SO at *
  generalize hs : Nm.sameN n z.nm = s1 at *
  obtain ⟨zn, ra, rc, rs, sa, sc, sv⟩ := z
  simp only at hstep hlen hok hl1 c0 c1 hrs hsm hdef
  clear hz hzo
  generalize hN : rs.length = N at *
  have HNS := Go.Lib.hid hns
  have HSO := Go.Lib.hid hso
  have HSM := Go.Lib.hid hsm
  have HSTEP := Go.Lib.hid hstep
  have HLEN := Go.Lib.hid hlen
  have HOK := Go.Lib.hid hok
  have HRS := Go.Lib.hid hrs
  have HN := Go.Lib.hid hN
  have HDEF := Go.Lib.hid hdef
  have HS0 := Go.Lib.hid hs
  have HR0 := Go.Lib.hid hR
  clear hns hso hsm hstep hlen hok hrs hN hdef hs hR
  cases s1 with
  | true =>
    by_cases h2 : t = 2
    · have HFIN : Hid (R = NS) := Go.Lib.hid (by rw [HDEF.out]; simp [h2])
      subst h2
      go_enter Tryz.func38, Tryz.ntmps38
      go_wp2_with fail
      refine (HSM.out _).mono ?_; rintro e W1 ⟨rfl, hx⟩
      have HX := Go.Lib.hid hx
      clear hx
      go_wp2_with fail
      refine (HNS.out _ HX.out).mono ?_; rintro e W2 ⟨v, rfl, hv, hx2⟩
      have HX2 := Go.Lib.hid (HX.out.trans (hx2.mono HX.out.size))
      have HV := Go.Lib.hid hv
      clear hv
      clear hx2
      go_wp2_with fail
      go_ret
      exact ⟨_, rfl, by rw [HFIN.out]; exact owns_lower HV.out HX.out.size, HX2.out⟩
    · by_cases h6 : t = 6
      · have HFIN : Hid (R = [SO]) := Go.Lib.hid (by rw [HDEF.out]; simp [h6])
        subst h6
        clear h2
        obtain ⟨on, ot, oc, ol, od⟩ := SO
        simp only [rrV] at HSO
        go_enter Tryz.func38, Tryz.ntmps38
        go_wp2_with fail
        refine (HSM.out _).mono ?_; rintro e W1 ⟨rfl, hx⟩
        have HX := Go.Lib.hid hx
        clear hx
        go_wp2_with fail
        refine (HSO.out _ HX.out).mono ?_; rintro e W2 ⟨rfl, hx2⟩
        have HX2 := Go.Lib.hid (HX.out.trans (hx2.mono HX.out.size))
        clear hx2
        go_wp2_with fail
        go_ret
        refine ⟨_, rfl, ?_, HX2.out.alloc HX2.out.size _⟩
        rw [HFIN.out]
        exact ⟨rfl, .inr ⟨W2.heap.size, 1, _, rfl, HX2.out.size, World.alloc_heap_new _ _, Nat.le_refl _, by unfold maxLen; omega, rfl, rfl⟩⟩
      · have q2 : (t == 2) = false := beq_eq_false_iff_ne.2 h2
        have q6 : (t == 6) = false := beq_eq_false_iff_ne.2 h6
        have HFIN : Hid (R = ofK n t rs N) := Go.Lib.hid (by rw [HDEF.out]; simp [h2, h6])
        clear HDEF
        go_enter Tryz.func38, Tryz.ntmps38
        go_wp2_with fail
        refine (HSM.out _).mono ?_; rintro e W1 ⟨rfl, hx⟩
        have hbw := hx
        have c0 := (hx.cell (p := ⟨b, o, none⟩) hbl).trans c0
        have c1 := (hx.cell (p := ⟨b, o + 1, none⟩) hbl).trans c1
        have hrs1 := HRS.out.below hx (Nat.le_refl _)
        have HX := Go.Lib.hid hx
        have HBW := Go.Lib.hid hbw
        have HRS1 := Go.Lib.hid hrs1
        clear hx hbw hrs1
        go_wp2_with fail
        go_loopw [6, 38] (fun v i wr => ∃ k : Nat, i = .int .i64 k ∧ k ≤ N ∧ wr.ownsRow W1.heap.size 43 5 v (ofK n t rs k).length (encR (ofK n t rs k)) ∧ Below W1.heap.size W1 wr) (fun _ i _ => N - (intOf i).toNat)
        case atStart => exact ⟨0, rfl, Nat.zero_le _, World.ownsRow_nil _ _ _ _, Below.refl _ _⟩
        case round =>
          obtain ⟨k, rfl, hk, hown, hbr⟩ := hrel
          have hws := hbr.size
          have hlk := HLEN.out k
          have hwb := HBW.out.size
          by_cases hlt : k < N
          · have hsw : RRs wr (.slice ra rs.length rc) rs := by rw [HN.out]; exact HRS1.out.below hbr (Nat.le_refl _)
            obtain ⟨b2, off, rfl, hbb, hcell⟩ := RRs.at hsw (by rw [HN.out]; omega)
            obtain ⟨d0, d1, d2, d3, d4⟩ := hcell k (by rw [HN.out]; exact hlt)
            have hrk := HOK.out (rs.getD k r0) (by rw [List.getD_eq_getElem?_getD, List.getElem?_eq_getElem (by rw [HN.out]; exact hlt)]; exact List.getElem_mem _)
            have hst := HSTEP.out k hlt
            have hlt2 : (k : Int) < (N : Int) := by omega
            have w1 : IntKind.i64.wrap ((k : Int) + 1) = (k : Int) + 1 := wrapi (by omega) (by omega)
            clear hsw hcell
            generalize rs.getD k r0 = r at *
            have hof : ofF n t r = (Nm.sameN r.name n && decide (r.ty = t)) := rfl
            have hon := one_rr r
            have hsn := fun W => sameM r.name n W hrk.1 hn
            have hsnoc : ∀ L : List Rc.RR, encR (L ++ [r]) = encR L ++ [.string (mk r.name), .int .i64 r.ty, .int .i64 r.cl, .int .i64 r.ttl, .string (mk r.data)] := fun L => encR_snoc L r
            generalize ofF n t r = f1 at *
            obtain ⟨rn, ty, cl, tl, rd⟩ := r
            simp only at d0 d1 d2 d3 d4 hof hon hsn hsnoc
            obtain ⟨Y, hY⟩ : ∃ Y, wr.alloc (.cells #[.string (mk rn), .int .i64 ty, .int .i64 cl, .int .i64 tl, .string (mk rd)] 43) = Y := ⟨_, rfl⟩
            have gY : Y.heap[wr.heap.size]? = some (.cells #[.string (mk rn), .int .i64 ty, .int .i64 cl, .int .i64 tl, .string (mk rd)] 43 (0, 0)) := by rw [← hY]; exact World.alloc_heap_new _ _
            have hbY : Below wr.heap.size wr Y := by rw [← hY]; exact (Below.refl _ wr).alloc (Nat.le_refl _) _
            have hbWY := hbr.trans (hbY.mono hws)
            have hownY := owns_below hown hbY
            have e0 : Y.cell? ⟨wr.heap.size, 0, none⟩ = some (.string (mk rn)) := row_cell gY 0 _ rfl
            have hzY := hbWY.size
            generalize hL : ofK n t rs k = L at *
            generalize hM : L.length = M at *
            generalize hs2 : Nm.sameN rn n = s2 at *
            have HST := Go.Lib.hid hst
            have HBWY := Go.Lib.hid hbWY
            have HOY := Go.Lib.hid hownY
            have GY := Go.Lib.hid gY
            have HBY := Go.Lib.hid hbY
            have HON := Go.Lib.hid hon
            have HL0 := Go.Lib.hid hL
            have HM := Go.Lib.hid hM
            have HSNOC := Go.Lib.hid hsnoc
            have HS2 := Go.Lib.hid hs2
            have HSN := Go.Lib.hid hsn
            have HRK := Go.Lib.hid hrk
            have HOF := Go.Lib.hid hof
            clear hst hbWY hownY gY hbY hon hL hM hsnoc hs2 hsn hrk hof
            clear hown hbr
            go_wp2_with fail
            refine (HSN.out _).mono ?_; rintro e Z ⟨rfl, hz⟩
            have hownZ := owns_below HOY.out hz
            have hbZ := HBWY.out.trans (hz.mono HBWY.out.size)
            have gZ := heap_later hz GY.out
            have hzz := hz.size
            have m0 : Z.cell? ⟨wr.heap.size, 0, none⟩ = some (.string (mk rn)) := row_cell gZ 0 _ rfl
            have m1 : Z.cell? ⟨wr.heap.size, 1, none⟩ = some (.int .i64 ty) := row_cell gZ 1 _ rfl
            have m2 : Z.cell? ⟨wr.heap.size, 2, none⟩ = some (.int .i64 cl) := row_cell gZ 2 _ rfl
            have m3 : Z.cell? ⟨wr.heap.size, 3, none⟩ = some (.int .i64 tl) := row_cell gZ 3 _ rfl
            have m4 : Z.cell? ⟨wr.heap.size, 4, none⟩ = some (.string (mk rd)) := row_cell gZ 4 _ rfl
            clear hz gZ e0 hY
            cases s2 with
            | false =>
              have hf1 : ofK n t rs (k + 1) = L := by rw [HST.out, HOF.out]; rfl
              have HOZ := Go.Lib.hid hownZ
              have HBZ := Go.Lib.hid hbZ
              have HF1 := Go.Lib.hid hf1
              clear hownZ hbZ hf1
              clear HOF HST
              go_wp2_with fail
              go_roundw
              case rel => exact ⟨k + 1, by go_num, by omega, by rw [HF1.out, HM.out]; exact HOZ.out, HBZ.out⟩
              case measure => simp [intOf]; omega
            | true =>
              by_cases hty : ty = t
              · have hf1 : ofK n t rs (k + 1) = L ++ [⟨rn, ty, cl, tl, rd⟩] := by rw [HST.out, HOF.out]; simp [hty]
                subst hty
                have hownZ2 := hownZ.alloc (.cells #[.string (mk rn), .int .i64 ty, .int .i64 cl, .int .i64 tl, .string (mk rd)] 43)
                have hbZ2 := hbZ.alloc hbZ.size (.cells #[.string (mk rn), .int .i64 ty, .int .i64 cl, .int .i64 tl, .string (mk rd)] 43)
                have hzz2 := hbZ2.size
                have hnc2 := new_cells Z [.string (mk rn), .int .i64 ty, .int .i64 cl, .int .i64 tl, .string (mk rd)] 43
                have HOZ := Go.Lib.hid hownZ2
                have HBZ := Go.Lib.hid hbZ2
                have HNC := Go.Lib.hid hnc2
                have HF1 := Go.Lib.hid hf1
                clear hownZ2 hbZ2 hnc2 hf1
                clear hownZ hbZ HOF HST
                go_wp2_with (at_builtin; refine wpList_app1 eiRR (.tmp 52) (.tmp 54) rfl rfl W1.heap.size rfl rfl HOZ.out (news := [.string (mk rn), .int .i64 ty, .int .i64 cl, .int .i64 tl, .string (mk rd)]) rfl HNC.out HON.out (by unfold maxLen; omega) (by omega) (by omega) ?_; intro v5 W5 hown5 hg5 hsn5)
                have hb5 : Below W1.heap.size W1 W5 := below_app HBZ.out HOZ.out hg5 (Nat.le_refl _) hzz2
                have HO5 := Go.Lib.hid hown5
                have HB5 := Go.Lib.hid hb5
                clear hown5 hb5
                clear hg5 hsn5
                go_roundw
                case rel => exact ⟨k + 1, by go_num, by omega, by rw [HF1.out, List.length_append, HSNOC.out, HM.out]; exact HO5.out, HB5.out⟩
                case measure => simp [intOf]; omega
              · have hf1 : ofK n t rs (k + 1) = L := by rw [HST.out, HOF.out]; simp [hty]
                have htyb : (ty == t) = false := beq_eq_false_iff_ne.2 hty
                have HOZ := Go.Lib.hid hownZ
                have HBZ := Go.Lib.hid hbZ
                have HF1 := Go.Lib.hid hf1
                clear hownZ hbZ hf1
                clear HOF HST
                go_wp2_with fail
                go_roundw
                case rel => exact ⟨k + 1, by go_num, by omega, by rw [HF1.out, HM.out]; exact HOZ.out, HBZ.out⟩
                case measure => simp [intOf]; omega
          · have hke : k = N := by omega
            rw [hke] at hown
            have hlt2 : ¬ (k : Int) < (N : Int) := by omega
            have hbf := HBW.out.trans (hbr.mono HBW.out.size)
            have HOWN := Go.Lib.hid hown
            have HBR := Go.Lib.hid hbf
            clear hown hbf
            go_wp2_with fail
            go_ret
            exact ⟨_, rfl, by rw [HFIN.out]; exact owns_lower HOWN.out HBW.out.size, HBR.out⟩
  | false =>
    have HFIN : Hid (R = ofK n t rs N) := Go.Lib.hid (by rw [HDEF.out]; simp)
    clear HDEF
    go_enter Tryz.func38, Tryz.ntmps38
    go_wp2_with fail
    refine (HSM.out _).mono ?_; rintro e W1 ⟨rfl, hx⟩
    have hbw := hx
    have c0 := (hx.cell (p := ⟨b, o, none⟩) hbl).trans c0
    have c1 := (hx.cell (p := ⟨b, o + 1, none⟩) hbl).trans c1
    have hrs1 := HRS.out.below hx (Nat.le_refl _)
    have HX := Go.Lib.hid hx
    have HBW := Go.Lib.hid hbw
    have HRS1 := Go.Lib.hid hrs1
    clear hx hbw hrs1
    go_wp2_with fail
    go_loopw [6, 38] (fun v i wr => ∃ k : Nat, i = .int .i64 k ∧ k ≤ N ∧ wr.ownsRow W1.heap.size 43 5 v (ofK n t rs k).length (encR (ofK n t rs k)) ∧ Below W1.heap.size W1 wr) (fun _ i _ => N - (intOf i).toNat)
    case atStart => exact ⟨0, rfl, Nat.zero_le _, World.ownsRow_nil _ _ _ _, Below.refl _ _⟩
    case round =>
      obtain ⟨k, rfl, hk, hown, hbr⟩ := hrel
      have hws := hbr.size
      have hlk := HLEN.out k
      have hwb := HBW.out.size
      by_cases hlt : k < N
      · have hsw : RRs wr (.slice ra rs.length rc) rs := by rw [HN.out]; exact HRS1.out.below hbr (Nat.le_refl _)
        obtain ⟨b2, off, rfl, hbb, hcell⟩ := RRs.at hsw (by rw [HN.out]; omega)
        obtain ⟨d0, d1, d2, d3, d4⟩ := hcell k (by rw [HN.out]; exact hlt)
        have hrk := HOK.out (rs.getD k r0) (by rw [List.getD_eq_getElem?_getD, List.getElem?_eq_getElem (by rw [HN.out]; exact hlt)]; exact List.getElem_mem _)
        have hst := HSTEP.out k hlt
        have hlt2 : (k : Int) < (N : Int) := by omega
        have w1 : IntKind.i64.wrap ((k : Int) + 1) = (k : Int) + 1 := wrapi (by omega) (by omega)
        clear hsw hcell
        generalize rs.getD k r0 = r at *
        have hof : ofF n t r = (Nm.sameN r.name n && decide (r.ty = t)) := rfl
        have hon := one_rr r
        have hsn := fun W => sameM r.name n W hrk.1 hn
        have hsnoc : ∀ L : List Rc.RR, encR (L ++ [r]) = encR L ++ [.string (mk r.name), .int .i64 r.ty, .int .i64 r.cl, .int .i64 r.ttl, .string (mk r.data)] := fun L => encR_snoc L r
        generalize ofF n t r = f1 at *
        obtain ⟨rn, ty, cl, tl, rd⟩ := r
        simp only at d0 d1 d2 d3 d4 hof hon hsn hsnoc
        obtain ⟨Y, hY⟩ : ∃ Y, wr.alloc (.cells #[.string (mk rn), .int .i64 ty, .int .i64 cl, .int .i64 tl, .string (mk rd)] 43) = Y := ⟨_, rfl⟩
        have gY : Y.heap[wr.heap.size]? = some (.cells #[.string (mk rn), .int .i64 ty, .int .i64 cl, .int .i64 tl, .string (mk rd)] 43 (0, 0)) := by rw [← hY]; exact World.alloc_heap_new _ _
        have hbY : Below wr.heap.size wr Y := by rw [← hY]; exact (Below.refl _ wr).alloc (Nat.le_refl _) _
        have hbWY := hbr.trans (hbY.mono hws)
        have hownY := owns_below hown hbY
        have e0 : Y.cell? ⟨wr.heap.size, 0, none⟩ = some (.string (mk rn)) := row_cell gY 0 _ rfl
        have hzY := hbWY.size
        generalize hL : ofK n t rs k = L at *
        generalize hM : L.length = M at *
        generalize hs2 : Nm.sameN rn n = s2 at *
        have HST := Go.Lib.hid hst
        have HBWY := Go.Lib.hid hbWY
        have HOY := Go.Lib.hid hownY
        have GY := Go.Lib.hid gY
        have HBY := Go.Lib.hid hbY
        have HON := Go.Lib.hid hon
        have HL0 := Go.Lib.hid hL
        have HM := Go.Lib.hid hM
        have HSNOC := Go.Lib.hid hsnoc
        have HS2 := Go.Lib.hid hs2
        have HSN := Go.Lib.hid hsn
        have HRK := Go.Lib.hid hrk
        have HOF := Go.Lib.hid hof
        clear hst hbWY hownY gY hbY hon hL hM hsnoc hs2 hsn hrk hof
        clear hown hbr
        go_wp2_with fail
        refine (HSN.out _).mono ?_; rintro e Z ⟨rfl, hz⟩
        have hownZ := owns_below HOY.out hz
        have hbZ := HBWY.out.trans (hz.mono HBWY.out.size)
        have gZ := heap_later hz GY.out
        have hzz := hz.size
        have m0 : Z.cell? ⟨wr.heap.size, 0, none⟩ = some (.string (mk rn)) := row_cell gZ 0 _ rfl
        have m1 : Z.cell? ⟨wr.heap.size, 1, none⟩ = some (.int .i64 ty) := row_cell gZ 1 _ rfl
        have m2 : Z.cell? ⟨wr.heap.size, 2, none⟩ = some (.int .i64 cl) := row_cell gZ 2 _ rfl
        have m3 : Z.cell? ⟨wr.heap.size, 3, none⟩ = some (.int .i64 tl) := row_cell gZ 3 _ rfl
        have m4 : Z.cell? ⟨wr.heap.size, 4, none⟩ = some (.string (mk rd)) := row_cell gZ 4 _ rfl
        clear hz gZ e0 hY
        cases s2 with
        | false =>
          have hf1 : ofK n t rs (k + 1) = L := by rw [HST.out, HOF.out]; rfl
          have HOZ := Go.Lib.hid hownZ
          have HBZ := Go.Lib.hid hbZ
          have HF1 := Go.Lib.hid hf1
          clear hownZ hbZ hf1
          clear HOF HST
          go_wp2_with fail
          go_roundw
          case rel => exact ⟨k + 1, by go_num, by omega, by rw [HF1.out, HM.out]; exact HOZ.out, HBZ.out⟩
          case measure => simp [intOf]; omega
        | true =>
          by_cases hty : ty = t
          · have hf1 : ofK n t rs (k + 1) = L ++ [⟨rn, ty, cl, tl, rd⟩] := by rw [HST.out, HOF.out]; simp [hty]
            subst hty
            have hownZ2 := hownZ.alloc (.cells #[.string (mk rn), .int .i64 ty, .int .i64 cl, .int .i64 tl, .string (mk rd)] 43)
            have hbZ2 := hbZ.alloc hbZ.size (.cells #[.string (mk rn), .int .i64 ty, .int .i64 cl, .int .i64 tl, .string (mk rd)] 43)
            have hzz2 := hbZ2.size
            have hnc2 := new_cells Z [.string (mk rn), .int .i64 ty, .int .i64 cl, .int .i64 tl, .string (mk rd)] 43
            have HOZ := Go.Lib.hid hownZ2
            have HBZ := Go.Lib.hid hbZ2
            have HNC := Go.Lib.hid hnc2
            have HF1 := Go.Lib.hid hf1
            clear hownZ2 hbZ2 hnc2 hf1
            clear hownZ hbZ HOF HST
            go_wp2_with (at_builtin; refine wpList_app1 eiRR (.tmp 52) (.tmp 54) rfl rfl W1.heap.size rfl rfl HOZ.out (news := [.string (mk rn), .int .i64 ty, .int .i64 cl, .int .i64 tl, .string (mk rd)]) rfl HNC.out HON.out (by unfold maxLen; omega) (by omega) (by omega) ?_; intro v5 W5 hown5 hg5 hsn5)
            have hb5 : Below W1.heap.size W1 W5 := below_app HBZ.out HOZ.out hg5 (Nat.le_refl _) hzz2
            have HO5 := Go.Lib.hid hown5
            have HB5 := Go.Lib.hid hb5
            clear hown5 hb5
            clear hg5 hsn5
            go_roundw
            case rel => exact ⟨k + 1, by go_num, by omega, by rw [HF1.out, List.length_append, HSNOC.out, HM.out]; exact HO5.out, HB5.out⟩
            case measure => simp [intOf]; omega
          · have hf1 : ofK n t rs (k + 1) = L := by rw [HST.out, HOF.out]; simp [hty]
            have htyb : (ty == t) = false := beq_eq_false_iff_ne.2 hty
            have HOZ := Go.Lib.hid hownZ
            have HBZ := Go.Lib.hid hbZ
            have HF1 := Go.Lib.hid hf1
            clear hownZ hbZ hf1
            clear HOF HST
            go_wp2_with fail
            go_roundw
            case rel => exact ⟨k + 1, by go_num, by omega, by rw [HF1.out, HM.out]; exact HOZ.out, HBZ.out⟩
            case measure => simp [intOf]; omega
      · have hke : k = N := by omega
        rw [hke] at hown
        have hlt2 : ¬ (k : Int) < (N : Int) := by omega
        have hbf := HBW.out.trans (hbr.mono HBW.out.size)
        have HOWN := Go.Lib.hid hown
        have HBR := Go.Lib.hid hbf
        clear hown hbf
        go_wp2_with fail
        go_ret
        exact ⟨_, rfl, by rw [HFIN.out]; exact owns_lower HOWN.out HBW.out.size, HBR.out⟩
end Go.Proofs.YtkpcmnckdappnaaGreat

/- Tree: the contracts of has, slices.Contains at names, chain. -/
namespace Go.Proofs.YtkpcmnckdappnaaGreat
open Go.RowKit Go.Sort Go.Lib
set_option maxRecDepth 100000
set_option linter.unusedVariables false
set_option linter.unusedSimpArgs false

theorem has1_any (x : Rc.RR) (n : List UInt8) (B : Nat) (W : World) (hx : x.name.length ≤ maxLen) (hn : n.length ≤ maxLen) (hB : W.heap[B]? = some (.cells #[.string (mk n)] 9 (0, 0))) :
    Calls Tryz.prog 95 #[rrV x, .pointer (some ⟨B, 0, none⟩)] W fun e w' => e = .returned (.bool (Nm.underN x.name n)) ∧ Below W.heap.size W w' := by
  obtain ⟨xn, xt, xc, xl, xd⟩ := x
  obtain ⟨Y, hY⟩ : ∃ Y, W.alloc (.cells #[.string (mk xn), .int .i64 xt, .int .i64 xc, .int .i64 xl, .string (mk xd)] 43) = Y := ⟨_, rfl⟩
  have gY : Y.heap[W.heap.size]? = some (.cells #[.string (mk xn), .int .i64 xt, .int .i64 xc, .int .i64 xl, .string (mk xd)] 43 (0, 0)) := by rw [← hY]; exact World.alloc_heap_new _ _
  have hbY : Below W.heap.size W Y := by rw [← hY]; exact (Below.refl _ W).alloc (Nat.le_refl _) _
  have k1 : Y.cell? ⟨W.heap.size, 0, none⟩ = some (.string (mk xn)) := row_cell gY 0 _ rfl
  have k2 : Y.cell? ⟨B, 0, none⟩ = some (.string (mk n)) := row_cell (heap_later hbY hB) 0 _ rfl
  have hs := underM xn n Y hx hn
  simp only [rrV]
  generalize Nm.underN xn n = q at *
  clear hB gY
  have HBY := Go.Lib.hid hbY
  have HS := Go.Lib.hid hs
  clear hbY hs
  go_enter Tryz.func95, Tryz.ntmps95
  go_wp2_with fail
  refine HS.out.mono ?_; rintro e wb ⟨rfl, hx⟩
  have HX := Go.Lib.hid hx
  clear hx
  go_wp2_with fail
  go_ret
  exact ⟨rfl, HBY.out.trans (HX.out.mono HBY.out.size)⟩
theorem has2_any (z : Zn) (n : List UInt8) (B : Nat) (W : World) (hz : z.nm.length ≤ maxLen) (hn : n.length ≤ maxLen) (hB : W.heap[B]? = some (.cells #[.string (mk n)] 9 (0, 0))) :
    Calls Tryz.prog 96 #[znV z, .pointer (some ⟨B, 0, none⟩)] W fun e w' => e = .returned (.bool (Nm.underN z.nm n)) ∧ Below W.heap.size W w' := by
  obtain ⟨zn, ra, rc, rs, sa, sc, sv⟩ := z
  simp only at hz
  obtain ⟨Y, hY⟩ : ∃ Y, W.alloc (.cells #[.string (mk zn), .slice ra rs.length rc, .slice sa sv.length sc] 50) = Y := ⟨_, rfl⟩
  have gY : Y.heap[W.heap.size]? = some (.cells #[.string (mk zn), .slice ra rs.length rc, .slice sa sv.length sc] 50 (0, 0)) := by rw [← hY]; exact World.alloc_heap_new _ _
  have hbY : Below W.heap.size W Y := by rw [← hY]; exact (Below.refl _ W).alloc (Nat.le_refl _) _
  have k1 : Y.cell? ⟨W.heap.size, 0, none⟩ = some (.string (mk zn)) := row_cell gY 0 _ rfl
  have k2 : Y.cell? ⟨B, 0, none⟩ = some (.string (mk n)) := row_cell (heap_later hbY hB) 0 _ rfl
  have hs := underM zn n Y hz hn
  simp only
  generalize Nm.underN zn n = q at *
  clear hB gY
  have HBY := Go.Lib.hid hbY
  have HS := Go.Lib.hid hs
  clear hbY hs
  go_enter Tryz.func96, Tryz.ntmps96
  go_wp2_with fail
  refine HS.out.mono ?_; rintro e wb ⟨rfl, hx⟩
  have HX := Go.Lib.hid hx
  clear hx
  go_wp2_with fail
  go_ret
  exact ⟨rfl, HBY.out.trans (HX.out.mono HBY.out.size)⟩
set_option maxHeartbeats 8000000 in
theorem has_any (tb : Nat) (T : List Zn) (z : Zn) (b o : Nat) (n : List UInt8) (w : World) (ht : TRo tb T w) (hz : ZP w b o z) (hzo : ZnOk z) (hn : n.length ≤ maxLen) :
    Calls Tryz.prog 72 #[.pointer (some ⟨tb, 0, none⟩), .pointer (some ⟨b, o, none⟩), .string (mk n)] w fun e w' => e = .returned (.bool (hasP (T.map Zn.p) z.p n)) ∧ Below w.heap.size w w' := by
  have mixed : Tryz.prog.follows .mixedOrders = true := by kernel_rfl
  have hT2 : (T.map Zn.p).any (fun x => Nm.underN x.nm n) = T.any fun x => Nm.underN x.nm n := by rw [List.any_map]; rfl
  have hdef : hasP (T.map Zn.p) z.p n = (Nm.sameN n z.nm || (z.rs.any (fun r => Nm.underN r.name n) || T.any fun x => Nm.underN x.nm n)) := by rw [← hT2]; rfl
  obtain ⟨Y, hY⟩ : ∃ Y, w.alloc (.cells #[.string (mk n)] 9) = Y := ⟨_, rfl⟩
  have gY : Y.heap[w.heap.size]? = some (.cells #[.string (mk n)] 9 (0, 0)) := by rw [← hY]; exact World.alloc_heap_new _ _
  have hbY : Below w.heap.size w Y := by rw [← hY]; exact (Below.refl _ w).alloc (Nat.le_refl _) _
  have hzY := hz.below hbY
  have htY := ht.below hbY
  obtain ⟨⟨a, c, hta⟩, hok, hlen⟩ := htY
  have hsm := fun W => sameM n z.nm W hn hzo.nmM
  have hl1 := hzo.l1
  have hh1 := fun W (h : Below Y.heap.size Y W) => hasR_any 95 #[.pointer (some ⟨w.heap.size, 0, none⟩)] (fun r => Nm.underN r.name n) z.ra z.rc z.rs W ((hzY.below h).zt.rs) (by omega) (enters_of Tryz.func95 (by kernel_rfl) rfl)
    (fun W' r hr hb => has1_any r n w.heap.size W' (hzo.rs r hr).1 hn (heap_later hb (heap_later h gY)))
  have hh2 := fun W (h : Below Y.heap.size Y W) => hasZ_any 96 #[.pointer (some ⟨w.heap.size, 0, none⟩)] (fun x => Nm.underN x.nm n) a c T W ((hta.below h).zs) (by omega) (enters_of Tryz.func96 (by kernel_rfl) rfl)
    (fun W' r hr hb => has2_any r n w.heap.size W' (hok r hr).nmM hn (heap_later hb (heap_later h gY)))
  have D0 := BelowC.cell (W := Y) hzY.c0 hzY.lt
  have D1 := BelowC.cell (W := Y) hzY.c1 hzY.lt
  have D2 := BelowC.cell (W := Y) hta.cell hta.lt
  have D3 := BelowC.cell (W := Y) (row_cell gY 0 (.string (mk n)) rfl) (Array.getElem?_eq_some_iff.1 gY).1
  have hne : Nonempty (Subtype (Below Y.heap.size Y)) := ⟨⟨Y, Below.refl _ _⟩⟩
  have HBC := Go.Lib.hid (show Below Y.heap.size Y Y.drew from (Below.refl Y.heap.size Y).drew)
  generalize hasP (T.map Zn.p) z.p n = R at *
  generalize z.rs.any (fun r => Nm.underN r.name n) = b2 at *
  generalize (T.any fun x => Nm.underN x.nm n) = b3 at *
  obtain ⟨zn, ra, rc, rs, sa, sc, sv⟩ := z
  simp only at hsm hh1 D0 D1 hdef
  generalize Nm.sameN n zn = b1 at *
  generalize rs.length = N at *
  generalize T.length = M at *
  clear hz hzo ht hzY hta hok gY hT2
  have HBY := Go.Lib.hid hbY
  have HSM := Go.Lib.hid hsm
  have HH1 := Go.Lib.hid hh1
  have HH2 := Go.Lib.hid hh2
  have HDEF := Go.Lib.hid hdef
  clear hbY hsm hh1 hh2 hdef
  cases b1 with
  | true =>
    have HFIN : Hid (R = true) := Go.Lib.hid (by rw [HDEF.out]; rfl)
    go_enter Tryz.func72, Tryz.ntmps72
    go_wp2_with fail
    refine Go.Mix.wp_region_mix (Es := [5, 12, 20]) (Below Y.heap.size Y) mixed (by kernel_rfl) (Below.refl _ _).drew (fun _ => ?_)
    iterate 5 (refine Go.Mix.mix_step rfl (fun K hK => ?_); have HKK := Go.Lib.hid hK; clear hK; go_simp; refine HKK.out _ _ ?_; clear HKK K)
    refine Go.Mix.mix_eff rfl (fun K hK => ?_)
    have HKK := Go.Lib.hid hK
    clear hK
    go_simp
    refine (HSM.out _).mono ?_; rintro e wb1 ⟨rfl, hx⟩
    have hb := HBC.out.trans (hx.mono HBC.out.size)
    clear HBC
    have HBC := Go.Lib.hid hb
    clear hx hb
    go_simp
    refine HKK.out _ _ HBC.out ?_
    clear HKK K
    iterate 6 (refine Go.Mix.mix_step rfl (fun K hK => ?_); have HKK := Go.Lib.hid hK; clear hK; go_simp; refine HKK.out _ _ ?_; clear HKK K)
    refine Go.Mix.mix_eff rfl (fun K hK => ?_)
    have HKK := Go.Lib.hid hK
    clear hK
    go_simp
    refine HKK.out _ _ HBC.out ?_
    clear HKK K
    iterate 7 (refine Go.Mix.mix_step rfl (fun K hK => ?_); have HKK := Go.Lib.hid hK; clear hK; go_simp; refine HKK.out _ _ ?_; clear HKK K)
    refine Go.Mix.mix_eff rfl (fun K hK => ?_)
    have HKK := Go.Lib.hid hK
    clear hK
    go_simp
    refine HKK.out _ _ HBC.out ?_
    clear HKK K
    iterate 2 (refine Go.Mix.mix_step rfl (fun K hK => ?_); have HKK := Go.Lib.hid hK; clear hK; go_simp; refine HKK.out _ _ ?_; clear HKK K)
    refine Go.Mix.mix_nil ?_
    go_wp2_with fail
    go_ret
    exact ⟨ret_bool HFIN.out.symm, HBY.out.trans (HBC.out.mono HBY.out.size)⟩
  | false =>
  cases b2 with
  | true =>
    have HFIN : Hid (R = true) := Go.Lib.hid (by rw [HDEF.out]; rfl)
    go_enter Tryz.func72, Tryz.ntmps72
    go_wp2_with fail
    refine Go.Mix.wp_region_mix (Es := [5, 12, 20]) (Below Y.heap.size Y) mixed (by kernel_rfl) (Below.refl _ _).drew (fun _ => ?_)
    iterate 5 (refine Go.Mix.mix_step rfl (fun K hK => ?_); have HKK := Go.Lib.hid hK; clear hK; go_simp; refine HKK.out _ _ ?_; clear HKK K)
    refine Go.Mix.mix_eff rfl (fun K hK => ?_)
    have HKK := Go.Lib.hid hK
    clear hK
    go_simp
    refine (HSM.out _).mono ?_; rintro e wb2 ⟨rfl, hx⟩
    have hb := HBC.out.trans (hx.mono HBC.out.size)
    clear HBC
    have HBC := Go.Lib.hid hb
    clear hx hb
    go_simp
    refine HKK.out _ _ HBC.out ?_
    clear HKK K
    iterate 6 (refine Go.Mix.mix_step rfl (fun K hK => ?_); have HKK := Go.Lib.hid hK; clear hK; go_simp; refine HKK.out _ _ ?_; clear HKK K)
    refine Go.Mix.mix_eff rfl (fun K hK => ?_)
    have HKK := Go.Lib.hid hK
    clear hK
    go_simp
    refine (HH1.out _ HBC.out).mono ?_; rintro e wb3 ⟨rfl, hx⟩
    have hb := HBC.out.trans (hx.mono HBC.out.size)
    clear HBC
    have HBC := Go.Lib.hid hb
    clear hx hb
    go_simp
    refine HKK.out _ _ HBC.out ?_
    clear HKK K
    iterate 7 (refine Go.Mix.mix_step rfl (fun K hK => ?_); have HKK := Go.Lib.hid hK; clear hK; go_simp; refine HKK.out _ _ ?_; clear HKK K)
    refine Go.Mix.mix_eff rfl (fun K hK => ?_)
    have HKK := Go.Lib.hid hK
    clear hK
    go_simp
    refine HKK.out _ _ HBC.out ?_
    clear HKK K
    iterate 2 (refine Go.Mix.mix_step rfl (fun K hK => ?_); have HKK := Go.Lib.hid hK; clear hK; go_simp; refine HKK.out _ _ ?_; clear HKK K)
    refine Go.Mix.mix_nil ?_
    go_wp2_with fail
    go_ret
    exact ⟨ret_bool HFIN.out.symm, HBY.out.trans (HBC.out.mono HBY.out.size)⟩
  | false =>
    have HFIN : Hid (R = b3) := Go.Lib.hid (by rw [HDEF.out]; rfl)
    go_enter Tryz.func72, Tryz.ntmps72
    go_wp2_with fail
    refine Go.Mix.wp_region_mix (Es := [5, 12, 20]) (Below Y.heap.size Y) mixed (by kernel_rfl) (Below.refl _ _).drew (fun _ => ?_)
    iterate 5 (refine Go.Mix.mix_step rfl (fun K hK => ?_); have HKK := Go.Lib.hid hK; clear hK; go_simp; refine HKK.out _ _ ?_; clear HKK K)
    refine Go.Mix.mix_eff rfl (fun K hK => ?_)
    have HKK := Go.Lib.hid hK
    clear hK
    go_simp
    refine (HSM.out _).mono ?_; rintro e wb4 ⟨rfl, hx⟩
    have hb := HBC.out.trans (hx.mono HBC.out.size)
    clear HBC
    have HBC := Go.Lib.hid hb
    clear hx hb
    go_simp
    refine HKK.out _ _ HBC.out ?_
    clear HKK K
    iterate 6 (refine Go.Mix.mix_step rfl (fun K hK => ?_); have HKK := Go.Lib.hid hK; clear hK; go_simp; refine HKK.out _ _ ?_; clear HKK K)
    refine Go.Mix.mix_eff rfl (fun K hK => ?_)
    have HKK := Go.Lib.hid hK
    clear hK
    go_simp
    refine (HH1.out _ HBC.out).mono ?_; rintro e wb5 ⟨rfl, hx⟩
    have hb := HBC.out.trans (hx.mono HBC.out.size)
    clear HBC
    have HBC := Go.Lib.hid hb
    clear hx hb
    go_simp
    refine HKK.out _ _ HBC.out ?_
    clear HKK K
    iterate 7 (refine Go.Mix.mix_step rfl (fun K hK => ?_); have HKK := Go.Lib.hid hK; clear hK; go_simp; refine HKK.out _ _ ?_; clear HKK K)
    refine Go.Mix.mix_eff rfl (fun K hK => ?_)
    have HKK := Go.Lib.hid hK
    clear hK
    go_simp
    refine (HH2.out _ HBC.out).mono ?_; rintro e wb6 ⟨rfl, hx⟩
    have hb := HBC.out.trans (hx.mono HBC.out.size)
    clear HBC
    have HBC := Go.Lib.hid hb
    clear hx hb
    go_simp
    refine HKK.out _ _ HBC.out ?_
    clear HKK K
    iterate 2 (refine Go.Mix.mix_step rfl (fun K hK => ?_); have HKK := Go.Lib.hid hK; clear hK; go_simp; refine HKK.out _ _ ?_; clear HKK K)
    refine Go.Mix.mix_nil ?_
    go_wp2_with fail
    go_ret
    exact ⟨ret_bool HFIN.out.symm, HBY.out.trans (HBC.out.mono HBY.out.size)⟩
set_option maxHeartbeats 2000000 in
theorem indexS_any (l : List (List UInt8)) (x : List UInt8) (a : Option Addr) (cap : Nat) (w : World) (hst : Strs w (.slice a l.length cap) l) (hn : l.length ≤ 1099511627776) :
    Calls Tryz.prog 105 #[.slice a l.length cap, .string (mk x)] w fun e w' => e = .returned (.int .i64 (idx (fun y => decide (x = y)) l)) ∧ Below w.heap.size w w' := by
  have HB := Go.Lib.hid (Below.refl w.heap.size w)
  have HST := Go.Lib.hid hst
  clear hst
  generalize hN : l.length = N at *
  have HN := Go.Lib.hid hN
  clear hN
  go_enter Tryz.func105, Tryz.ntmps105
  go_wp2_with fail
  go_loopw [8] (fun i wr => ∃ k : Nat, i = .int .i64 k ∧ k ≤ N ∧ (∀ y ∈ l.take k, decide (x = y) = false) ∧ wr = w) (fun i _ => N - (intOf i).toNat)
  case atStart => exact ⟨0, rfl, by omega, by simp, rfl⟩
  case round =>
    obtain ⟨k, rfl, hk, hall, rfl⟩ := hrel
    have hix := idx_drop (fun y => decide (x = y)) l k hall
    have HALL := Go.Lib.hid hall
    have HIX := Go.Lib.hid hix
    clear hall hix
    by_cases hlt : k < N
    · have hst := HST.out
      rw [← HN.out] at hst
      obtain ⟨b, off, rfl, hbw, hcell⟩ := Strs.at hst (by rw [HN.out]; omega)
      have e0 := hcell k (by rw [HN.out]; exact hlt)
      have hdr : l.drop k = l.getD k [] :: l.drop (k + 1) := by
        rw [List.drop_eq_getElem_cons (by rw [HN.out]; exact hlt)]
        simp [HN.out, hlt]
      have hsn : l.take (k + 1) = l.take k ++ [l.getD k []] := by
        rw [List.take_succ_eq_append_getElem (by rw [HN.out]; exact hlt)]
        simp [HN.out, hlt]
      have HDR := Go.Lib.hid hdr
      have HSN := Go.Lib.hid hsn
      clear hdr hsn
      clear hcell hst
      generalize l.getD k [] = r at *
      have hpr := HIX.out
      rw [HDR.out] at hpr
      simp only [idx] at hpr
      have HPR := Go.Lib.hid hpr
      clear hpr
      by_cases hp : x = r
      · have hfin : Hid (idx (fun y => decide (x = y)) l = (k : Int)) := Go.Lib.hid (by rw [HPR.out]; simp [hp])
        have q0 := beq_mk_true hp
        clear hp HPR HIX
        go_wp2_with fail
        go_ret
        exact ⟨ret_int hfin.out.symm, Below.refl _ _⟩
      · have hall2 : ∀ y ∈ l.take (k + 1), decide (x = y) = false := fun y hy => by
          rw [HSN.out] at hy
          rcases List.mem_append.1 hy with h | h
          · exact HALL.out y h
          · simp at h; rw [h]; simpa using hp
        have q0 := beq_mk_false hp
        have q1 := ne_mk hp
        have HALL2 := Go.Lib.hid hall2
        clear hall2
        clear hp HPR HIX
        go_wp2_with fail
        go_roundw
        case rel => exact ⟨k + 1, by go_num, by omega, HALL2.out, by first | rfl | trivial⟩
        case measure => simp [intOf]; omega
    · have hfin : Hid (idx (fun y => decide (x = y)) l = -1) := Go.Lib.hid (by
        rw [HIX.out, List.drop_of_length_le (by rw [HN.out]; omega)]
        simp [idx])
      clear HIX
      go_wp2_with fail
      go_ret
      exact ⟨ret_int hfin.out.symm, Below.refl _ _⟩
theorem contS_any (l : List (List UInt8)) (x : List UInt8) (a : Option Addr) (cap : Nat) (w : World) (hst : Strs w (.slice a l.length cap) l) (hn : l.length ≤ 1099511627776) :
    Calls Tryz.prog 93 #[.slice a l.length cap, .string (mk x)] w fun e w' => e = .returned (.bool (l.contains x)) ∧ Below w.heap.size w w' := by
  have hi := indexS_any l x a cap w hst hn
  have h1 := idx_any (fun y => decide (x = y)) l
  have hca : l.contains x = l.any fun y => decide (x = y) := by
    rw [List.contains_eq_any_beq]
    congr 1
    funext y
    rw [Bool.eq_iff_iff, beq_iff_eq, decide_eq_true_iff]
  rw [hca]
  have HI := Go.Lib.hid hi
  have HST := Go.Lib.hid hst
  clear hi hst
  by_cases h : 0 ≤ idx (fun y => decide (x = y)) l
  · have hfin : Hid ((l.any fun y => decide (x = y)) = true) := Go.Lib.hid (h1.1 h)
    clear h1 hca
    generalize idx (fun y => decide (x = y)) l = v at *
    generalize l.length = N at *
    go_enter Tryz.func93, Tryz.ntmps93
    go_wp2_with fail
    refine HI.out.mono ?_; rintro e wb ⟨rfl, hx⟩
    have HX := Go.Lib.hid hx
    clear hx
    go_wp2_with fail
    go_ret
    exact ⟨ret_bool hfin.out.symm, HX.out⟩
  · have hfin : Hid ((l.any fun y => decide (x = y)) = false) := Go.Lib.hid (by
      cases hb : (l.any fun y => decide (x = y)) with
      | false => rfl
      | true => exact absurd (h1.2 hb) h)
    clear h1 hca
    generalize idx (fun y => decide (x = y)) l = v at *
    have hd : decide (0 ≤ v) = false := decide_eq_false h
    have hv : v < 0 := by omega
    clear h
    generalize l.length = N at *
    go_enter Tryz.func93, Tryz.ntmps93
    go_wp2_with fail
    refine HI.out.mono ?_; rintro e wb ⟨rfl, hx⟩
    have HX := Go.Lib.hid hx
    clear hx
    go_wp2_with fail
    go_ret
    exact ⟨ret_bool hfin.out.symm, HX.out⟩
end Go.Proofs.YtkpcmnckdappnaaGreat

/- Tree: the contract of chain. -/
namespace Go.Proofs.YtkpcmnckdappnaaGreat
open Go.RowKit Go.Sort Go.Lib
set_option maxRecDepth 100000
set_option linter.unusedVariables false
set_option linter.unusedSimpArgs false

abbrev qnV (n : List UInt8) (t c : Int) : Value := .agg #[.string (mk n), .int .i64 t, .int .i64 c]
def lenV : Value → Nat
  | .slice _ n _ => n
  | _ => 0
theorem chainG_0 (T : List Zp) (z : Zp) (t : Int) (L : List Rc.RR) (n : List UInt8) (met : List (List UInt8)) : chainG T z t 0 L n met = (L, n, true) := by unfold chainG; rfl
theorem chainG_5 (T : List Zp) (z : Zp) (t : Int) (f : Nat) (L : List Rc.RR) (n : List UInt8) (met : List (List UInt8)) (h : t = 5) : chainG T z t f L n met = (L, n, true) := by
  cases f with
  | zero => unfold chainG; rfl
  | succ f => unfold chainG; rw [if_pos h]
theorem chainG_s (T : List Zp) (z : Zp) (t : Int) (f : Nat) (L : List Rc.RR) (n : List UInt8) (met : List (List UInt8)) (h : ¬ t = 5) : chainG T z t (f + 1) L n met = match ofP z n 5 with
    | [] => (L, n, true)
    | x :: _ => if !Nm.underN (targP x.ty x.data).1 z.nm || (belowP T z.nm (targP x.ty x.data).1).isSome then (L ++ [x], (targP x.ty x.data).1, false)
      else if met.contains (Nm.foldN (targP x.ty x.data).1) then (L ++ [x], (targP x.ty x.data).1, true)
      else chainG T z t f (L ++ [x]) (targP x.ty x.data).1 (met ++ [Nm.foldN (targP x.ty x.data).1]) := by
  conv => lhs; unfold chainG
  rw [if_neg h]
  cases ofP z n 5 <;> rfl
theorem targP_len {r : Rc.RR} (h : RROk r) : (targP r.ty r.data).1.length ≤ maxLen := by
  unfold targP
  split
  · simp
  · split
    · simp
    · simp only [List.length_take, List.length_drop]
      have := h.2
      omega
theorem first5 {W : World} {B K bx ox cx : Nat} {xn xd : List UInt8} {xt xc xl : Int} {xs XL : List Rc.RR} (hX : (⟨xn, xt, xc, xl, xd⟩ : Rc.RR) :: xs = XL) (h : W.ownsRow B 43 5 (.slice (some ⟨bx, ox, none⟩) (K + 1) cx) (K + 1) (encR XL)) :
    W.cell? ⟨bx, ox, none⟩ = some (.string (mk xn)) ∧ W.cell? ⟨bx, ox + 1, none⟩ = some (.int .i64 xt) ∧ W.cell? ⟨bx, ox + 2, none⟩ = some (.int .i64 xc) ∧ W.cell? ⟨bx, ox + 3, none⟩ = some (.int .i64 xl) ∧ W.cell? ⟨bx, ox + 4, none⟩ = some (.string (mk xd)) := by
  have hs := SlC.of_owns h
  obtain ⟨_, b, off, ha, hlt, h4⟩ := SlC.at hs (by omega)
  simp only [Option.some.injEq, Addr.mk.injEq, and_true] at ha
  obtain ⟨rfl, rfl⟩ := ha
  have h0 := h4 0 (by omega)
  have h1 := h4 1 (by omega)
  have h2 := h4 2 (by omega)
  have h3 := h4 3 (by omega)
  have h5 := h4 4 (by omega)
  rw [← hX] at h0 h1 h2 h3 h5
  exact ⟨h0, h1, h2, h3, h5⟩
set_option maxHeartbeats 16000000 in
theorem chain_any (tb : Nat) (T : List Zn) (z : Zn) (b o : Nat) (n : List UInt8) (t c : Int) (w : World) (ht : TRo tb T w) (hz : ZP w b o z) (hzo : ZnOk z) (hn : n.length ≤ maxLen) :
    Calls Tryz.prog 70 #[.pointer (some ⟨tb, 0, none⟩), .pointer (some ⟨b, o, none⟩), qnV n t c] w fun e w' => ∃ v, e = .returned (.tuple #[v, .string (mk (chainP (T.map Zn.p) z.p n t).2.1), .bool (chainP (T.map Zn.p) z.p n t).2.2]) ∧ RRs w' v (chainP (T.map Zn.p) z.p n t).1 ∧ Below w.heap.size w w' := by
  have hc0 : chainG (T.map Zn.p) z.p t 8 [] n [Nm.foldN n] = chainP (T.map Zn.p) z.p n t := rfl
  have hcZ := chainG_0 (T.map Zn.p) z.p t
  have hc5 := chainG_5 (T.map Zn.p) z.p t
  have hcs := chainG_s (T.map Zn.p) z.p t
  have hpn : z.p.nm = z.nm := rfl
  simp only [hpn] at hcs
  clear hpn
  generalize chainP (T.map Zn.p) z.p n t = R at *
  have hof := fun nn W (h : Below w.heap.size w W) (hl : nn.length ≤ maxLen) => of_any z b o nn 5 W (hz.below h) hzo hl
  have hog := fun nn => ofP_good hzo nn 5
  have hfo := fun nn W (hl : nn.length ≤ maxLen) => foldM nn W hl
  have hun := fun nn W (hl : nn.length ≤ maxLen) => underM nn z.nm W hl hzo.nmM
  have hbl := fun nn W (h : Below w.heap.size w W) (hl : nn.length ≤ maxLen) => below_any tb T z.nm nn W (ht.below h) hzo.nmM hl
  have c0 := fun W (h : Below w.heap.size w W) => (hz.below h).c0
  obtain ⟨X, hX⟩ : ∃ X, w.alloc (.cells #[.string (mk n), .int .i64 t, .int .i64 c] 29) = X := ⟨_, rfl⟩
  have gX : X.heap[w.heap.size]? = some (.cells #[.string (mk n), .int .i64 t, .int .i64 c] 29 (0, 0)) := by rw [← hX]; exact World.alloc_heap_new _ _
  have hbX : Below w.heap.size w X := by rw [← hX]; exact (Below.refl _ w).alloc (Nat.le_refl _) _
  have k0 : X.cell? ⟨w.heap.size, 0, none⟩ = some (.string (mk n)) := row_cell gX 0 _ rfl
  have k1 : ∀ W, Below X.heap.size X W → W.cell? ⟨w.heap.size, 1, none⟩ = some (.int .i64 t) := fun W h => row_cell (heap_later h gX) 1 _ rfl
  have hfn : ∀ nn : List UInt8, nn.length ≤ maxLen → (mk nn).size = nn.length := fun nn _ => size_mk nn
  generalize T.map Zn.p = TP at *
  generalize z.p = zp at *
  generalize z.nm = zn at *
  clear ht hz hzo gX
  have HOF := Go.Lib.hid hof
  have HOG := Go.Lib.hid hog
  have HFO := Go.Lib.hid hfo
  have HUN := Go.Lib.hid hun
  have HBL := Go.Lib.hid hbl
  have HC0 := Go.Lib.hid c0
  have HBX := Go.Lib.hid hbX
  have HK1 := Go.Lib.hid k1
  have HCH := Go.Lib.hid hc0
  have HCZ := Go.Lib.hid hcZ
  have HC5 := Go.Lib.hid hc5
  have HCS := Go.Lib.hid hcs
  clear hof hog hfo hun hbl c0 hbX k1 hc0 hcZ hc5 hcs
  go_enter Tryz.func70, Tryz.ntmps70
  go_wp2_with fail
  refine (HFO.out n X hn).mono ?_; rintro e W1 ⟨rfl, hx1⟩
  clear hX k0
  have hmet : (W1.alloc (.cells #[.string (mk (Nm.foldN n))] 9)).ownsRow W1.heap.size 9 1 (.slice (some ⟨W1.heap.size, 0, none⟩) 1 1) 1 (encS [Nm.foldN n]) := by
    refine ⟨rfl, .inr ⟨W1.heap.size, 1, _, rfl, Nat.le_refl _, World.alloc_heap_new _ _, Nat.le_refl _, by unfold maxLen; omega, rfl, rfl⟩⟩
  have hb1 : Below X.heap.size X (W1.alloc (.cells #[.string (mk (Nm.foldN n))] 9)) := hx1.alloc hx1.size _
  have hXW1 := hx1.size
  have HMET := Go.Lib.hid hmet
  have HB1 := Go.Lib.hid hb1
  clear hmet hb1
  clear hx1
  go_wp2_with fail
  go_loopw [6, 9, 10] (fun v6 v9 v10 wr => ∃ (f : Nat) (L : List Rc.RR) (nn : List UInt8) (met : List (List UInt8)), v9 = .string (mk nn) ∧ nn.length ≤ maxLen ∧ L.length + f = 8 ∧ met.length ≤ L.length + 1 ∧ chainG TP zp t f L nn met = R ∧
    wr.ownsRow X.heap.size 43 5 v6 L.length (encR L) ∧ wr.ownsRow X.heap.size 9 1 v10 met.length (encS met) ∧ Below X.heap.size X wr) (fun v6 _ _ _ => 8 - lenV v6)
  case atStart => exact ⟨8, [], n, [Nm.foldN n], rfl, hn, rfl, Nat.le_refl _, HCH.out, World.ownsRow_nil _ _ _ _, owns_lower HMET.out hXW1, HB1.out⟩
  case round =>
    clear HMET HB1 HCH hn hXW1
    obtain ⟨f, L, nn, met, rfl, hnn, hLf, hmL, hch, hown, hmt, hbr⟩ := hrel
    obtain ⟨av, cv, rfl, hLc, hcm⟩ := (SlC.of_owns hown).slice
    obtain ⟨am, cm, rfl, _, _⟩ := (SlC.of_owns hmt).slice
    have k1 := HK1.out _ hbr
    have hbw := HBX.out.trans (hbr.mono HBX.out.size)
    have hwr := hbr.size
    generalize hLn : L.length = M at *
    generalize hmn : met.length = Q at *
    by_cases h5 : t = 5
    · have HFIN : Hid (R = (L, nn, true)) := Go.Lib.hid (by rw [← hch]; exact HC5.out f L nn met h5)
      subst h5
      have HOWN := Go.Lib.hid hown
      have HBW := Go.Lib.hid hbw
      have HBR := Go.Lib.hid hbr
      have HMT := Go.Lib.hid hmt
      have HCH := Go.Lib.hid hch
      have HLN := Go.Lib.hid hLn
      have HMN := Go.Lib.hid hmn
      clear hown hbw hbr hmt hch hLn hmn
      go_wp2_with fail
      go_ret3
      exact ⟨_, by rw [HFIN.out]; rfl, by rw [HFIN.out]; exact SlC.of_owns (by rw [HLN.out]; exact HOWN.out), HBW.out⟩
    · have h5a : (t == 5) = false := beq_eq_false_iff_ne.2 h5
      have h5b : (t != 5) = true := bne_iff_ne.2 h5
      cases f with
      | zero =>
        have HFIN : Hid (R = (L, nn, true)) := Go.Lib.hid (by rw [← hch]; exact HCZ.out L nn met)
        obtain rfl : M = 8 := by omega
        have HOWN := Go.Lib.hid hown
        have HBW := Go.Lib.hid hbw
        have HBR := Go.Lib.hid hbr
        have HMT := Go.Lib.hid hmt
        have HCH := Go.Lib.hid hch
        have HLN := Go.Lib.hid hLn
        have HMN := Go.Lib.hid hmn
        clear hown hbw hbr hmt hch hLn hmn
        go_wp2_with fail
        go_ret3
        exact ⟨_, by rw [HFIN.out]; rfl, by rw [HFIN.out]; exact SlC.of_owns (by rw [HLN.out]; exact HOWN.out), HBW.out⟩
      | succ f =>
        rw [HCS.out f L nn met h5] at hch
        have hM8 : (M : Int) < 8 := by omega
        have hof := HOF.out nn wr hbw hnn
        obtain ⟨hol, hor⟩ := HOG.out nn
        generalize ofP zp nn 5 = O at *
        have HOWN := Go.Lib.hid hown
        have HBW := Go.Lib.hid hbw
        have HBR := Go.Lib.hid hbr
        have HMT := Go.Lib.hid hmt
        have HCH := Go.Lib.hid hch
        have HLN := Go.Lib.hid hLn
        have HMN := Go.Lib.hid hmn
        have HO1 := Go.Lib.hid hof
        have HOR := Go.Lib.hid hor
        clear hown hbw hbr hmt hch hLn hmn hof hor
        go_wp2_with fail
        refine HO1.out.mono ?_; rintro e W2 ⟨vx, rfl, hvx, hx2⟩
        have hap := owns_apart2 hvx (Nat.le_refl _) HOWN.out
        have hown2 := owns_below HOWN.out hx2
        have hmt2 := owns_below HMT.out hx2
        have hb2 := HBR.out.trans (hx2.mono hwr)
        have hbw2 := HBX.out.trans (hb2.mono HBX.out.size)
        have hs2 := hb2.size
        obtain ⟨ax, cx, rfl, _, _⟩ := (SlC.of_owns hvx).slice
        clear hx2 HOWN HMT HBR HBW k1
        cases O with
        | nil =>
          have HFIN : Hid (R = (L, nn, true)) := Go.Lib.hid HCH.out.symm
          have HOWN := Go.Lib.hid hown2
          have HBW := Go.Lib.hid hbw2
          have HMT := Go.Lib.hid hmt2
          have HB2 := Go.Lib.hid hb2
          have HVX := Go.Lib.hid hvx
          have HAP := Go.Lib.hid hap
          clear hown2 hbw2 hmt2 hb2 hvx hap
          go_wp2_with fail
          go_ret3
          exact ⟨_, by rw [HFIN.out]; rfl, by rw [HFIN.out]; exact SlC.of_owns (by rw [HLN.out]; exact HOWN.out), HBW.out⟩
        | cons x xs =>
          obtain ⟨xn, xt, xc, xl, xd⟩ := x
          have hvr : RRs W2 (.slice ax ((⟨xn, xt, xc, xl, xd⟩ : Rc.RR) :: xs).length cx) (⟨xn, xt, xc, xl, xd⟩ :: xs) := SlC.of_owns hvx
          obtain ⟨bx, ox, rfl, hbx, hcx⟩ := RRs.at hvr (by simp)
          obtain ⟨d0, d1, d2, d3, d4⟩ := hcx 0 (by simp)
          have hx0 := HOR.out _ (List.mem_cons_self ..)
          have htl := targP_len hx0
          have htg := fun W => Target_any _ W hx0
          have hsnoc := encR_snoc L ⟨xn, xt, xc, xl, xd⟩
          have hon := one_rr ⟨xn, xt, xc, xl, xd⟩
          have hlx : (L ++ [(⟨xn, xt, xc, xl, xd⟩ : Rc.RR)]).length = M + 1 := by rw [List.length_append, HLN.out]; rfl
          obtain ⟨_, hcap, _⟩ := SlC.cap hvr
          have hcl := HCH.out
          simp only [Nat.zero_mul, Nat.add_zero, List.getD_cons_zero] at d0 d1 d2 d3 d4
          simp only at htl hcl hsnoc hon
          simp only [targV, rrV] at htg
          generalize hXL : (⟨xn, xt, xc, xl, xd⟩ : Rc.RR) :: xs = XL at *
          have hK : ∃ K, XL.length = K + 1 := ⟨xs.length, by rw [← hXL]; rfl⟩
          obtain ⟨K, hK⟩ := hK
          rw [hK] at hvx hol hcap
          generalize XL.length = XN at *
          subst hK
          generalize hx1 : L ++ [(⟨xn, xt, xc, xl, xd⟩ : Rc.RR)] = L1 at *
          generalize (targP xt xd).1 = n2 at *
          generalize (targP xt xd).2 = tok at *
          have hownA := hown2.alloc (.cells #[.string (mk xn), .int .i64 xt, .int .i64 xc, .int .i64 xl, .string (mk xd)] 43)
          have hmtA := hmt2.alloc (.cells #[.string (mk xn), .int .i64 xt, .int .i64 xc, .int .i64 xl, .string (mk xd)] 43)
          have hvxA := hvx.alloc (.cells #[.string (mk xn), .int .i64 xt, .int .i64 xc, .int .i64 xl, .string (mk xd)] 43)
          have hbA := hb2.alloc hs2 (.cells #[.string (mk xn), .int .i64 xt, .int .i64 xc, .int .i64 xl, .string (mk xd)] 43)
          have hncl := new_cells W2 [.string (mk xn), .int .i64 xt, .int .i64 xc, .int .i64 xl, .string (mk xd)] 43
          have hsA := hbA.size
          clear hcx hvr hx0 hown2 hmt2 hvx hb2 hbw2 HCH HOR HO1 hx1
          have HOA := Go.Lib.hid hownA
          have HMA := Go.Lib.hid hmtA
          have HVA := Go.Lib.hid hvxA
          have HBA := Go.Lib.hid hbA
          have HNCL := Go.Lib.hid hncl
          have HTL := Go.Lib.hid htl
          have HTG := Go.Lib.hid htg
          have HON := Go.Lib.hid hon
          have HSN := Go.Lib.hid hsnoc
          have HLX := Go.Lib.hid hlx
          have HCL := Go.Lib.hid hcl
          have HXL := Go.Lib.hid hXL
          have HAP := Go.Lib.hid hap
          clear hownA hmtA hvxA hbA hncl htl htg hon hsnoc hlx hcl hXL hap
          go_wp2_with (at_builtin; refine wpList_app1 eiRR (.tmp 31) (.tmp 35) rfl rfl X.heap.size rfl rfl HOA.out (news := [.string (mk xn), .int .i64 xt, .int .i64 xc, .int .i64 xl, .string (mk xd)]) rfl HNCL.out HON.out (by unfold maxLen; omega) (by omega) (by omega) ?_; intro v5 W5 hown5 hg5 hsn5; obtain ⟨m0, m1, m2, m3, m4⟩ := first5 HXL.out (HVA.out.kept hg5 HAP.out))
          refine (HTG.out _).mono ?_; rintro e W6 ⟨rfl, hx6⟩
          have hb5 := below_app HBA.out HOA.out hg5 (Nat.le_refl _) hsA
          have hb6 := hb5.trans (hx6.mono hb5.size)
          have hown6 := owns_below hown5 hx6
          have hmt6 := owns_below (HMA.out.kept hg5 (rows_apart HMA.out HOA.out (by decide))) hx6
          have hbw6 := HBX.out.trans (hb6.mono HBX.out.size)
          have c6 := HC0.out W6 hbw6
          have hs6 := hb6.size
          have hun := HUN.out n2 W6 HTL.out
          have hbl := HBL.out n2 W6 hbw6 HTL.out
          have hbl2 := fun W (h : Below w.heap.size w W) => HBL.out n2 W h HTL.out
          have hfo := fun W => HFO.out n2 W HTL.out
          rw [← HSN.out] at hown6
          have hcl2 := HCL.out
          have hbz := fun W (h : Below W6.heap.size W6 W) => HC0.out W (hbw6.trans (h.mono hbw6.size))
          clear hown5 hg5 hsn5 hx6 hb5 m0 m1 m2 m3 m4 hbl
          generalize Nm.underN n2 zn = u at *
          generalize belowP TP zn n2 = bo at *
          generalize hfz : Nm.foldN n2 = fz at *
          generalize hcc : met.contains fz = cc at *
          have HB6 := Go.Lib.hid hb6
          have HOWN := Go.Lib.hid hown6
          have HMT := Go.Lib.hid hmt6
          have HBW := Go.Lib.hid hbw6
          have HU := Go.Lib.hid hun
          have HBL2 := Go.Lib.hid hbl2
          have HF2 := Go.Lib.hid hfo
          have HBZ := Go.Lib.hid hbz
          have HFZ := Go.Lib.hid hfz
          have HCC := Go.Lib.hid hcc
          clear hb6 hown6 hmt6 hbw6 hun hbl2 hfo hbz hfz hcc
          cases u with
          | false =>
            have HFIN : Hid (R = (L1, n2, false)) := Go.Lib.hid hcl2.symm
            clear hcl2
            go_wp2_with fail
            refine HU.out.mono ?_; rintro e W7 ⟨rfl, hx7⟩
            have hown7 := owns_below HOWN.out hx7
            have hbw7 := HBW.out.trans (hx7.mono HBW.out.size)
            have HOW7 := Go.Lib.hid hown7
            have HBW7 := Go.Lib.hid hbw7
            clear hown7 hbw7
            clear hx7
            go_wp2_with fail
            go_ret3
            exact ⟨_, by rw [HFIN.out]; rfl, by rw [HFIN.out]; exact SlC.of_owns (by rw [HLX.out]; exact HOW7.out), HBW7.out⟩
          | true =>
          go_wp2_with fail
          refine HU.out.mono ?_; rintro e W7 ⟨rfl, hx7⟩
          have c7 := HBZ.out W7 hx7
          have hbw7 := HBW.out.trans (hx7.mono HBW.out.size)
          have hb67 := hx7
          have hs7 := hx7.size
          have HBW7 := Go.Lib.hid hbw7
          have HB67 := Go.Lib.hid hb67
          clear hbw7 hb67
          clear hx7 c6
          go_wp2_with fail
          refine (HBL2.out W7 HBW7.out).mono ?_; rintro e W8 ⟨vb, rfl, hpz, hx8⟩
          have hb68 := HB67.out.trans (hx8.mono HB67.out.size)
          have hown8 := owns_below HOWN.out hb68
          have hmt8 := owns_below HMT.out hb68
          have hbw8 := HBW.out.trans (hb68.mono HBW.out.size)
          have hb8 := HB6.out.trans (hb68.mono hs6)
          have hs8 := hb8.size
          have HBW8 := Go.Lib.hid hbw8
          have HOW8 := Go.Lib.hid hown8
          have HMT8 := Go.Lib.hid hmt8
          have HB8 := Go.Lib.hid hb8
          clear hbw8 hown8 hmt8 hb8
          clear hx8 hb68 c7
          cases bo with
          | some y =>
            obtain ⟨yn, b9, o9, rfl, rfl, hyp, hyo⟩ := hpz
            clear hyp hyo
            have HFIN : Hid (R = (L1, n2, false)) := Go.Lib.hid hcl2.symm
            clear hcl2
            go_wp2_with fail
            go_ret3
            exact ⟨_, by rw [HFIN.out]; rfl, by rw [HFIN.out]; exact SlC.of_owns (by rw [HLX.out]; exact HOW8.out), HBW8.out⟩
          | none =>
          have hv : _ = Value.pointer none := hpz
          clear hpz
          subst hv
          go_wp2_with fail
          refine (HF2.out W8).mono ?_; rintro e W9 ⟨rfl, hx9⟩
          have hmt9 := owns_below HMT8.out hx9
          have hown9 := owns_below HOW8.out hx9
          have hbw9 := HBW8.out.trans (hx9.mono HBW8.out.size)
          have hb9 := HB8.out.trans (hx9.mono HB8.out.size)
          have hct := contS_any met fz am cm W9 (by unfold Strs; rw [HMN.out]; exact SlC.of_owns hmt9) (by rw [HMN.out]; omega)
          rw [HMN.out, HCC.out] at hct
          have hs9 := hb9.size
          have HBW9 := Go.Lib.hid hbw9
          have HOW9 := Go.Lib.hid hown9
          have HMT9 := Go.Lib.hid hmt9
          have HB9 := Go.Lib.hid hb9
          have HCT := Go.Lib.hid hct
          clear hbw9 hown9 hmt9 hb9 hct
          clear hx9 HBW8 HOW8 HMT8
          go_wp2_with fail
          refine HCT.out.mono ?_; rintro e WA ⟨rfl, hxA⟩
          have hmtA := owns_below HMT9.out hxA
          have hownA := owns_below HOW9.out hxA
          have hbwA := HBW9.out.trans (hxA.mono HBW9.out.size)
          have hbA := HB9.out.trans (hxA.mono HB9.out.size)
          have hsAA := hbA.size
          have HBWA := Go.Lib.hid hbwA
          have HOWA := Go.Lib.hid hownA
          have HMTA := Go.Lib.hid hmtA
          have HBAA := Go.Lib.hid hbA
          clear hbwA hownA hmtA hbA
          clear hxA HBW9 HOW9 HMT9
          cases cc with
          | true =>
            have HFIN : Hid (R = (L1, n2, true)) := Go.Lib.hid hcl2.symm
            clear hcl2
            go_wp2_with fail
            go_ret3
            exact ⟨_, by rw [HFIN.out]; rfl, by rw [HFIN.out]; exact SlC.of_owns (by rw [HLX.out]; exact HOWA.out), HBWA.out⟩
          | false =>
            have hcl3 : chainG TP zp t f L1 n2 (met ++ [fz]) = R := hcl2
            clear hcl2
            have HCL3 := Go.Lib.hid hcl3
            clear hcl3
            go_wp2_with fail
            refine (HF2.out WA).mono ?_; rintro e WB ⟨rfl, hxB⟩
            have hmtB := owns_below HMTA.out hxB
            have hownB := owns_below HOWA.out hxB
            have hbB := HBAA.out.trans (hxB.mono HBAA.out.size)
            have hsB := hbB.size
            have hmtC := hmtB.alloc (.cells #[.string (mk fz)] 9)
            have hownC := hownB.alloc (.cells #[.string (mk fz)] 9)
            have hbC := hbB.alloc hsB (.cells #[.string (mk fz)] 9)
            have HMTC := Go.Lib.hid hmtC
            have HOWC := Go.Lib.hid hownC
            have HBC := Go.Lib.hid hbC
            clear hmtC hownC hbC
            clear hxB hmtB hownB hbB
            go_wp2_with (at_builtin; refine wpList_app eiS (.tmp 67) (.tmp 70) rfl rfl X.heap.size rfl rfl HMTC.out (slc_new _ 1 1 9 [.string (mk fz)] rfl (by decide)) ?h1 ?h2 ?h3 ?h4 ?h5; rotate_right; intro vm Wm hownm hgm)
            case h1 => exact one_strs [fz]
            case h2 => unfold maxLen; omega
            case h3 => omega
            case h4 => simp; omega
            have hownD := HOWC.out.kept hgm (rows_apart HOWC.out HMTC.out (by decide))
            have hbD := below_app HBC.out HMTC.out hgm (Nat.le_refl _) HBC.out.size
            have HOWD := Go.Lib.hid hownD
            have HBD := Go.Lib.hid hbD
            have HOWM := Go.Lib.hid hownm
            clear hownD hbD hownm
            clear hgm
            go_roundw
            case rel => exact ⟨f, L1, n2, met ++ [fz], rfl, HTL.out, by rw [HLX.out]; omega, by rw [List.length_append, HMN.out, HLX.out]; simp; omega, HCL3.out, by rw [HLX.out]; exact HOWD.out, by rw [List.length_append, HMN.out]; unfold encS; rw [List.map_append]; exact HOWM.out, HBD.out⟩
            case measure =>
              obtain ⟨a9, c9, h9, _⟩ := (SlC.of_owns HOWD.out).slice
              rw [h9]
              simp only [lenV]
              omega
end Go.Proofs.YtkpcmnckdappnaaGreat

