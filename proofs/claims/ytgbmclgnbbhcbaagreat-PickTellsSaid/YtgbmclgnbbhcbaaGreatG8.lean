/- Merged texts of the seat, in their order: OrdE. -/
import Derived.Test.YtgbmclgnbbhcbaaGreatG5
/- A region whose order is left open, with several effects that need not wait for one another, each of which may lean on what the effects whose values it takes have left, and a tail: from an operation on each waits for all ahead of it (stores, assignments). No conditions beside. -/
namespace Go.Mix
open Go
section
variable {P : Program} {ops : Array Oper} {md : Region.Mode} {E : Nat → Bool} {G : World → World → Prop} {w0 : World} {F : Nat → Value → World → Prop} {Sp : Nat → Value → Prop} {D : Nat → Act → World → Prop} {T : Nat → Bool}

def wpAnyE (P : Program) (md : Region.Mode) (ops : Array Oper) (E T : Nat → Bool) (G : World → World → Prop) (w0 : World) (F : Nat → Value → World → Prop) (Sp : Nat → Value → Prop) (D : Nat → Act → World → Prop) (Q : Act → World → Prop) (tl : Nat) : Nat → Array Bool → Act → (World → Prop) → Prop
  | 0, listed, a, Φ => Region.ready md ops listed = [] ∧ ∀ w, G w0 w → Φ w → Q a w
  | fuel + 1, listed, a, Φ =>
    (Region.ready md ops listed = [] → ∀ w, G w0 w → Φ w → Q a w) ∧
    ∀ i ∈ Region.ready md ops listed, (i = tl → ∀ w, G w0 w → Φ w → mOp P ops T (fun _ => True) i (wpAnyM P md ops T (fun _ => True) Q fuel (listed.setIfInBounds i true)) a w) ∧
      (i ≠ tl → rOpD P ops E G w0 F Sp D i (wpAnyE P md ops E T G w0 F Sp D Q tl fuel (listed.setIfInBounds i true)) a Φ)

theorem wpAnyE_anti {Q : Act → World → Prop} {tl : Nat} : ∀ (fuel : Nat) (listed : Array Bool), Anti (wpAnyE P md ops E T G w0 F Sp D Q tl fuel listed)
  | 0, _ => fun _ _ _ h hi => ⟨h.1, fun w hg hw => h.2 w hg (hi w hw)⟩
  | fuel + 1, _ => fun _ _ _ h hi => ⟨fun h0 w hg hw => h.1 h0 w hg (hi w hw), fun i hir => ⟨fun hit w hg hw => (h.2 i hir).1 hit w hg (hi w hw),
      fun hit => rOpD_anti (wpAnyE_anti fuel _) _ _ _ ((h.2 i hir).2 hit) hi⟩⟩

theorem wpAny_of_wpAnyE {Q : Act → World → Prop} {Q' : Exit → Act → World → Prop} {tl : Nat} {Inv : Array Bool → Act → World → Prop} (hI : Known md ops E G F D Inv) (hGt : ∀ {A B C : World}, G A B → G B C → G A C) (hGr : ∀ A, G A A) (hF : ∀ i v w w', F i v w → G w w' → F i v w') (hQ : ∀ a w, Q a w → Q' .normal a w) :
    ∀ (fuel : Nat) (listed : Array Bool) (a : Act) (w : World) (Φ : World → Prop), G w0 w → Down md ops listed → Inv listed a w → Φ w → (∀ w w', Φ w → G w w' → Φ w') → wpAnyE P md ops E T G w0 F Sp D Q tl fuel listed a Φ → wpAny P md ops Q' fuel listed a w
  | 0, _, _, _, _, hw, _, _, hp, _, h => ⟨h.1, hQ _ _ (h.2 _ hw hp)⟩
  | fuel + 1, listed, a, w, Φ, hw, hdn, hin, hp, hst, h => ⟨fun h0 => hQ _ _ (h.1 h0 _ hw hp), fun i hi => by
      by_cases hit : i = tl
      · exact wpOp_of_mOp (C := fun _ => True) trivial (fun a' w' hw' hk => wpAny_of_wpAnyM (C := fun _ => True) (fun a w _ hq => hQ a w hq) fuel _ a' w' hw' hk) ((h.2 i hi).1 hit w hw hp)
      · have h3 := (h.2 i hi).2 hit
        unfold rOpD at h3
        unfold wpOp
        split
        · rename_i ho
          obtain ⟨_, o, ho2, _⟩ := mem_ready.1 hi
          rw [ho] at ho2
          cases ho2
        · rename_i o ho
          simp only [ho] at h3
          split
          · rename_i hwt
            simp only [hwt, if_true] at h3
            refine .inl ?_
            split at h3
            · rename_i hE
              obtain ⟨he, hk⟩ := h3
              unfold Oper.wp
              refine (he w hw (hI.need _ _ _ _ _ ho hi hwt hin)).upon fun v w' hv => ?_
              exact wpAny_of_wpAnyE hI hGt hGr hF hQ fuel _ _ w' _ (hGt hw hv.1) (hdn.ready hi) (hI.made _ _ _ _ _ _ ho hi hdn hE (hI.keep _ _ _ _ hin hv.1) hv.2.2) ⟨hst _ _ hp hv.1, hv.2.2⟩ (fun x y hx hg => ⟨hst _ _ hx.1 hg, hF _ _ _ _ hx.2 hg⟩) (hk v hv.2.1)
            · rename_i hE
              obtain ⟨v, h1, h2⟩ := h3
              unfold Oper.wp
              rw [h1 w hw]
              exact wpAny_of_wpAnyE hI hGt hGr hF hQ fuel _ _ w Φ hw (hdn.ready hi) (hI.quiet _ _ _ _ _ _ ho hi hdn (.inl (by simpa using hE)) hin) hp hst h2
          · rename_i hwt
            simp only [hwt] at h3
            exact wpAny_of_wpAnyE hI hGt hGr hF hQ fuel _ _ w Φ hw (hdn.ready hi) (hI.quiet _ _ _ _ _ _ ho hi hdn (.inr (by simpa using hwt)) hin) hp hst h3⟩

/-- the tail's first waits for all ahead of it but the free ones, all behind it wait for it -/
structure TailE (md : Region.Mode) (ops : Array Oper) (E T Qs : Nat → Bool) (n tl : Nat) : Prop where
  lo : ∀ i, i < tl → dep md ops n tl i = true ∨ (Qs i = true ∧ E i = false ∧ T i = false)
  hi : ∀ i, tl < i → i < ops.size → dep md ops n i tl = true
/-- quiet in whatever world -/
def SQ (P : Program) (ops : Array Oper) (o : Oper) (a : Act) : Prop := Region.wanted o (yielded ops a.tmps) = true → ∃ v, ∀ w, (execOp a.eval o).run P w = .ok (.value v) w
theorem SQ.put {o : Oper} {a : Act} (h : SQ P ops o a) (hsel : ∀ cs b, o.op ≠ .select cs b) {x : Option Tmp} (h1 : ∀ d, x = some d → d ∉ o.looksAt ops) (u : Value) : SQ P ops o (a.put x u) := by
  unfold SQ at *
  rw [execOp_put (ops := ops) o hsel a x u h1, wanted_put o a x u h1]
  exact h
theorem rOpD_mono' {i : Nat} {o : Oper} (ho : ops[i]? = some o) {K K' : Act → (World → Prop) → Prop} {a : Act} {Φ : World → Prop} (h : ∀ v Φ, K (a.put o.dst v) Φ → K' (a.put o.dst v) Φ) (hh : rOpD P ops E G w0 F Sp D i K a Φ) : rOpD P ops E G w0 F Sp D i K' a Φ := by
  unfold rOpD at *
  rw [ho] at hh ⊢
  simp only at hh ⊢
  split
  · rename_i hw
    simp only [hw, if_true] at hh
    split
    · rename_i hE
      simp only [hE, if_true] at hh
      exact ⟨hh.1, fun v hv => h _ _ (hh.2 v hv)⟩
    · rename_i hE
      simp only [hE] at hh
      obtain ⟨v, h1, h2⟩ := hh
      exact ⟨v, h1, h _ _ h2⟩
  · rename_i hw
    simp only [hw] at hh
    exact h _ _ hh

theorem wpAnyE_first {Qs : Nat → Bool} (hDp : DPut ops D) (hS : ∀ i, ∃ v, Sp i v) {Q : Act → World → Prop} {n tl : Nat} (hr0 : G w0 w0) (htl : TailE md ops E T Qs n tl) (hch : Chain md ops T n) {i : Nat} {oi : Oper} (hi : ops[i]? = some oi) (hit : i < tl)
    (hsel : ∀ (j : Nat) (o : Oper) cs b, ops[j]? = some o → o.op ≠ .select cs b) :
    ∀ (fuel : Nat) (listed : Array Bool) (a : Act) (Φ : World → Prop), (Qs i = true → SQ P ops oi a) → Down md ops listed →
      (∀ j oj, ops[j]? = some oj → j ≠ i → listed.getD j true = false → (∀ e ∈ oj.after, Region.binds md e = true → e.on ≠ i) → oi.apart ops oj = true) →
      i ∈ Region.ready md ops listed →
      rOpD P ops E G w0 F Sp D i (wpAnyE P md ops E T G w0 F Sp D Q tl fuel (listed.setIfInBounds i true)) a Φ → wpAnyE P md ops E T G w0 F Sp D Q tl (fuel + 1) listed a Φ := by
  intro fuel
  induction fuel with
  | zero =>
    intro listed a Φ _ _ _ hr H
    refine ⟨fun h => (by rw [h] at hr; cases hr), fun j hj => ?_⟩
    by_cases hji : j = i
    · subst hji; exact ⟨fun h => absurd h (by omega), fun _ => H⟩
    · have := ready_mono hj hji
      obtain ⟨a', w', hK⟩ := rOpD_ex hS H
      rw [hK.1] at this
      cases this
  | succ fuel ih =>
    intro listed a Φ hsq hdn hfree hr H
    refine ⟨fun h => (by rw [h] at hr; cases hr), fun j hj => ?_⟩
    by_cases hji : j = i
    · subst hji; exact ⟨fun h => absurd h (by omega), fun _ => H⟩
    · obtain ⟨hjun, oj, hoj, hall⟩ := mem_ready.1 hj
      have hiun := (mem_ready.1 hr).1
      have hnot : ∀ e ∈ oj.after, Region.binds md e = true → e.on ≠ i := fun e he hb heq => by
        have h1 := hall e he hb
        rw [heq, getD_true_false hiun] at h1
        cases h1
      have hap := hfree j oj hoj hji hjun hnot
      have hfree' : ∀ k ok, ops[k]? = some ok → k ≠ i → (listed.setIfInBounds j true).getD k true = false →
          (∀ e ∈ ok.after, Region.binds md e = true → e.on ≠ i) → oi.apart ops ok = true := fun k ok hk hki hun hno => by
        refine hfree k ok hk hki ?_ hno
        by_cases hjk : j = k
        · subst hjk; exact hjun
        · rw [getD_set_ne true hjk] at hun; exact hun
      by_cases hjt : j = tl
      · subst hjt
        refine ⟨fun _ w hg hw => ?_, fun h => absurd rfl h⟩
        rcases htl.lo i hit with h1 | ⟨hqi, hEi, hTi⟩
        · exfalso
          rw [dep_ready hdn (getD_true_false hiun) hj n] at h1
          cases h1
        · have H1 : mOp P ops T (fun _ => True) i (mOp P ops T (fun _ => True) j (wpAnyM P md ops T (fun _ => True) Q fuel ((listed.setIfInBounds i true).setIfInBounds j true))) a w := by
            have hs := hsq hqi
            unfold rOpD at H
            rw [hi] at H
            simp only [hEi, Bool.false_eq_true, if_false] at H
            unfold mOp
            rw [hi]
            simp only [hTi, Bool.false_eq_true, if_false]
            split
            · rename_i hwt
              rw [if_pos hwt] at H
              obtain ⟨v, hv, hK⟩ := H
              obtain ⟨v', hv'⟩ := hs hwt
              have e := (hv w hg).symm.trans (hv' w)
              simp only [Result.ok.injEq, Next.value.injEq, and_true] at e
              subst e
              exact ⟨v, fun w2 _ => hv' w2, (hK.2 j (ready_mono hj hji)).1 rfl w hg hw⟩
            · rename_i hwt
              rw [if_neg hwt] at H
              exact (H.2 j (ready_mono hj hji)).1 rfl w hg hw
          have H2 := mOp_comm hi hoj hap (fun cs b => hsel i oi cs b hi) (fun cs b => hsel j oj cs b hoj) (by rw [hTi]; simp) trivial H1
          refine mOp_mono (C := fun _ => True) trivial (fun a' w' hw' h3 => wpAnyM_first hch hi hsel fuel (listed.setIfInBounds j true) a' w' (hdn.ready hj) trivial hfree' (ready_mono hr (Ne.symm hji)) ?_) H2
          rw [Array.setIfInBounds_comm _ _ hji]
          exact h3
      refine ⟨fun h => absurd h hjt, fun _ => ?_⟩
      have H1 : rOpD P ops E G w0 F Sp D i (rOpD P ops E G w0 F Sp D j (wpAnyE P md ops E T G w0 F Sp D Q tl fuel ((listed.setIfInBounds i true).setIfInBounds j true))) a Φ :=
        rOpD_mono (fun a' Φ' hK => (hK.2 j (ready_mono hj hji)).2 hjt) H
      have H2 := rOpD_comm hDp hS hr0 hi hoj hap (fun cs b => hsel i oi cs b hi) (fun cs b => hsel j oj cs b hoj) (wpAnyE_anti fuel _) H1
      obtain ⟨_, _, hap3⟩ := Oper.apart_spec hap
      refine rOpD_mono' hoj (fun v Φ' h3 => ih (listed.setIfInBounds j true) _ Φ' (fun hq => (hsq hq).put (fun cs b => hsel i oi cs b hi) hap3 v) (hdn.ready hj) hfree' (ready_mono hr (Ne.symm hji)) ?_) H2
      rw [Array.setIfInBounds_comm _ _ hji]
      exact h3

/-- THE WALK IN THE ORDER OF THE TEXT -/
def wpMixE (P : Program) (ops : Array Oper) (E T Qs : Nat → Bool) (G : World → World → Prop) (w0 : World) (F : Nat → Value → World → Prop) (Sp : Nat → Value → Prop) (D : Nat → Act → World → Prop) (Q : Act → World → Prop) (tl : Nat) : Nat → List Oper → Act → (World → Prop) → Prop
  | _, [], a, Φ => ∀ w, G w0 w → Φ w → Q a w
  | k, o :: rest, a, Φ =>
    (k = tl → ∀ w, G w0 w → Φ w → wpMix P ops T (fun _ => True) Q k (o :: rest) a w) ∧
    (k < tl → (Qs k = true → SQ P ops o a) ∧ if Region.wanted o (yielded ops a.tmps) then
      if E k then EffD P G w0 (D k a) (fun v w => Sp k v ∧ F k v w) (execOp a.eval o) ∧ ∀ v, Sp k v → wpMixE P ops E T Qs G w0 F Sp D Q tl (k + 1) rest (a.put o.dst v) (fun w => Φ w ∧ F k v w)
      else ∃ v, (∀ w2, G w0 w2 → (execOp a.eval o).run P w2 = .ok (.value v) w2) ∧ wpMixE P ops E T Qs G w0 F Sp D Q tl (k + 1) rest (a.put o.dst v) Φ
    else wpMixE P ops E T Qs G w0 F Sp D Q tl (k + 1) rest (a.put o.dst undef) Φ)

theorem listed_nextE {k : Nat} {listed : Array Bool} (hbf : ∀ j, j < k → listed.getD j true = true) : ∀ j, j < k + 1 → (listed.setIfInBounds k true).getD j true = true := fun j hj => by
  by_cases hjk : k = j
  · subst hjk
    cases hg : (listed.setIfInBounds k true).getD k true with
    | true => rfl
    | false =>
      exfalso
      rcases Nat.lt_or_ge k listed.size with h1 | h1
      · simp [h1] at hg
      · simp [h1] at hg
  · rw [getD_set_ne true hjk]; exact hbf j (by omega)

theorem wpAnyE_lex {Qs : Nat → Bool} (hDp : DPut ops D) (hS : ∀ i, ∃ v, Sp i v) {Q : Act → World → Prop} {n tl : Nat} (hr0 : G w0 w0) (htl : TailE md ops E T Qs n tl) (hch : Chain md ops T n) (hs : Region.noSelect ops = true) :
    ∀ (l : List Oper) (k : Nat) (listed : Array Bool) (a : Act) (Φ : World → Prop), k ≤ tl → tl < k + l.length → (∀ j, l[j]? = ops[k + j]?) → (∀ j, j < k → listed.getD j true = true) → Down md ops listed →
      Region.lexFrom md ops l.length k listed = true → wpMixE P ops E T Qs G w0 F Sp D Q tl k l a Φ → wpAnyE P md ops E T G w0 F Sp D Q tl l.length listed a Φ
  | [], k, _, _, _, h1, h2, _, _, _, _, _ => by simp at h2; omega
  | o :: l, k, listed, a, Φ, hk1, hk2, hl, hbf, hdn, hB, h => by
    have h0 : ops[k]? = some o := by simpa using (hl 0).symm
    have hB0 := hB
    simp only [List.length_cons, Region.lexFrom, Bool.and_eq_true] at hB
    obtain ⟨⟨hr, hf⟩, hB'⟩ := hB
    have hr' : k ∈ Region.ready md ops listed := by simpa using hr
    by_cases hkt : k = tl
    · refine ⟨fun h1 => (by rw [h1] at hr'; cases hr'), fun i hi => ?_⟩
      have hik : i = k := by
        obtain ⟨hun, oi, hoi, _⟩ := mem_ready.1 hi
        have hilt := (Array.getElem?_eq_some_iff.1 hoi).1
        rcases Nat.lt_trichotomy i k with h1 | h1 | h1
        · rw [hbf i h1] at hun; cases hun
        · exact h1
        · exfalso
          have h2 := htl.hi i (by omega) hilt
          have hkun := (mem_ready.1 hr').1
          rw [← hkt, dep_ready hdn (getD_true_false hkun) hi n] at h2
          cases h2
      subst hik
      refine ⟨fun _ w hg hw => ?_, fun h1 => absurd hkt h1⟩
      unfold wpMixE at h
      have := wpAnyM_lex (md := md) (C := fun _ => True) hch hs (o :: l) i listed a w hl hdn trivial hB0 (h.1 hkt w hg hw)
      exact this.2 i hi
    · have hklt : k < tl := by omega
      have hm : rOpD P ops E G w0 F Sp D k (wpMixE P ops E T Qs G w0 F Sp D Q tl (k + 1) l) a Φ := by
        unfold rOpD
        rw [h0]
        unfold wpMixE at h
        exact (h.2 hklt).2
      have hsq : Qs k = true → SQ P ops o a := by
        unfold wpMixE at h
        exact (h.2 hklt).1
      refine wpAnyE_first hDp hS hr0 htl hch h0 hklt (Region.noSelect_spec hs) l.length listed a Φ hsq hdn (Region.free_spec h0 hf) hr' ?_
      exact rOpD_mono (fun a' Φ' hK => wpAnyE_lex hDp hS hr0 htl hch hs l (k + 1) _ a' Φ' (by omega) (by simp at hk2; omega) (fun j => by have := hl (j + 1); simpa [Nat.add_assoc, Nat.add_comm 1 j] using this) (listed_nextE hbf) (hdn.ready hr') hB' hK) hm

structure MixE (P : Program) (ops : Array Oper) (E T Qs : Nat → Bool) (G : World → World → Prop) (w0 : World) (F : Nat → Value → World → Prop) (Sp : Nat → Value → Prop) (D : Nat → Act → World → Prop) (Q : Act → World → Prop) (tl k : Nat) (rest : List Oper) (a : Act) (Φ : World → Prop) : Prop where
  out : wpMixE P ops E T Qs G w0 F Sp D Q tl k rest a Φ

def tailE (md : Region.Mode) (ops : Array Oper) (Es Ts Qs : List Nat) (tl : Nat) : Bool := let A := ancAll md ops.toList []; (List.range tl).all (fun i => (A.getD tl 0).testBit i || (Qs.contains i && !Es.contains i && !Ts.contains i)) && (List.range ops.size).all (fun i => decide (i ≤ tl) || (A.getD i 0).testBit tl) && decide (tl < ops.size)
theorem tailE_of {Es Ts Qs : List Nat} {tl : Nat} (h : tailE md ops Es Ts Qs tl = true) : TailE md ops (fun k => Es.contains k) (fun k => Ts.contains k) (fun k => Qs.contains k) ops.size tl ∧ tl < ops.size := by
  have hA : AncOk md ops (ancAll md ops.toList []) := anc_all ops.toList [] (fun j i h => by simp at h) (fun j => by simp)
  unfold tailE at h
  simp only [Bool.and_eq_true, List.all_eq_true, decide_eq_true_eq, Bool.or_eq_true, Bool.not_eq_true'] at h
  obtain ⟨⟨h1, h2⟩, h3⟩ := h
  refine ⟨⟨fun i hi => ?_, fun i hi hs => ?_⟩, h3⟩
  · rcases h1 i (List.mem_range.2 hi) with h4 | ⟨⟨h4, h5⟩, h6⟩
    · exact .inl (dep_mono _ _ _ (hA tl i h4).2 _ (by omega))
    · exact .inr ⟨h4, h5, h6⟩
  · rcases h2 i (List.mem_range.2 hs) with h4 | h4
    · omega
    · exact dep_mono _ _ _ (hA i tl h4).2 _ (by omega)

theorem wp_region_mixE {id : Nat} {l : List Oper} (Es Ts Qs : List Nat) (tl : Nat) (G : World → World → Prop) (F : Nat → Value → World → Prop) (Sp : Nat → Value → Prop) (deps : Deps) {Q : Exit → Act → World → Prop} {a : Act} {w : World} (hm : P.follows .mixedOrders = true)
    (hB : (Region.lexB .any l.toArray && tailE .any l.toArray Es Ts Qs tl && depsB .any l.toArray Es deps && chainC .any l.toArray Ts) = true) (hsz : ∀ i e s, (i, e, s) ∈ deps → s < a.tmps.size) (hGt : ∀ {A B C : World}, G A B → G B C → G A C) (hGr : ∀ A, G A A) (hF : ∀ i v w w', F i v w → G w w' → F i v w') (hS : ∀ i, ∃ v, Sp i v)
    (h : MixE P l.toArray (fun k => Es.contains k) (fun k => Ts.contains k) (fun k => Qs.contains k) G w.drew F Sp (needOf F deps) (fun a' w' => Q .normal a' w') tl 0 l a (fun _ => True)) : (Code.region id l.toArray true).wp P Q a w := by
  simp only [Region.lexB, Bool.and_eq_true] at hB
  obtain ⟨⟨⟨hB1, hB2⟩, hB3⟩, hB4⟩ := hB
  obtain ⟨ht1, ht2⟩ := tailE_of hB2
  have hd := depsB_ok hB3
  refine wp_region_any hm (wpAny_of_wpAnyE (Q := fun a' w' => Q .normal a' w') (E := fun k => Es.contains k) (T := fun k => Ts.contains k) (tl := tl) (w0 := w.drew) (F := F) (G := G) (Sp := Sp) (known_of hd hF) hGt hGr hF (fun _ _ h => h) _ _ _ _ (fun _ => True) (hGr _) (Down.start _) (fun i e s hm => ⟨hsz i e s hm, fun hl => by
    have : (Array.replicate l.toArray.size false).getD e false = false := by
      rw [Array.getD_eq_getD_getElem?, Array.getElem?_replicate]
      split <;> rfl
    rw [this] at hl
    cases hl⟩) trivial (fun _ _ _ _ => trivial) ?_)
  have := wpAnyE_lex (P := P) (G := G) (F := F) (Sp := Sp) (put_of hd) hS (Q := fun a' w' => Q .normal a' w') (md := .any) (hGr w.drew) ht1 (chainC_of hB4) hB1.1 l 0 (Array.replicate l.toArray.size false) a (fun _ => True) (Nat.zero_le _) (by simpa using ht2) (by simp) (fun j hj => by omega) (Down.start _) (by simpa using hB1.2) h.out
  simpa using this

section
variable {Es Ts Qs : List Nat} {Q : Act → World → Prop} {o : Oper} {rest : List Oper} {a : Act} {k tl : Nat} {Φ : World → Prop}

theorem mixE_step (hk : (Es.contains k || (Qs.contains k || !decide (k < tl))) = false) (h : ∀ K : Act → Prop, (∀ a, MixE P ops (fun k => Es.contains k) (fun k => Ts.contains k) (fun k => Qs.contains k) G w0 F Sp D Q tl (k + 1) rest a Φ → K a) →
      if Region.wanted o (yielded ops a.tmps) then ∃ v, (∀ w2 : Subtype (G w0), (execOp a.eval o).run P w2.1 = .ok (.value v) w2.1) ∧ K (a.put o.dst v) else K (a.put o.dst undef)) :
    MixE P ops (fun k => Es.contains k) (fun k => Ts.contains k) (fun k => Qs.contains k) G w0 F Sp D Q tl k (o :: rest) a Φ := by
  have := h (fun a => wpMixE P ops (fun k => Es.contains k) (fun k => Ts.contains k) (fun k => Qs.contains k) G w0 F Sp D Q tl (k + 1) rest a Φ) (fun _ h => h.out)
  rw [Bool.or_eq_false_iff, Bool.or_eq_false_iff] at hk
  have hkt : k < tl := by simpa using hk.2.2
  refine ⟨?_⟩
  unfold wpMixE
  refine ⟨fun h => by omega, fun _ => ⟨fun h => (by rw [hk.2.1] at h; cases h), ?_⟩⟩
  simp only [hk.1]
  split
  · rename_i hw
    rw [if_pos hw] at this
    obtain ⟨v, h1, h2⟩ := this
    exact ⟨v, fun w2 hw2 => h1 ⟨w2, hw2⟩, h2⟩
  · rename_i hw
    rw [if_neg hw] at this
    exact this

/-- a free one: quiet in whatever world -/
theorem mixE_free (hk : (Es.contains k || !decide (k < tl)) = false) (h : ∀ K : Act → Prop, (∀ a, MixE P ops (fun k => Es.contains k) (fun k => Ts.contains k) (fun k => Qs.contains k) G w0 F Sp D Q tl (k + 1) rest a Φ → K a) →
      if Region.wanted o (yielded ops a.tmps) then ∃ v, (∀ w2 : World, (execOp a.eval o).run P w2 = .ok (.value v) w2) ∧ K (a.put o.dst v) else K (a.put o.dst undef)) :
    MixE P ops (fun k => Es.contains k) (fun k => Ts.contains k) (fun k => Qs.contains k) G w0 F Sp D Q tl k (o :: rest) a Φ := by
  have := h (fun a => wpMixE P ops (fun k => Es.contains k) (fun k => Ts.contains k) (fun k => Qs.contains k) G w0 F Sp D Q tl (k + 1) rest a Φ) (fun _ h => h.out)
  rw [Bool.or_eq_false_iff] at hk
  have hkt : k < tl := by simpa using hk.2
  refine ⟨?_⟩
  unfold wpMixE
  refine ⟨fun h => by omega, fun _ => ⟨fun _ hw => ?_, ?_⟩⟩
  · rw [if_pos hw] at this
    obtain ⟨v, h1, _⟩ := this
    exact ⟨v, h1⟩
  · simp only [hk.1]
    split
    · rename_i hw
      rw [if_pos hw] at this
      obtain ⟨v, h1, h2⟩ := this
      exact ⟨v, fun w2 _ => h1 w2, h2⟩
    · rename_i hw
      rw [if_neg hw] at this
      exact this

/-- an effect that is made -/
theorem mixE_eff (hk : (Es.contains k && (!Qs.contains k && decide (k < tl))) = true) (hw : Region.wanted o (yielded ops a.tmps) = true) (he : ∀ w, G w0 w → D k a w → EffR P (fun v w' => G w w' ∧ Sp k v ∧ F k v w') ((execOp a.eval o).run P w))
    (h : ∀ v, Sp k v → MixE P ops (fun k => Es.contains k) (fun k => Ts.contains k) (fun k => Qs.contains k) G w0 F Sp D Q tl (k + 1) rest (a.put o.dst v) (fun w => Φ w ∧ F k v w)) :
    MixE P ops (fun k => Es.contains k) (fun k => Ts.contains k) (fun k => Qs.contains k) G w0 F Sp D Q tl k (o :: rest) a Φ := by
  rw [Bool.and_eq_true, Bool.and_eq_true, Bool.not_eq_true'] at hk
  have hkt : k < tl := by simpa using hk.2.2
  refine ⟨?_⟩
  unfold wpMixE
  refine ⟨fun h => by omega, fun _ => ⟨fun h => (by rw [hk.2.1] at h; cases h), ?_⟩⟩
  simp only [hk.1, hw, if_true]
  exact ⟨he, fun v hv => (h v hv).out⟩

/-- the tail: walked on by 'mix_eff', 'mix_step' and 'mix_nil' -/
theorem mixE_tail (hk : k = tl) (h : ∀ w, G w0 w → Φ w → MixG P ops (fun k => Ts.contains k) (fun _ => True) Q k (o :: rest) a w) :
    MixE P ops (fun k => Es.contains k) (fun k => Ts.contains k) (fun k => Qs.contains k) G w0 F Sp D Q tl k (o :: rest) a Φ := by
  refine ⟨?_⟩
  unfold wpMixE
  exact ⟨fun _ w hg hw => (h w hg hw).out, fun h => by omega⟩
end
end
end Go.Mix

