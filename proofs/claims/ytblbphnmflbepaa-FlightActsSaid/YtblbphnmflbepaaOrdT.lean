/- A region whose order is left open and whose last operation waits for all others, walked once, in the order of the text: the last one may leave the class of worlds in which the others may be done. No conditions beside. -/
import Derived.Test.YtblbphnmflbepaaOrd
namespace Go.Mix
open Go
section
variable {P : Program} {ops : Array Oper} {md : Region.Mode} {E : Nat → Bool} {C : World → Prop}

/-- the last operation -/
def tOp (P : Program) (ops : Array Oper) (i : Nat) (K : Act → World → Prop) (a : Act) (w : World) : Prop :=
  match ops[i]? with
  | none => K a w
  | some o => if Region.wanted o (yielded ops a.tmps) then o.wp P a w K NoExit else K (a.put o.dst undef) w

def wpAnyT (P : Program) (md : Region.Mode) (ops : Array Oper) (E : Nat → Bool) (C : World → Prop) (Q : Act → World → Prop) (tl : Nat) : Nat → Array Bool → Act → World → Prop
  | 0, listed, a, w => Region.ready md ops listed = [] ∧ Q a w
  | fuel + 1, listed, a, w =>
    (Region.ready md ops listed = [] → Q a w) ∧
    ∀ i ∈ Region.ready md ops listed, (i = tl → Region.ready md ops (listed.setIfInBounds i true) = [] ∧ tOp P ops i Q a w) ∧
      (i ≠ tl → mOp P ops E C i (wpAnyT P md ops E C Q tl fuel (listed.setIfInBounds i true)) a w)

theorem wpAny_end {Q : Exit → Act → World → Prop} {listed : Array Bool} (h : Region.ready md ops listed = []) (fuel : Nat) {a : Act} {w : World} (hq : Q .normal a w) : wpAny P md ops Q fuel listed a w := by
  cases fuel with
  | zero => exact ⟨h, hq⟩
  | succ n => exact ⟨fun _ => hq, fun i hi => (by rw [h] at hi; cases hi)⟩

theorem wpOp_of_tOp {i : Nat} {a : Act} {w : World} {K K' : Act → World → Prop} {Q : Exit → Act → World → Prop} (h : ∀ a w, K a w → K' a w)
    (hh : tOp P ops i K a w) : wpOp P ops Q i K' a w := by
  unfold tOp at hh
  unfold wpOp
  split
  · rename_i ho; simp only [ho] at hh; exact h _ _ hh
  · rename_i o ho
    simp only [ho] at hh
    split
    · rename_i hwt
      simp only [hwt, if_true] at hh
      exact .inl (wp_monoQ h hh)
    · rename_i hwt
      simp only [hwt] at hh
      exact h _ _ hh

theorem wpAny_of_wpAnyT {Q : Act → World → Prop} {Q' : Exit → Act → World → Prop} {tl : Nat} (hQ : ∀ a w, Q a w → Q' .normal a w) :
    ∀ (fuel : Nat) (listed : Array Bool) (a : Act) (w : World), C w → wpAnyT P md ops E C Q tl fuel listed a w → wpAny P md ops Q' fuel listed a w
  | 0, _, _, _, _, h => ⟨h.1, hQ _ _ h.2⟩
  | fuel + 1, listed, a, w, hw, h => ⟨fun h0 => hQ _ _ (h.1 h0), fun i hi => by
      by_cases hit : i = tl
      · obtain ⟨h1, h2⟩ := (h.2 i hi).1 hit
        exact wpOp_of_tOp (fun a' w' hq => wpAny_end h1 fuel (hQ _ _ hq)) h2
      · exact wpOp_of_mOp hw (fun a' w' hw' => wpAny_of_wpAnyT hQ fuel _ a' w' hw') ((h.2 i hi).2 hit)⟩

/-- the last operation waits for all others -/
def Tail (md : Region.Mode) (ops : Array Oper) (n tl : Nat) : Prop := ∀ i, i < ops.size → i ≠ tl → dep md ops n tl i = true

theorem wpAnyT_first {Q : Act → World → Prop} {n tl : Nat} (hch : Chain md ops E n) (htl : Tail md ops n tl) {i : Nat} {oi : Oper} (hi : ops[i]? = some oi) (hit : i ≠ tl)
    (hsel : ∀ (j : Nat) (o : Oper) cs b, ops[j]? = some o → o.op ≠ .select cs b) :
    ∀ (fuel : Nat) (listed : Array Bool) (a : Act) (w : World), Down md ops listed → C w →
      (∀ j oj, ops[j]? = some oj → j ≠ i → listed.getD j true = false → (∀ e ∈ oj.after, Region.binds md e = true → e.on ≠ i) → oi.apart ops oj = true) →
      i ∈ Region.ready md ops listed →
      mOp P ops E C i (wpAnyT P md ops E C Q tl fuel (listed.setIfInBounds i true)) a w → wpAnyT P md ops E C Q tl (fuel + 1) listed a w := by
  intro fuel
  induction fuel with
  | zero =>
    intro listed a w _ _ _ hr H
    refine ⟨fun h => (by rw [h] at hr; cases hr), fun j hj => ?_⟩
    by_cases hji : j = i
    · subst hji; exact ⟨fun h => absurd h hit, fun _ => H⟩
    · have := ready_mono hj hji
      obtain ⟨a', w', hK⟩ := mOp_ex H
      rw [hK.1] at this
      cases this
  | succ fuel ih =>
    intro listed a w hdn hw hfree hr H
    refine ⟨fun h => (by rw [h] at hr; cases hr), fun j hj => ?_⟩
    by_cases hji : j = i
    · subst hji; exact ⟨fun h => absurd h hit, fun _ => H⟩
    · obtain ⟨hjun, oj, hoj, hall⟩ := mem_ready.1 hj
      have hiun := (mem_ready.1 hr).1
      have hjt : j ≠ tl := by
        intro hjt
        subst hjt
        have h1 := htl i (Array.getElem?_eq_some_iff.1 hi).1 hit
        rw [dep_ready hdn (getD_true_false hiun) hj n] at h1
        cases h1
      refine ⟨fun h => absurd h hjt, fun _ => ?_⟩
      have hnot : ∀ e ∈ oj.after, Region.binds md e = true → e.on ≠ i := fun e he hb heq => by
        have h1 := hall e he hb
        rw [heq, getD_true_false hiun] at h1
        cases h1
      have hap := hfree j oj hoj hji hjun hnot
      have hE : ¬ (E i = true ∧ E j = true) := by
        rintro ⟨hEi, hEj⟩
        rcases hch i j (Array.getElem?_eq_some_iff.1 hi).1 (Array.getElem?_eq_some_iff.1 hoj).1 (Ne.symm hji) hEi hEj with h | h
        · rw [dep_ready hdn (getD_true_false hjun) hr n] at h; cases h
        · rw [dep_ready hdn (getD_true_false hiun) hj n] at h; cases h
      have H1 : mOp P ops E C i (mOp P ops E C j (wpAnyT P md ops E C Q tl fuel ((listed.setIfInBounds i true).setIfInBounds j true))) a w :=
        mOp_mono hw (fun a' w' _ hK => (hK.2 j (ready_mono hj hji)).2 hjt) H
      have H2 := mOp_comm hi hoj hap (fun cs b => hsel i oi cs b hi) (fun cs b => hsel j oj cs b hoj) hE hw H1
      have hfree' : ∀ k ok, ops[k]? = some ok → k ≠ i → (listed.setIfInBounds j true).getD k true = false →
          (∀ e ∈ ok.after, Region.binds md e = true → e.on ≠ i) → oi.apart ops ok = true := fun k ok hk hki hun hno => by
        refine hfree k ok hk hki ?_ hno
        by_cases hjk : j = k
        · subst hjk; exact hjun
        · rw [getD_set_ne true hjk] at hun; exact hun
      refine mOp_mono hw (fun a' w' hw' h3 => ih (listed.setIfInBounds j true) a' w' (hdn.ready hj) hw' hfree' (ready_mono hr (Ne.symm hji)) ?_) H2
      rw [Array.setIfInBounds_comm _ _ hji]
      exact h3

/-- THE WALK IN THE ORDER OF THE TEXT -/
def wpMixT (P : Program) (ops : Array Oper) (E : Nat → Bool) (C : World → Prop) (Q : Act → World → Prop) (tl : Nat) : Nat → List Oper → Act → World → Prop
  | _, [], a, w => Q a w
  | k, o :: rest, a, w =>
    (k = tl → if Region.wanted o (yielded ops a.tmps) then o.wp P a w Q NoExit else Q (a.put o.dst undef) w) ∧
    (k ≠ tl → if Region.wanted o (yielded ops a.tmps) then
      if E k then o.wp P a w (fun a' w' => C w' ∧ wpMixT P ops E C Q tl (k + 1) rest a' w') NoExit
      else ∃ v, (∀ w2 : Subtype C, (execOp a.eval o).run P w2.1 = .ok (.value v) w2.1) ∧ wpMixT P ops E C Q tl (k + 1) rest (a.put o.dst v) w
    else wpMixT P ops E C Q tl (k + 1) rest (a.put o.dst undef) w)

theorem wpAnyT_lex {Q : Act → World → Prop} {n tl : Nat} (hch : Chain md ops E n) (htl : Tail md ops n tl) (hlast : tl + 1 = ops.size) (hs : Region.noSelect ops = true) :
    ∀ (l : List Oper) (k : Nat) (listed : Array Bool) (a : Act) (w : World), (∀ j, l[j]? = ops[k + j]?) → (∀ j, j < k → listed.getD j true = true) → Down md ops listed → C w →
      Region.lexFrom md ops l.length k listed = true → wpMixT P ops E C Q tl k l a w → wpAnyT P md ops E C Q tl l.length listed a w
  | [], _, _, _, _, _, _, _, _, hB, h => ⟨by simpa [Region.lexFrom] using hB, h⟩
  | o :: l, k, listed, a, w, hl, hbf, hdn, hw, hB, h => by
    have h0 : ops[k]? = some o := by simpa using (hl 0).symm
    have hklt : k < ops.size := (Array.getElem?_eq_some_iff.1 h0).1
    simp only [List.length_cons, Region.lexFrom, Bool.and_eq_true] at hB
    obtain ⟨⟨hr, hf⟩, hB'⟩ := hB
    have hr' : k ∈ Region.ready md ops listed := by simpa using hr
    have hbf' : ∀ j, j < k + 1 → (listed.setIfInBounds k true).getD j true = true := fun j hj => by
      by_cases hjk : k = j
      · subst hjk
        cases hg : (listed.setIfInBounds k true).getD k true with
        | true => rfl
        | false =>
          exfalso
          rcases Nat.lt_or_ge k listed.size with h1 | h1
          · simp [h1] at hg
          · simp [h1] at hg
      · rw [getD_set_ne true hjk]; exact hbf j (by omega)
    by_cases hkt : k = tl
    · have hnil : ∀ j, j ∈ Region.ready md ops (listed.setIfInBounds k true) → False := fun j hj => by
        obtain ⟨hun, oj, hoj, _⟩ := mem_ready.1 hj
        have := (Array.getElem?_eq_some_iff.1 hoj).1
        rw [hbf' j (by omega)] at hun
        cases hun
      have hnil' : Region.ready md ops (listed.setIfInBounds k true) = [] := List.eq_nil_iff_forall_not_mem.2 fun j hj => hnil j hj
      refine ⟨fun h1 => (by rw [h1] at hr'; cases hr'), fun i hi => ?_⟩
      have hik : i = k := by
        obtain ⟨hun, oi, hoi, _⟩ := mem_ready.1 hi
        have := (Array.getElem?_eq_some_iff.1 hoi).1
        rcases Nat.lt_or_ge i k with h1 | h1
        · rw [hbf i h1] at hun; cases hun
        · omega
      subst hik
      refine ⟨fun _ => ⟨hnil', ?_⟩, fun h1 => absurd hkt h1⟩
      unfold tOp
      rw [h0]
      unfold wpMixT at h
      exact h.1 hkt
    · have hm : mOp P ops E C k (wpMixT P ops E C Q tl (k + 1) l) a w := by
        unfold mOp
        rw [h0]
        unfold wpMixT at h
        have h := h.2 hkt
        dsimp only
        split
        · rename_i hwt
          simp only [hwt, if_true] at h
          split
          · rename_i hE; simp only [hE, if_true] at h; exact h
          · rename_i hE
            simp only [hE] at h
            obtain ⟨v, h1, h2⟩ := h
            exact ⟨v, fun w2 hw2 => h1 ⟨w2, hw2⟩, h2⟩
        · rename_i hwt
          simp only [hwt] at h
          exact h
      refine wpAnyT_first hch htl h0 hkt (Region.noSelect_spec hs) l.length listed a w hdn hw (Region.free_spec h0 hf) hr' ?_
      exact mOp_mono hw (fun a' w' hw' hK => wpAnyT_lex hch htl hlast hs l (k + 1) _ a' w' (fun j => by have := hl (j + 1); simpa [Nat.add_assoc, Nat.add_comm 1 j] using this) hbf' (hdn.ready hr') hw' hB' hK) hm

/-- the last one waits for all, as a test -/
def tailB (md : Region.Mode) (ops : Array Oper) (tl : Nat) : Bool := (List.range ops.size).all (fun i => i == tl || dep md ops ops.size tl i) && tl + 1 == ops.size
theorem tail_of {tl : Nat} (h : tailB md ops tl = true) : Tail md ops ops.size tl ∧ tl + 1 = ops.size := by
  unfold tailB at h
  rw [Bool.and_eq_true, List.all_eq_true, beq_iff_eq] at h
  refine ⟨fun i hi hne => ?_, h.2⟩
  have := h.1 i (List.mem_range.2 hi)
  simp only [Bool.or_eq_true, beq_iff_eq] at this
  exact this.resolve_left hne

/-- a region's rest, behind a box -/
structure MixT (P : Program) (ops : Array Oper) (E : Nat → Bool) (C : World → Prop) (Q : Act → World → Prop) (tl k : Nat) (rest : List Oper) (a : Act) (w : World) : Prop where
  out : wpMixT P ops E C Q tl k rest a w

theorem wp_region_mixT {id : Nat} {l : List Oper} {Es : List Nat} (tl : Nat) (C : World → Prop) {Q : Exit → Act → World → Prop} {a : Act} {w : World} (hm : P.follows .mixedOrders = true)
    (hB : (Region.lexB .any l.toArray && chainB .any l.toArray Es && tailB .any l.toArray tl) = true) (hC : C w.drew)
    (h : MixT P l.toArray (fun k => Es.contains k) C (fun a' w' => Q .normal a' w') tl 0 l a w.drew) : (Code.region id l.toArray true).wp P Q a w := by
  simp only [Region.lexB, Bool.and_eq_true] at hB
  obtain ⟨ht1, ht2⟩ := tail_of hB.2
  refine wp_region_any hm (wpAny_of_wpAnyT (Q := fun a' w' => Q .normal a' w') (C := C) (E := fun k => Es.contains k) (tl := tl) (fun _ _ h => h) _ _ _ _ hC ?_)
  have := wpAnyT_lex (P := P) (C := C) (Q := fun a' w' => Q .normal a' w') (md := .any) (chain_of hB.1.2) ht1 ht2 hB.1.1.1 l 0 (Array.replicate l.toArray.size false) a w.drew (by simp) (fun j hj => by omega) (Down.start _) hC (by simpa using hB.1.1.2) h.out
  simpa using this

section
variable {Es : List Nat} {Q : Act → World → Prop} {o : Oper} {rest : List Oper} {a : Act} {w : World} {k tl : Nat}

theorem mixT_nil (h : Q a w) : MixT P ops (fun k => Es.contains k) C Q tl k [] a w := ⟨h⟩

theorem mixT_step (hk : (Es.contains k || k == tl) = false) (h : ∀ K : Act → World → Prop, (∀ a w, MixT P ops (fun k => Es.contains k) C Q tl (k + 1) rest a w → K a w) →
      if Region.wanted o (yielded ops a.tmps) then ∃ v, (∀ w2 : Subtype C, (execOp a.eval o).run P w2.1 = .ok (.value v) w2.1) ∧ K (a.put o.dst v) w else K (a.put o.dst undef) w) :
    MixT P ops (fun k => Es.contains k) C Q tl k (o :: rest) a w := by
  have := h (fun a w => wpMixT P ops (fun k => Es.contains k) C Q tl (k + 1) rest a w) (fun _ _ h => h.out)
  rw [Bool.or_eq_false_iff] at hk
  have hkt : k ≠ tl := by simpa using hk.2
  refine ⟨?_⟩
  unfold wpMixT
  refine ⟨fun h => absurd h hkt, fun _ => ?_⟩
  simp only [hk.1]
  exact this

theorem mixT_eff (hk : (Es.contains k && !(k == tl)) = true) (h : ∀ K : Act → World → Prop, (∀ a w, C w → MixT P ops (fun k => Es.contains k) C Q tl (k + 1) rest a w → K a w) →
      if Region.wanted o (yielded ops a.tmps) then o.wp P a w K NoExit else K (a.put o.dst undef) w) :
    MixT P ops (fun k => Es.contains k) C Q tl k (o :: rest) a w := by
  have h1 := h (fun a' w' => C w' ∧ wpMixT P ops (fun k => Es.contains k) C Q tl (k + 1) rest a' w') (fun _ _ hc hh => ⟨hc, hh.out⟩)
  rw [Bool.and_eq_true] at hk
  have hkt : k ≠ tl := by simpa using hk.2
  refine ⟨?_⟩
  unfold wpMixT
  refine ⟨fun h => absurd h hkt, fun _ => ?_⟩
  simp only [hk.1, if_true]
  by_cases hw : Region.wanted o (yielded ops a.tmps) = true
  · simp only [hw, if_true] at h1 ⊢
    exact h1
  · simp only [hw] at h1 ⊢
    exact h1.2

theorem mixT_last (hk : (k == tl) = true) (h : ∀ K : Act → World → Prop, (∀ a w, Q a w → K a w) →
      if Region.wanted o (yielded ops a.tmps) then o.wp P a w K NoExit else K (a.put o.dst undef) w) :
    MixT P ops (fun k => Es.contains k) C Q tl k [o] a w := by
  have h1 := h Q (fun _ _ h => h)
  have hkt : k = tl := by simpa using hk
  refine ⟨?_⟩
  unfold wpMixT
  exact ⟨fun _ => h1, fun h => absurd hkt h⟩
end
end
end Go.Mix
