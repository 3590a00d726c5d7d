/- The test that effects wait for one another, by bits (each operation's ancestors once): for regions with many calls. No conditions. -/
import Derived.Test.YtblbphnmflbepaaOrd
namespace Go.Mix
open Go
section
variable {P : Program} {ops : Array Oper} {md : Region.Mode}

theorem dep_mono : ∀ (n : Nat) (j i : Nat), dep md ops n j i = true → ∀ m, n ≤ m → dep md ops m j i = true
  | 0, _, _, h, _, _ => by simp [dep] at h
  | n + 1, j, i, h, m, hm => by
    obtain ⟨m, rfl⟩ : ∃ k, m = k + 1 := ⟨m - 1, by omega⟩
    unfold dep at h ⊢
    cases ho : ops[j]? with
    | none => rw [ho] at h; simp at h
    | some o =>
      rw [ho] at h
      simp only [Array.any_eq_true'] at h ⊢
      obtain ⟨e, he, hb⟩ := h
      refine ⟨e, he, ?_⟩
      rw [Bool.and_eq_true, Bool.or_eq_true] at hb ⊢
      exact ⟨hb.1, hb.2.imp id (fun h => dep_mono n e.on i h m (by omega))⟩

/-- an operation's ancestors, as bits -/
def ancStep (md : Region.Mode) (acc : List Nat) (o : Oper) : Nat := o.after.toList.foldl (fun m e => if Region.binds md e then m ||| ((1 <<< e.on) ||| acc.getD e.on 0) else m) 0
def ancAll (md : Region.Mode) : List Oper → List Nat → List Nat
  | [], acc => acc
  | o :: l, acc => ancAll md l (acc ++ [ancStep md acc o])

theorem fold_bit (acc : List Nat) : ∀ (l : List Edge) (m i : Nat), (l.foldl (fun m e => if Region.binds md e then m ||| ((1 <<< e.on) ||| acc.getD e.on 0) else m) m).testBit i = true →
    m.testBit i = true ∨ ∃ e ∈ l, Region.binds md e = true ∧ (e.on = i ∨ (acc.getD e.on 0).testBit i = true)
  | [], m, i, h => .inl h
  | e :: l, m, i, h => by
    rcases fold_bit acc l _ i h with h1 | ⟨e', he', h2⟩
    · simp only at h1
      by_cases hb : Region.binds md e = true
      · rw [if_pos hb] at h1
        simp only [Nat.testBit_or, Bool.or_eq_true] at h1
        rcases h1 with h1 | h1 | h1
        · exact .inl h1
        · refine .inr ⟨e, by simp, hb, .inl ?_⟩
          rw [Nat.one_shiftLeft, Nat.testBit_two_pow] at h1
          simpa using h1
        · exact .inr ⟨e, by simp, hb, .inr h1⟩
      · rw [if_neg hb] at h1
        exact .inl h1
    · exact .inr ⟨e', by simp [he'], h2⟩

def AncOk (md : Region.Mode) (ops : Array Oper) (acc : List Nat) : Prop := ∀ j i, (acc.getD j 0).testBit i = true → j < acc.length ∧ dep md ops (j + 1) j i = true
theorem anc_step {acc : List Nat} (h : AncOk md ops acc) {o : Oper} (ho : ops[acc.length]? = some o) : AncOk md ops (acc ++ [ancStep md acc o]) := by
  intro j i hb
  rcases Nat.lt_trichotomy j acc.length with h1 | h1 | h1
  · rw [List.getD_eq_getElem?_getD, List.getElem?_append_left h1, ← List.getD_eq_getElem?_getD] at hb
    have := h j i hb
    exact ⟨by simp; omega, this.2⟩
  · subst h1
    have hg : (acc ++ [ancStep md acc o]).getD acc.length 0 = ancStep md acc o := by simp
    rw [hg] at hb
    refine ⟨by simp, ?_⟩
    rcases fold_bit acc _ _ i hb with h2 | ⟨e, he, h2, h3⟩
    · simp at h2
    · unfold dep
      rw [ho]
      simp only [Array.any_eq_true']
      refine ⟨e, by simpa using he, ?_⟩
      rw [Bool.and_eq_true, Bool.or_eq_true]
      refine ⟨h2, ?_⟩
      rcases h3 with h3 | h3
      · exact .inl (by simpa using h3)
      · obtain ⟨h4, h5⟩ := h e.on i h3
        exact .inr (dep_mono _ _ _ h5 _ h4)
  · rw [List.getD_eq_getElem?_getD, List.getElem?_eq_none (by simp; omega)] at hb
    simp at hb
theorem anc_all : ∀ (l : List Oper) (acc : List Nat), AncOk md ops acc → (∀ j, l[j]? = ops[acc.length + j]?) → AncOk md ops (ancAll md l acc)
  | [], _, h, _ => h
  | o :: l, acc, h, hl => by
    have h0 : ops[acc.length]? = some o := by simpa using (hl 0).symm
    refine anc_all l _ (anc_step h h0) fun j => ?_
    have := hl (j + 1)
    simp only [List.getElem?_cons_succ] at this
    rw [this, List.length_append, List.length_singleton]
    congr 1
    omega

def chainC (md : Region.Mode) (ops : Array Oper) (Es : List Nat) : Bool :=
  let A := ancAll md ops.toList []
  Es.all fun i => Es.all fun j => i == j || (A.getD i 0).testBit j || (A.getD j 0).testBit i
theorem chainC_of {Es : List Nat} (h : chainC md ops Es = true) : Chain md ops (fun k => Es.contains k) ops.size := by
  have hA : AncOk md ops (ancAll md ops.toList []) := anc_all ops.toList [] (fun j i h => by simp at h) (fun j => by simp)
  unfold chainC at h
  simp only [List.all_eq_true] at h
  intro i j hi hj hij h1 h2
  have h3 := h i (by simpa using h1) j (by simpa using h2)
  simp only [Bool.or_eq_true, beq_iff_eq] at h3
  rcases h3 with (h3 | h3) | h3
  · exact absurd h3 hij
  · exact .inl (dep_mono _ _ _ (hA i j h3).2 _ hi)
  · exact .inr (dep_mono _ _ _ (hA j i h3).2 _ hj)

theorem wp_region_mixC {id : Nat} {l : List Oper} {Es : List Nat} (C : World → Prop) {Q : Exit → Act → World → Prop} {a : Act} {w : World} (hm : P.follows .mixedOrders = true)
    (hB : (Region.lexB .any l.toArray && chainC .any l.toArray Es) = true) (hC : C w.drew)
    (h : Nonempty (Subtype C) → MixG P l.toArray (fun k => Es.contains k) C (fun a' w' => Q .normal a' w') 0 l a w.drew) : (Code.region id l.toArray true).wp P Q a w := by
  simp only [Region.lexB, Bool.and_eq_true] at hB
  refine wp_region_any hm (wpAny_of_wpAnyM (Q := fun a' w' => Q .normal a' w') (C := C) (E := fun k => Es.contains k) (fun _ _ _ h => h) _ _ _ _ hC ?_)
  have := wpAnyM_lex (P := P) (C := C) (Q := fun a' w' => Q .normal a' w') (md := .any) (chainC_of hB.2) hB.1.1 l 0 (Array.replicate l.toArray.size false) a w.drew (by simp) (Down.start _) hC (by simpa using hB.1.2) (h ⟨⟨_, hC⟩⟩).out
  simpa using this
end
end Go.Mix
