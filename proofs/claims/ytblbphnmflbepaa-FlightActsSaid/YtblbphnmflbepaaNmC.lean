/- Plain law of names' order and of who is under whom. Lists alone; no program in sight. -/
import Derived.Test.YtblbphnmflbepaaNmB
namespace Go.Nm

theorem ltB_total : ∀ a b : Bytes, ltB a b = true ∨ a = b ∨ ltB b a = true
  | [], [] => .inr (.inl rfl)
  | [], _ :: _ => .inl rfl
  | _ :: _, [] => .inr (.inr rfl)
  | a :: x, b :: y => by
    rcases ltB_total x y with h | h | h
    · rcases Nat.lt_trichotomy a.toNat b.toNat with h1 | h1 | h1
      · exact .inl (by simp [ltB, UInt8.lt_iff_toNat_lt, h1])
      · exact .inl (by simp [ltB, UInt8.toNat_inj.1 h1, h])
      · exact .inr (.inr (by simp [ltB, UInt8.lt_iff_toNat_lt, h1]))
    · subst h
      rcases Nat.lt_trichotomy a.toNat b.toNat with h1 | h1 | h1
      · exact .inl (by simp [ltB, UInt8.lt_iff_toNat_lt, h1])
      · exact .inr (.inl (by rw [UInt8.toNat_inj.1 h1]))
      · exact .inr (.inr (by simp [ltB, UInt8.lt_iff_toNat_lt, h1]))
    · rcases Nat.lt_trichotomy a.toNat b.toNat with h1 | h1 | h1
      · exact .inl (by simp [ltB, UInt8.lt_iff_toNat_lt, h1])
      · exact .inr (.inr (by simp [ltB, UInt8.toNat_inj.1 h1, h]))
      · exact .inr (.inr (by simp [ltB, UInt8.lt_iff_toNat_lt, h1]))

theorem ltB_cons {a b : UInt8} {x y : Bytes} : ltB (a :: x) (b :: y) = true ↔ a.toNat < b.toNat ∨ (a = b ∧ ltB x y = true) := by
  simp [ltB, UInt8.lt_iff_toNat_lt]

theorem ltB_trans : ∀ {a b c : Bytes}, ltB a b = true → ltB b c = true → ltB a c = true
  | _, [], _, h, _ => by simp [ltB] at h
  | _, _ :: _, [], _, h => by simp [ltB] at h
  | [], _ :: _, _ :: _, _, _ => rfl
  | a :: x, b :: y, c :: z, h1, h2 => by
    rw [ltB_cons] at *
    rcases h1 with h1 | ⟨rfl, h1⟩
    · rcases h2 with h2 | ⟨rfl, h2⟩
      · exact .inl (by omega)
      · exact .inl h1
    · rcases h2 with h2 | ⟨rfl, h2⟩
      · exact .inl h2
      · exact .inr ⟨rfl, ltB_trans h1 h2⟩
theorem ltB_asymm {a b : Bytes} (h : ltB a b = true) : ltB b a = false := by
  cases h2 : ltB b a with
  | false => rfl
  | true =>
    have := ltB_trans h h2
    rw [ltB_irrefl] at this
    cases this

theorem lexL_irrefl : ∀ x : List Bytes, lexL x x = false
  | [] => lexL_nil_right _
  | a :: x => by rw [lexL_cons, if_pos rfl]; exact lexL_irrefl x
theorem lexL_total : ∀ x y : List Bytes, lexL x y = true ∨ x = y ∨ lexL y x = true
  | [], [] => .inr (.inl rfl)
  | [], b :: y => .inl (lexL_nil_cons b y)
  | a :: x, [] => .inr (.inr (lexL_nil_cons a x))
  | a :: x, b :: y => by
    by_cases h : a = b
    · subst h
      rcases lexL_total x y with h | h | h
      · exact .inl (by rw [lexL_cons, if_pos rfl]; exact h)
      · exact .inr (.inl (by rw [h]))
      · exact .inr (.inr (by rw [lexL_cons, if_pos rfl]; exact h))
    · rcases ltB_total a b with h1 | h1 | h1
      · exact .inl (by rw [lexL_cons, if_neg h]; exact h1)
      · exact absurd h1 h
      · exact .inr (.inr (by rw [lexL_cons, if_neg (fun e => h e.symm)]; exact h1))
theorem lexL_trans : ∀ {x y z : List Bytes}, lexL x y = true → lexL y z = true → lexL x z = true
  | x, [], _, h, _ => by rw [lexL_nil_right] at h; cases h
  | _, y :: ys, [], _, h => by rw [lexL_nil_right] at h; cases h
  | [], _ :: _, c :: z, _, _ => lexL_nil_cons c z
  | a :: x, b :: y, c :: z, h1, h2 => by
    rw [lexL_cons] at *
    by_cases hab : a = b
    · subst hab
      rw [if_pos rfl] at h1
      by_cases hac : a = c
      · subst hac
        rw [if_pos rfl] at h2 ⊢
        exact lexL_trans h1 h2
      · rw [if_neg hac] at h2 ⊢
        exact h2
    · rw [if_neg hab] at h1
      by_cases hbc : b = c
      · subst hbc
        rw [if_neg hab]
        exact h1
      · rw [if_neg hbc] at h2
        have h3 := ltB_trans h1 h2
        rw [if_neg (fun e => by rw [e, ltB_irrefl] at h3; cases h3)]
        exact h3
theorem lexL_asymm {x y : List Bytes} (h : lexL x y = true) : lexL y x = false := by
  cases h2 : lexL y x with
  | false => rfl
  | true =>
    have := lexL_trans h h2
    rw [lexL_irrefl] at this
    cases this
theorem lexL_prefix {x y : List Bytes} (hy : y ≠ []) : lexL x (x ++ y) = true := by
  induction x with
  | nil =>
    cases y with
    | nil => exact absurd rfl hy
    | cons b y => exact lexL_nil_cons b y
  | cons a x ih => rw [List.cons_append, lexL_cons, if_pos rfl]; exact ih

theorem endsIn_iff {a b : List Bytes} : endsIn a b = true ↔ ∃ p, a = p ++ b := by
  unfold endsIn
  rw [Bool.and_eq_true, decide_eq_true_iff, beq_iff_eq]
  constructor
  · rintro ⟨_, h⟩
    exact ⟨a.take (a.length - b.length), by conv => lhs; rw [← List.take_append_drop (a.length - b.length) a, h]⟩
  · rintro ⟨p, rfl⟩
    refine ⟨by simp, ?_⟩
    rw [List.length_append, show p.length + b.length - b.length = p.length by omega, List.drop_left]
theorem endsIn_refl (a : List Bytes) : endsIn a a = true := endsIn_iff.2 ⟨[], rfl⟩
theorem endsIn_trans {a b c : List Bytes} (h : endsIn a b = true) (h2 : endsIn b c = true) : endsIn a c = true := by
  obtain ⟨p, rfl⟩ := endsIn_iff.1 h
  obtain ⟨q, rfl⟩ := endsIn_iff.1 h2
  exact endsIn_iff.2 ⟨p ++ q, by simp⟩

/-! ### of names -/
theorem less_order {a b : Bytes} (ha : valid a = true) (hb : valid b = true) : lessN a b = lexL (orderF (labs a)) (orderF (labs b)) := by
  unfold lessN; rw [ha, hb]; rfl
theorem orderF_inj {x y : List Bytes} : orderF x = orderF y ↔ x.map foldB = y.map foldB := by
  unfold orderF; exact List.reverse_inj
theorem same_order {a b : Bytes} (ha : valid a = true) (hb : valid b = true) : sameN a b = true ↔ orderF (labs a) = orderF (labs b) := by
  rw [sameN_labs, ha, hb, orderF_inj]; simp
theorem under_order {a b : Bytes} (ha : valid a = true) (hb : valid b = true) : underN a b = endsIn ((labs a).map foldB) ((labs b).map foldB) := by
  unfold underN; rw [ha, hb]; rfl

/-- either ahead, or the same, or behind; and just one of them -/
theorem three {a b : Bytes} (ha : valid a = true) (hb : valid b = true) :
    (lessN a b = true ∧ lessN b a = false ∧ sameN a b = false) ∨ (lessN a b = false ∧ lessN b a = true ∧ sameN a b = false) ∨ (lessN a b = false ∧ lessN b a = false ∧ sameN a b = true) := by
  rw [less_order ha hb, less_order hb ha]
  have hs : ∀ h : orderF (labs a) ≠ orderF (labs b), sameN a b = false := fun h => by
    cases hx : sameN a b with
    | false => rfl
    | true => exact absurd ((same_order ha hb).1 hx) h
  rcases lexL_total (orderF (labs a)) (orderF (labs b)) with h | h | h
  · exact .inl ⟨h, lexL_asymm h, hs (fun e => by rw [e, lexL_irrefl] at h; cases h)⟩
  · exact .inr (.inr ⟨by rw [h]; exact lexL_irrefl _, by rw [h]; exact lexL_irrefl _, (same_order ha hb).2 h⟩)
  · exact .inr (.inl ⟨lexL_asymm h, h, hs (fun e => by rw [e, lexL_irrefl] at h; cases h)⟩)
theorem less_trans {a b c : Bytes} (ha : valid a = true) (hb : valid b = true) (hc : valid c = true) (h1 : lessN a b = true) (h2 : lessN b c = true) : lessN a c = true := by
  rw [less_order ha hb] at h1
  rw [less_order hb hc] at h2
  rw [less_order ha hc]
  exact lexL_trans h1 h2
theorem under_ahead {a b : Bytes} (ha : valid a = true) (hb : valid b = true) (h : underN a b = true) (hs : sameN a b = false) : lessN b a = true := by
  rw [under_order ha hb] at h
  obtain ⟨p, hp⟩ := endsIn_iff.1 h
  rw [less_order hb ha]
  unfold orderF
  rw [hp, List.reverse_append]
  refine lexL_prefix ?_
  intro e
  have hpe : p = [] := by simpa using e
  rw [hpe, List.nil_append] at hp
  have := (same_order ha hb).2 (orderF_inj.2 hp)
  rw [hs] at this
  cases this
theorem under_refl {a : Bytes} (ha : valid a = true) : underN a a = true := by rw [under_order ha ha]; exact endsIn_refl _
theorem valid_root : valid [0] = true := by decide
theorem labs_root : labs [0] = [] := rfl
theorem under_root {a : Bytes} (ha : valid a = true) : underN a [0] = true := by rw [under_order ha valid_root, labs_root]; exact endsIn_nil _
theorem under_trans {a b c : Bytes} (ha : valid a = true) (hb : valid b = true) (hc : valid c = true) (h1 : underN a b = true) (h2 : underN b c = true) : underN a c = true := by
  rw [under_order ha hb] at h1
  rw [under_order hb hc] at h2
  rw [under_order ha hc]
  exact endsIn_trans h1 h2
end Go.Nm
