/- Plain law of names: what a list of bytes is as a name (labels, each behind its length, and a nought), read and written. Lists alone; no program in sight. -/
namespace Go.Nm

abbrev Bytes := List UInt8

/-- labels, each behind its length -/
def pre : List Bytes → Bytes
  | [] => []
  | l :: ls => UInt8.ofNat l.length :: (l ++ pre ls)

def wire (ls : List Bytes) : Bytes := pre ls ++ [0]

def GoodL (ls : List Bytes) : Prop := ∀ l ∈ ls, 1 ≤ l.length ∧ l.length ≤ 63

/-- the labels that a text begins with, and what is behind their nought -/
def unw : Nat → Bytes → Option (List Bytes × Bytes)
  | 0, _ => none
  | _ + 1, [] => none
  | n + 1, c :: r =>
    if c = 0 then some ([], r)
    else if 63 < c.toNat ∨ r.length < c.toNat then none
    else (unw n (r.drop c.toNat)).map fun p => (r.take c.toNat :: p.1, p.2)

def unwire (s : Bytes) : Option (List Bytes × Bytes) := unw (s.length + 1) s

/-- the labels of a name -/
def lab (s : Bytes) : Option (List Bytes) :=
  match unwire s with
  | some (ls, []) => if s.length ≤ 255 then some ls else none
  | _ => none

def valid (s : Bytes) : Bool := (lab s).isSome
def labs (s : Bytes) : List Bytes := (lab s).getD []

/-- where the name that a text begins with ends -/
def lead (s : Bytes) : Option Nat :=
  match unwire s with
  | some (ls, _) => if (wire ls).length ≤ 255 then some (wire ls).length else none
  | none => none

theorem pre_append (a b : List Bytes) : pre (a ++ b) = pre a ++ pre b := by
  induction a with
  | nil => rfl
  | cons x a ih => simp [pre, ih]

theorem good_append {a b : List Bytes} : GoodL (a ++ b) ↔ GoodL a ∧ GoodL b := by
  unfold GoodL
  constructor
  · intro h
    exact ⟨fun l hl => h l (List.mem_append_left _ hl), fun l hl => h l (List.mem_append_right _ hl)⟩
  · rintro ⟨h1, h2⟩ l hl
    rcases List.mem_append.1 hl with h | h
    · exact h1 l h
    · exact h2 l h

theorem good_cons {x : Bytes} {a : List Bytes} : GoodL (x :: a) ↔ (1 ≤ x.length ∧ x.length ≤ 63) ∧ GoodL a := by
  unfold GoodL
  simp

theorem good_nil : GoodL [] := by unfold GoodL; simp

theorem ofNat_toNat {n : Nat} (h : n ≤ 63) : (UInt8.ofNat n).toNat = n := by
  simp; omega

theorem toNat_pos {c : UInt8} (h : c ≠ 0) : 1 ≤ c.toNat := by
  rcases Nat.eq_zero_or_pos c.toNat with h0 | h0
  · exact absurd (by rw [← UInt8.toNat_inj]; simpa using h0) h
  · exact h0

theorem unw_sound : ∀ (n : Nat) (s : Bytes) (ls : List Bytes) (t : Bytes), unw n s = some (ls, t) → s = wire ls ++ t ∧ GoodL ls
  | 0, _, _, _, h => by simp [unw] at h
  | n + 1, [], _, _, h => by simp [unw] at h
  | n + 1, c :: r, ls, t, h => by
    unfold unw at h
    by_cases hc : c = 0
    · simp [hc] at h
      obtain ⟨rfl, rfl⟩ := h
      exact ⟨by simp [hc, wire, pre], good_nil⟩
    · simp only [hc, if_false] at h
      by_cases hb : 63 < c.toNat ∨ r.length < c.toNat
      · simp [hb] at h
      · simp only [hb, if_false, Option.map_eq_some_iff, Prod.exists, Prod.mk.injEq] at h
        obtain ⟨ls', t', hu, rfl, rfl⟩ := h
        obtain ⟨h1, h2⟩ := unw_sound n _ _ _ hu
        have hlen : (r.take c.toNat).length = c.toNat := by rw [List.length_take]; omega
        have hcn := toNat_pos hc
        refine ⟨?_, good_cons.2 ⟨by omega, h2⟩⟩
        have hr : r = r.take c.toNat ++ (wire ls' ++ t') := by rw [← h1, List.take_append_drop]
        have hcc : UInt8.ofNat (r.take c.toNat).length = c := by rw [hlen]; simp
        simp only [wire, pre, hcc, List.cons_append, List.append_assoc]
        congr 1
        simpa [wire] using hr

theorem unw_complete : ∀ (ls : List Bytes) (n : Nat) (t : Bytes), GoodL ls → ls.length < n → unw n (wire ls ++ t) = some (ls, t)
  | [], n, t, _, hn => by
    cases n with
    | zero => simp at hn
    | succ n => simp [wire, pre, unw]
  | l :: ls, n, t, hg, hn => by
    cases n with
    | zero => simp at hn
    | succ n =>
      obtain ⟨⟨h1, h2⟩, h3⟩ := good_cons.1 hg
      have hc : (UInt8.ofNat l.length).toNat = l.length := ofNat_toNat h2
      have hne : UInt8.ofNat l.length ≠ 0 := by
        intro h
        have := congrArg UInt8.toNat h
        rw [hc] at this
        simp at this
        rw [this] at h1
        simp at h1
      have ih := unw_complete ls n t h3 (by simpa using hn)
      have e : wire (l :: ls) ++ t = UInt8.ofNat l.length :: (l ++ (wire ls ++ t)) := by simp [wire, pre]
      rw [e]
      unfold unw
      simp only [hne, if_false, hc]
      have hb : ¬ (63 < l.length ∨ (l ++ (wire ls ++ t)).length < l.length) := by simp; omega
      simp only [hb, if_false]
      rw [List.drop_left, List.take_left, ih]
      rfl

theorem wire_length_gt (ls : List Bytes) : ls.length < (wire ls).length := by
  induction ls with
  | nil => simp [wire, pre]
  | cons l ls ih => simp [wire, pre] at ih ⊢; omega

theorem unwire_eq {s : Bytes} {ls : List Bytes} {t : Bytes} : unwire s = some (ls, t) ↔ s = wire ls ++ t ∧ GoodL ls := by
  constructor
  · exact unw_sound _ _ _ _
  · rintro ⟨rfl, h⟩
    unfold unwire
    exact unw_complete ls _ t h (by have := wire_length_gt ls; simp; omega)

theorem lab_eq {s : Bytes} {ls : List Bytes} : lab s = some ls ↔ s = wire ls ∧ GoodL ls ∧ s.length ≤ 255 := by
  unfold lab
  constructor
  · intro h
    split at h
    · rename_i ls' hu
      split at h
      · rename_i hl
        simp at h
        subst h
        obtain ⟨h1, h2⟩ := unwire_eq.1 hu
        exact ⟨by simpa using h1, h2, hl⟩
      · cases h
    · cases h
  · rintro ⟨h1, h2, h3⟩
    have : unwire s = some (ls, []) := unwire_eq.2 ⟨by simpa using h1, h2⟩
    rw [this]
    simp [h3]

theorem valid_iff {s : Bytes} : valid s = true ↔ ∃ ls, s = wire ls ∧ GoodL ls ∧ s.length ≤ 255 := by
  unfold valid
  rw [Option.isSome_iff_exists]
  exact ⟨fun ⟨ls, h⟩ => ⟨ls, lab_eq.1 h⟩, fun ⟨ls, h⟩ => ⟨ls, lab_eq.2 h⟩⟩

theorem valid_cases (s : Bytes) : (valid s = false ∧ labs s = []) ∨ (valid s = true ∧ s = wire (labs s) ∧ GoodL (labs s) ∧ s.length ≤ 255) := by
  cases h : lab s with
  | none => exact .inl ⟨by simp [valid, h], by simp [labs, h]⟩
  | some ls =>
    have := lab_eq.1 h
    exact .inr ⟨by simp [valid, h], by simpa [labs, h] using this⟩

theorem wire_inj {a b : List Bytes} {t u : Bytes} (ha : GoodL a) (hb : GoodL b) (h : wire a ++ t = wire b ++ u) : a = b ∧ t = u := by
  have h1 : unwire (wire a ++ t) = some (a, t) := unwire_eq.2 ⟨rfl, ha⟩
  have h2 : unwire (wire b ++ u) = some (b, u) := unwire_eq.2 ⟨rfl, hb⟩
  rw [h, h2] at h1
  simp at h1
  exact ⟨h1.1.symm, h1.2.symm⟩

theorem labs_wire {ls : List Bytes} (hg : GoodL ls) (hl : (wire ls).length ≤ 255) : lab (wire ls) = some ls := lab_eq.2 ⟨rfl, hg, hl⟩

/-! ### reading on -/
theorem unw_mono : ∀ (n m : Nat) (s : Bytes) (r : List Bytes × Bytes), unw n s = some r → n ≤ m → unw m s = some r
  | 0, _, _, _, h, _ => by simp [unw] at h
  | n + 1, 0, _, _, _, h => by omega
  | n + 1, m + 1, [], _, h, _ => by simp [unw] at h
  | n + 1, m + 1, c :: r, p, h, hm => by
    unfold unw at h ⊢
    by_cases hc : c = 0
    · simpa [hc] using h
    · simp only [hc, if_false] at h ⊢
      by_cases hb : 63 < c.toNat ∨ r.length < c.toNat
      · simp [hb] at h
      · simp only [hb, if_false] at h ⊢
        rw [Option.map_eq_some_iff] at h ⊢
        obtain ⟨q, hq, rfl⟩ := h
        exact ⟨q, unw_mono n m _ _ hq (by omega), rfl⟩

/-- behind labels that were read the rest is read alike -/
theorem unwire_pre {ls : List Bytes} (hg : GoodL ls) (r : Bytes) : unwire (pre ls ++ r) = (unwire r).map fun p => (ls ++ p.1, p.2) := by
  cases h : unwire r with
  | some p =>
    obtain ⟨ms, t⟩ := p
    obtain ⟨rfl, h2⟩ := unwire_eq.1 h
    simp only [Option.map_some]
    refine unwire_eq.2 ⟨by simp [wire, pre_append], good_append.2 ⟨hg, h2⟩⟩
  | none =>
    simp only [Option.map_none]
    cases h' : unwire (pre ls ++ r) with
    | none => rfl
    | some p =>
      exfalso
      obtain ⟨ms, t⟩ := p
      obtain ⟨h1, h2⟩ := unwire_eq.1 h'
      clear h'
      induction ls generalizing ms with
      | nil =>
        have := unwire_eq.2 ⟨h1, h2⟩
        simp only [pre, List.nil_append] at this
        rw [h] at this
        cases this
      | cons l ls ih =>
        obtain ⟨⟨hl1, hl2⟩, hg'⟩ := good_cons.1 hg
        cases ms with
        | nil =>
          simp [pre, wire] at h1
          have := congrArg UInt8.toNat h1.1
          rw [ofNat_toNat hl2] at this
          simp at this
          rw [this] at hl1
          simp at hl1
        | cons m ms =>
          obtain ⟨⟨hm1, hm2⟩, hgm⟩ := good_cons.1 h2
          simp only [pre, wire, List.cons_append, List.append_assoc, List.cons.injEq] at h1
          have hlen : l.length = m.length := by
            have := congrArg UInt8.toNat h1.1
            rwa [ofNat_toNat hl2, ofNat_toNat hm2] at this
          have := List.append_inj h1.2 hlen
          exact ih hg' ms (by rw [this.2]; simp [wire]) hgm

theorem unwire_cons (c : UInt8) (r : Bytes) : unwire (c :: r) =
    if c = 0 then some ([], r) else if 63 < c.toNat ∨ r.length < c.toNat then none else (unwire (r.drop c.toNat)).map fun p => (r.take c.toNat :: p.1, p.2) := by
  by_cases hc : c = 0
  · subst hc; simp [unwire, unw]
  · by_cases hb : 63 < c.toNat ∨ r.length < c.toNat
    · simp [unwire, unw, hc, hb]
    · simp only [hc, hb, if_false]
      have hcn := toNat_pos hc
      have hlen : (r.take c.toNat).length = c.toNat := by rw [List.length_take]; omega
      have hg : GoodL [r.take c.toNat] := good_cons.2 ⟨by omega, good_nil⟩
      have h1 := unwire_pre hg (r.drop c.toNat)
      have e : pre [r.take c.toNat] ++ r.drop c.toNat = c :: r := by
        simp only [pre, hlen, List.append_nil, List.cons_append, List.take_append_drop]
        congr 1
        simp
      rw [e] at h1
      simpa using h1

theorem unwire_nil : unwire [] = none := rfl

/-! ### what 'Lead' finds -/
theorem wire_len (ls : List Bytes) : (wire ls).length = (pre ls).length + 1 := by simp [wire]

theorem lead_zero {s : Bytes} {ls : List Bytes} {t : Bytes} (hg : GoodL ls) (h : s = pre ls ++ 0 :: t) (hl : (pre ls).length + 1 ≤ 255) : lead s = some ((pre ls).length + 1) := by
  have : unwire s = some (ls, t) := unwire_eq.2 ⟨by rw [h]; simp [wire], hg⟩
  unfold lead
  rw [this]
  simp [wire_len, hl]

theorem lead_big {s : Bytes} {ls : List Bytes} {c : UInt8} {r : Bytes} (hg : GoodL ls) (h : s = pre ls ++ c :: r) (hc : c ≠ 0) (hb : 63 < c.toNat ∨ r.length < c.toNat) : lead s = none := by
  have : unwire s = none := by
    rw [h, unwire_pre hg, unwire_cons]
    simp [hc, hb]
  unfold lead
  rw [this]

theorem lead_end {s : Bytes} {ls : List Bytes} (hg : GoodL ls) (h : s = pre ls) : lead s = none := by
  have : unwire s = none := by
    have := unwire_pre hg []
    rw [List.append_nil, unwire_nil] at this
    rw [h, this]
    rfl
  unfold lead
  rw [this]

theorem lead_long {s : Bytes} {ls : List Bytes} {r : Bytes} (hg : GoodL ls) (h : s = pre ls ++ r) (hl : 255 ≤ (pre ls).length) : lead s = none := by
  unfold lead
  rw [h, unwire_pre hg]
  cases unwire r with
  | none => rfl
  | some p =>
    simp only [Option.map_some]
    have : ¬ (wire (ls ++ p.1)).length ≤ 255 := by rw [wire_len, pre_append, List.length_append]; omega
    simp [this]

theorem step_label {ls : List Bytes} {c : UInt8} {r : Bytes} (hg : GoodL ls) (hc : c ≠ 0) (h1 : c.toNat ≤ 63) (h2 : c.toNat ≤ r.length) :
    pre ls ++ c :: r = pre (ls ++ [r.take c.toNat]) ++ r.drop c.toNat ∧ GoodL (ls ++ [r.take c.toNat]) ∧ (pre (ls ++ [r.take c.toNat])).length = (pre ls).length + 1 + c.toNat := by
  have hlen : (r.take c.toNat).length = c.toNat := by rw [List.length_take]; omega
  have hcn := toNat_pos hc
  refine ⟨?_, good_append.2 ⟨hg, good_cons.2 ⟨by omega, good_nil⟩⟩, ?_⟩
  · rw [pre_append]
    have e : pre [r.take c.toNat] = c :: r.take c.toNat := by
      simp only [pre, hlen, List.append_nil]
      congr 1
      simp
    rw [e]
    simp
  · rw [pre_append, List.length_append]
    simp only [pre, List.append_nil, List.length_cons, hlen]
    omega

/-- the same, of the first k bytes of a text -/
theorem take_step {s : Bytes} {ls : List Bytes} {k : Nat} {c : UInt8} (hg : GoodL ls) (hp : pre ls = s.take k) (hk : s[k]? = some c) (hc : c ≠ 0) (h1 : c.toNat ≤ 63) (h2 : k + 1 + c.toNat ≤ s.length) :
    ∃ l, l = (s.drop (k + 1)).take c.toNat ∧ l.length = c.toNat ∧ pre (ls ++ [l]) = s.take (k + 1 + c.toNat) ∧ GoodL (ls ++ [l]) := by
  have hkl : k < s.length := (List.getElem?_eq_some_iff.1 hk).1
  have hs : s = pre ls ++ c :: s.drop (k + 1) := by
    rw [hp]
    have : s.drop k = c :: s.drop (k + 1) := by
      rw [List.drop_eq_getElem_cons hkl]
      congr 1
      have := List.getElem?_eq_getElem hkl
      rw [hk] at this
      exact (Option.some.inj this).symm
    rw [← this, List.take_append_drop]
  obtain ⟨e1, e2, e3⟩ := step_label (r := s.drop (k + 1)) hg hc h1 (by rw [List.length_drop]; omega)
  refine ⟨_, rfl, by rw [List.length_take, List.length_drop]; omega, ?_, e2⟩
  rw [← hs] at e1
  have hlen : (pre (ls ++ [(s.drop (k + 1)).take c.toNat])).length = k + 1 + c.toNat := by
    rw [e3, hp, List.length_take]; omega
  generalize pre (ls ++ [(s.drop (k + 1)).take c.toNat]) = p at *
  rw [e1, ← hlen, List.take_left]

theorem split_at {s : Bytes} {ls : List Bytes} {k : Nat} {c : UInt8} (hp : pre ls = s.take k) (hk : s[k]? = some c) : s = pre ls ++ c :: s.drop (k + 1) ∧ (pre ls).length = k := by
  have hkl : k < s.length := (List.getElem?_eq_some_iff.1 hk).1
  refine ⟨?_, by rw [hp, List.length_take]; omega⟩
  rw [hp]
  have : s.drop k = c :: s.drop (k + 1) := by
    rw [List.drop_eq_getElem_cons hkl]
    congr 1
    have := List.getElem?_eq_getElem hkl
    rw [hk] at this
    exact (Option.some.inj this).symm
  rw [← this, List.take_append_drop]

theorem lead_le {s : Bytes} {n : Nat} (h : lead s = some n) : 1 ≤ n ∧ n ≤ 255 ∧ n ≤ s.length := by
  unfold lead at h
  split at h
  · rename_i ls t hu
    split at h
    · rename_i hl
      simp at h
      obtain ⟨h1, _⟩ := unwire_eq.1 hu
      have : s.length = (wire ls).length + t.length := by rw [h1, List.length_append]
      have := wire_len ls
      omega
    · cases h
  · cases h

theorem valid_lead (s : Bytes) : valid s = (match lead s with | some n => decide (n = s.length) | none => false) := by
  unfold valid lab lead
  cases hu : unwire s with
  | none => rfl
  | some p =>
    obtain ⟨ls, t⟩ := p
    obtain ⟨h1, _⟩ := unwire_eq.1 hu
    have hlen : s.length = (wire ls).length + t.length := by rw [h1, List.length_append]
    cases t with
    | nil =>
      simp only [List.length_nil, Nat.add_zero] at hlen
      simp only [hlen]
      by_cases h : (wire ls).length ≤ 255 <;> simp [h]
    | cons x t =>
      simp only [List.length_cons] at hlen
      by_cases h : (wire ls).length ≤ 255
      · simp [h]; omega
      · simp [h]

/-! ### what the reference's Labels gives -/
def refLab (s : Bytes) : List Bytes × Bool :=
  if 255 < s.length then ([], false) else match unwire s with
  | some (ls, t) => (ls, t.isEmpty)
  | none => ([], false)

theorem refLab_long {s : Bytes} (h : 255 < s.length) : refLab s = ([], false) := by simp [refLab, h]
theorem refLab_none {s : Bytes} (h : unwire s = none) : refLab s = ([], false) := by
  unfold refLab; rw [h]; split <;> rfl
theorem refLab_some {s : Bytes} {ls : List Bytes} {t : Bytes} (hl : s.length ≤ 255) (h : unwire s = some (ls, t)) : refLab s = (ls, t.isEmpty) := by
  unfold refLab; rw [h, if_neg (by omega)]

theorem refLab_valid (s : Bytes) : (refLab s).2 = valid s := by
  unfold refLab valid lab
  by_cases h : 255 < s.length
  · have : ¬ s.length ≤ 255 := by omega
    rw [if_pos h]
    cases hu : unwire s with
    | none => rfl
    | some p => obtain ⟨ls, t⟩ := p; cases t <;> simp [this]
  · have : s.length ≤ 255 := by omega
    rw [if_neg h]
    cases hu : unwire s with
    | none => rfl
    | some p => obtain ⟨ls, t⟩ := p; cases t <;> simp [this]

theorem refLab_labs {s : Bytes} (h : valid s = true) : refLab s = (labs s, true) := by
  rcases valid_cases s with ⟨h1, _⟩ | ⟨_, h2, h3, h4⟩
  · rw [h] at h1; cases h1
  · exact refLab_some h4 (unwire_eq.2 ⟨by rw [List.append_nil]; exact h2, h3⟩)

theorem refLab_not {s : Bytes} (h : valid s = false) : (refLab s).2 = false := by rw [refLab_valid, h]

theorem unwire_zero {s : Bytes} {ls : List Bytes} {t : Bytes} (hg : GoodL ls) (h : s = pre ls ++ 0 :: t) : unwire s = some (ls, t) :=
  unwire_eq.2 ⟨by rw [h]; simp [wire], hg⟩
theorem unwire_big {s : Bytes} {ls : List Bytes} {c : UInt8} {r : Bytes} (hg : GoodL ls) (h : s = pre ls ++ c :: r) (hc : c ≠ 0) (hb : 63 < c.toNat ∨ r.length < c.toNat) : unwire s = none := by
  rw [h, unwire_pre hg, unwire_cons]
  simp [hc, hb]
theorem unwire_end {s : Bytes} {ls : List Bytes} (hg : GoodL ls) (h : s = pre ls) : unwire s = none := by
  have := unwire_pre hg []
  rw [List.append_nil, unwire_nil] at this
  rw [h, this]
  rfl

/-! ### folding -/
def low (c : UInt8) : UInt8 := if 65 ≤ c.toNat ∧ c.toNat ≤ 90 then c + 32 else c
def foldB (s : Bytes) : Bytes := s.map low
def foldN (s : Bytes) : Bytes := if valid s then foldB s else s
def sameN (a b : Bytes) : Bool := valid a && valid b && (foldB a == foldB b)

theorem foldB_length (s : Bytes) : (foldB s).length = s.length := by simp [foldB]
theorem foldN_length (s : Bytes) : (foldN s).length = s.length := by unfold foldN; split <;> simp [foldB_length]

/-! ### labels, parents, and who is under whom -/
theorem labs_valid {s : Bytes} (h : valid s = true) : s = wire (labs s) ∧ GoodL (labs s) ∧ s.length ≤ 255 := by
  rcases valid_cases s with ⟨h1, _⟩ | ⟨_, h2⟩
  · rw [h] at h1; cases h1
  · exact h2
theorem labs_not {s : Bytes} (h : valid s = false) : labs s = [] := by
  rcases valid_cases s with ⟨_, h2⟩ | ⟨h1, _⟩
  · exact h2
  · rw [h] at h1; cases h1
theorem valid_wire {ls : List Bytes} (hg : GoodL ls) (hl : (wire ls).length ≤ 255) : valid (wire ls) = true := valid_iff.2 ⟨ls, rfl, hg, hl⟩
theorem labs_of_wire {ls : List Bytes} (hg : GoodL ls) (hl : (wire ls).length ≤ 255) : labs (wire ls) = ls := by
  unfold labs; rw [labs_wire hg hl]; rfl
theorem wire_cons (l : Bytes) (ls : List Bytes) : wire (l :: ls) = UInt8.ofNat l.length :: (l ++ wire ls) := by simp [wire, pre]
theorem wire_nil : wire [] = [0] := rfl
theorem wire_ne_root {l : Bytes} {ls : List Bytes} : wire (l :: ls) ≠ [0] := by
  rw [wire_cons]
  intro h
  have := congrArg List.length h
  simp [wire_len] at this

def parentN (s : Bytes) : Bytes := wire (labs s).tail

theorem good_tail {ls : List Bytes} (h : GoodL ls) : GoodL ls.tail := fun l hl => h l (List.mem_of_mem_tail hl)
theorem wire_tail_length (ls : List Bytes) : (wire ls.tail).length ≤ (wire ls).length := by
  cases ls with
  | nil => simp
  | cons l ls => rw [wire_cons]; simp; omega
theorem valid_parent {s : Bytes} : valid (parentN s) = true := by
  unfold parentN
  cases h : valid s with
  | false => rw [labs_not h]; exact valid_wire good_nil (by simp [wire, pre])
  | true =>
    obtain ⟨h1, h2, h3⟩ := labs_valid h
    have := wire_tail_length (labs s)
    rw [← h1] at this
    exact valid_wire (good_tail h2) (by omega)
theorem labs_parent (s : Bytes) : labs (parentN s) = (labs s).tail := by
  unfold parentN
  cases h : valid s with
  | false => rw [labs_not h]; exact labs_of_wire good_nil (by simp [wire, pre])
  | true =>
    obtain ⟨h1, h2, h3⟩ := labs_valid h
    have := wire_tail_length (labs s)
    rw [← h1] at this
    exact labs_of_wire (good_tail h2) (by omega)

theorem low_small {c : UInt8} (h : c.toNat ≤ 64) : low c = c := by
  unfold low
  have : ¬ (65 ≤ c.toNat ∧ c.toNat ≤ 90) := by omega
  simp [this]
theorem foldB_append (a b : Bytes) : foldB (a ++ b) = foldB a ++ foldB b := by simp [foldB]
theorem foldB_wire {ls : List Bytes} (h : GoodL ls) : foldB (wire ls) = wire (ls.map foldB) := by
  induction ls with
  | nil => rfl
  | cons l ls ih =>
    obtain ⟨⟨_, h2⟩, h3⟩ := good_cons.1 h
    rw [List.map_cons, wire_cons, wire_cons, ← ih h3, foldB_length]
    simp only [foldB, List.map_cons, List.map_append]
    rw [low_small (by rw [ofNat_toNat h2]; omega)]
theorem good_fold {ls : List Bytes} (h : GoodL ls) : GoodL (ls.map foldB) := by
  intro l hl
  obtain ⟨m, hm, rfl⟩ := List.mem_map.1 hl
  rw [foldB_length]
  exact h m hm
theorem valid_foldB {s : Bytes} (h : valid s = true) : valid (foldB s) = true ∧ labs (foldB s) = (labs s).map foldB := by
  obtain ⟨h1, h2, h3⟩ := labs_valid h
  have hl : (wire ((labs s).map foldB)).length ≤ 255 := by rw [← foldB_wire h2, foldB_length, ← h1]; exact h3
  have e : foldB s = wire ((labs s).map foldB) := by rw [← foldB_wire h2, ← h1]
  rw [e]
  exact ⟨valid_wire (good_fold h2) hl, labs_of_wire (good_fold h2) hl⟩
theorem valid_foldN (s : Bytes) : valid (foldN s) = valid s := by
  unfold foldN
  cases h : valid s with
  | true => simp [(valid_foldB h).1]
  | false => simp [h]
theorem labs_foldN (s : Bytes) : labs (foldN s) = (labs s).map foldB := by
  unfold foldN
  cases h : valid s with
  | true => simp [(valid_foldB h).2]
  | false => simp [labs_not h]
theorem foldB_inj_wire {a b : Bytes} (ha : valid a = true) (hb : valid b = true) : foldB a = foldB b ↔ (labs a).map foldB = (labs b).map foldB := by
  obtain ⟨a1, a2, a3⟩ := labs_valid ha
  obtain ⟨b1, b2, b3⟩ := labs_valid hb
  constructor
  · intro h
    rw [← (valid_foldB ha).2, ← (valid_foldB hb).2, h]
  · intro h
    rw [a1, b1, foldB_wire a2, foldB_wire b2, h]

/-- a list of folded labels ends in another one -/
def endsIn (a b : List Bytes) : Bool := decide (b.length ≤ a.length) && (a.drop (a.length - b.length) == b)
def underN (n z : Bytes) : Bool := valid n && valid z && endsIn ((labs n).map foldB) ((labs z).map foldB)

def parents : Nat → Bytes → Bytes
  | 0, s => s
  | k + 1, s => parents k (parentN s)
theorem parents_succ (k : Nat) (s : Bytes) : parents (k + 1) s = parentN (parents k s) := by
  induction k generalizing s with
  | zero => rfl
  | succ k ih => exact ih (parentN s)
theorem parents_labs (k : Nat) {s : Bytes} (h : valid s = true) : valid (parents k s) = true ∧ labs (parents k s) = (labs s).drop k := by
  induction k generalizing s with
  | zero => exact ⟨h, rfl⟩
  | succ k ih =>
    obtain ⟨h1, h2⟩ := ih (s := parentN s) valid_parent
    exact ⟨h1, by
      show labs (parents k (parentN s)) = _
      rw [h2, labs_parent, List.drop_tail]⟩

theorem sameN_labs {a b : Bytes} : sameN a b = (valid a && valid b && ((labs a).map foldB == (labs b).map foldB)) := by
  unfold sameN
  cases ha : valid a with
  | false => rfl
  | true =>
    cases hb : valid b with
    | false => rfl
    | true =>
      simp only [Bool.true_and]
      rw [Bool.eq_iff_iff, beq_iff_eq, beq_iff_eq]
      exact foldB_inj_wire ha hb

theorem under_parents {n z : Bytes} (hn : valid n = true) (hz : valid z = true) (hk : (labs z).length ≤ (labs n).length) :
    sameN (parents ((labs n).length - (labs z).length) n) z = underN n z := by
  obtain ⟨h1, h2⟩ := parents_labs ((labs n).length - (labs z).length) hn
  rw [sameN_labs, h1, h2]
  unfold underN endsIn
  simp [hn, hz, hk, List.map_drop]
theorem under_short {n z : Bytes} (hk : (labs n).length < (labs z).length) : underN n z = false := by
  unfold underN endsIn
  have : ¬ (labs z).length ≤ (labs n).length := by omega
  simp [this]
theorem parents_length (k : Nat) (s : Bytes) : (parents k s).length ≤ max s.length 255 := by
  induction k generalizing s with
  | zero => simp [parents]; omega
  | succ k ih =>
    have := ih (parentN s)
    have h2 := (labs_valid (valid_parent (s := s))).2.2
    simp only [parents]
    omega

/-! ### orders -/
/-- Go's < of texts -/
def ltB : Bytes → Bytes → Bool
  | _, [] => false
  | [], _ :: _ => true
  | a :: x, b :: y => decide (a < b) || (a == b && ltB x y)
def cmpB (a b : Bytes) : Int := if ltB a b then -1 else if a = b then 0 else 1
def cmpL : List Bytes → List Bytes → Int
  | [], [] => 0
  | [], _ :: _ => -1
  | _ :: _, [] => 1
  | a :: x, b :: y => if cmpB a b = 0 then cmpL x y else cmpB a b

theorem ltB_irrefl (a : Bytes) : ltB a a = false := by
  induction a with
  | nil => rfl
  | cons x a ih => simp [ltB, ih]
theorem cmpB_zero {a b : Bytes} : cmpB a b = 0 ↔ a = b := by
  unfold cmpB
  constructor
  · intro h
    split at h
    · omega
    · split at h
      · assumption
      · omega
  · rintro rfl
    simp [ltB_irrefl]
theorem cmpB_neg {a b : Bytes} : cmpB a b < 0 ↔ ltB a b = true := by
  unfold cmpB
  split
  · simp [*]
  · split
    · rename_i h
      subst h
      simp [ltB_irrefl]
    · simp [*]
def lexL (x y : List Bytes) : Bool := decide (cmpL x y < 0)
theorem lexL_cons (a b : Bytes) (x y : List Bytes) : lexL (a :: x) (b :: y) = if a = b then lexL x y else ltB a b := by
  unfold lexL
  simp only [cmpL]
  by_cases h : a = b
  · subst h
    simp [cmpB_zero.2 rfl]
  · have h0 : ¬ cmpB a b = 0 := fun e => h (cmpB_zero.1 e)
    simp only [h0, h, if_false]
    rw [Bool.eq_iff_iff, decide_eq_true_iff]
    exact cmpB_neg
theorem lexL_nil_right (x : List Bytes) : lexL x [] = false := by cases x <;> simp [lexL, cmpL]
theorem lexL_nil_cons (b : Bytes) (y : List Bytes) : lexL [] (b :: y) = true := by simp [lexL, cmpL]

def orderF (ls : List Bytes) : List Bytes := (ls.map foldB).reverse
def lessN (a b : Bytes) : Bool := valid a && valid b && lexL (orderF (labs a)) (orderF (labs b))

theorem cmpL_drop {x y : List Bytes} {k : Nat} (h : x.take k = y.take k) (hx : k ≤ x.length) (hy : k ≤ y.length) : cmpL x y = cmpL (x.drop k) (y.drop k) := by
  induction k generalizing x y with
  | zero => rfl
  | succ k ih =>
    cases x with
    | nil => simp at hx
    | cons a x =>
      cases y with
      | nil => simp at hy
      | cons b y =>
        simp only [List.take_succ_cons, List.cons.injEq] at h
        simp only [List.length_cons] at hx hy
        simp only [List.drop_succ_cons, cmpL, cmpB_zero.2 h.1, if_true]
        exact ih h.2 (by omega) (by omega)

/-! ### what two names have in common -/
def commonL : List Bytes → List Bytes → List Bytes
  | [], _ => []
  | l :: t, b => if endsIn b ((l :: t).map foldB) then l :: t else commonL t b
def commonN (a b : Bytes) : Bytes := if valid a && valid b then wire (commonL (labs a) ((labs b).map foldB)) else [0]

theorem endsIn_nil (a : List Bytes) : endsIn a [] = true := by simp [endsIn]
end Go.Nm
