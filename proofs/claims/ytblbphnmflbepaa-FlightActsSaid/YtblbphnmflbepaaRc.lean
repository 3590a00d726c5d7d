/- Plain law of records: where names stand in data, what data may be, data with its names folded, and when two records are the same. Lists and numbers alone; no program in sight. -/
import Derived.Test.YtblbphnmflbepaaNmE
namespace Go.Rc
open Go.Nm (Bytes)

/-! ### a name that a text begins with -/
theorem lead_take {s : Bytes} {n : Nat} (h : Nm.lead s = some n) : Nm.valid (s.take n) = true := by
  unfold Nm.lead at h
  cases hu : Nm.unwire s with
  | none => rw [hu] at h; cases h
  | some p =>
    obtain ⟨ls, t⟩ := p
    rw [hu] at h
    simp only at h
    split at h
    · simp only [Option.some.injEq] at h
      obtain ⟨h1, h2⟩ := Nm.unwire_eq.1 hu
      rw [h1, ← h, List.take_left]
      exact Nm.valid_wire h2 (by assumption)
    · cases h
theorem take_lead {s : Bytes} {m : Nat} (hm : m ≤ s.length) (h : Nm.valid (s.take m) = true) : Nm.lead s = some m := by
  obtain ⟨h1, h2, h3⟩ := Nm.labs_valid h
  have hl : (s.take m).length = m := by rw [List.length_take]; omega
  have e : s = Nm.wire (Nm.labs (s.take m)) ++ s.drop m := by
    rw [← h1, List.take_append_drop]
  have hu : Nm.unwire s = some (Nm.labs (s.take m), s.drop m) := Nm.unwire_eq.2 ⟨e, h2⟩
  unfold Nm.lead
  rw [hu]
  simp only
  rw [← h1, if_pos h3, hl]

/-! ### data's shape -/
def shape (t : Int) : Option (Nat × Nat × Nat) :=
  if t = 2 ∨ t = 5 ∨ t = 12 then some (0, 1, 0) else if t = 15 then some (2, 1, 0) else if t = 33 then some (6, 1, 0) else if t = 6 then some (0, 2, 20) else none

/-- so many names, one behind the other -/
def names (d : Bytes) (a : Nat) : Nat → Option (List (Nat × Nat) × Nat)
  | 0 => some ([], a)
  | m + 1 => match names d a m with
    | none => none
    | some (l, at_) => match Nm.lead (d.drop at_) with
      | none => none
      | some n => some (l ++ [(at_, n)], at_ + n)
theorem names_succ {d : Bytes} {a m : Nat} {l : List (Nat × Nat)} {e : Nat} (h : names d a m = some (l, e)) :
    names d a (m + 1) = match Nm.lead (d.drop e) with | none => none | some n => some (l ++ [(e, n)], e + n) := by
  show (match names d a m with | none => none | some (l, at_) => _) = _
  rw [h]
theorem names_none {d : Bytes} {a m k : Nat} (h : names d a m = none) (hk : m ≤ k) : names d a k = none := by
  induction k with
  | zero => obtain rfl : m = 0 := by omega
            exact h
  | succ k ih =>
    rcases Nat.lt_or_ge m (k + 1) with h1 | h1
    · show (match names d a k with | none => none | some (l, at_) => _) = _
      rw [ih (by omega)]
    · obtain rfl : m = k + 1 := by omega
      exact h

/-- places one behind the other, within data -/
def Chain (d : Bytes) : Nat → List (Nat × Nat) → Prop
  | f, [] => f ≤ d.length
  | f, (a, n) :: l => f ≤ a ∧ a + n ≤ d.length ∧ n ≤ 255 ∧ Chain d (a + n) l
theorem chain_snoc {d : Bytes} : ∀ (l : List (Nat × Nat)) (f e n : Nat), Chain d f l → (∀ p ∈ l.getLast?, p.1 + p.2 ≤ e) → f ≤ e → e + n ≤ d.length → n ≤ 255 → Chain d f (l ++ [(e, n)])
  | [], f, e, n, _, _, hf, h1, h2 => ⟨hf, h1, h2, h1⟩
  | (a, m) :: l, f, e, n, h, hl, hf, h1, h2 => by
    obtain ⟨c1, c2, c3, c4⟩ := h
    refine ⟨c1, c2, c3, chain_snoc l (a + m) e n c4 ?_ ?_ h1 h2⟩
    · intro p hp
      cases l with
      | nil => cases hp
      | cons q l => exact hl p (by simpa [List.getLast?_cons_cons] using hp)
    · cases l with
      | nil => exact hl (a, m) (by simp)
      | cons q l =>
        have hlast : ∃ p, (q :: l).getLast? = some p := by cases hg : (q :: l).getLast? with | none => simp at hg | some p => exact ⟨p, rfl⟩
        obtain ⟨p, hp⟩ := hlast
        have h3 := hl p (by simpa [List.getLast?_cons_cons] using hp)
        have key : ∀ (l : List (Nat × Nat)) (f : Nat), Chain d f l → ∀ p ∈ l, f ≤ p.1 := by
          intro l
          induction l with
          | nil => intro f _ p hp; cases hp
          | cons x l ih =>
            intro f hc p hp
            obtain ⟨x1, x2⟩ := x
            obtain ⟨k1, k2, _, k3⟩ := hc
            rcases List.mem_cons.1 hp with rfl | hp
            · exact k1
            · have := ih _ k3 p hp; omega
        have := key _ _ c4 p (List.mem_of_getLast? hp)
        omega
theorem names_chain {d : Bytes} {a : Nat} (ha : a ≤ d.length) : ∀ (m : Nat) (l : List (Nat × Nat)) (e : Nat), names d a m = some (l, e) →
    l.length = m ∧ a ≤ e ∧ e ≤ d.length ∧ Chain d a l ∧ (∀ p ∈ l.getLast?, p.1 + p.2 = e)
  | 0, l, e, h => by
    simp only [names, Option.some.injEq, Prod.mk.injEq] at h
    obtain ⟨rfl, rfl⟩ := h
    exact ⟨rfl, Nat.le_refl _, ha, ha, fun p hp => by cases hp⟩
  | m + 1, l, e, h => by
    cases hn : names d a m with
    | none => rw [names_none hn (Nat.le_succ m)] at h; cases h
    | some p =>
      obtain ⟨l0, e0⟩ := p
      obtain ⟨i1, i2, i3, i4, i5⟩ := names_chain ha m l0 e0 hn
      rw [names_succ hn] at h
      cases hq : Nm.lead (d.drop e0) with
      | none => rw [hq] at h; cases h
      | some n =>
        rw [hq] at h
        simp only [Option.some.injEq, Prod.mk.injEq] at h
        obtain ⟨rfl, rfl⟩ := h
        obtain ⟨q1, q2, q3⟩ := Nm.lead_le hq
        rw [List.length_drop] at q3
        refine ⟨by simp [i1], by omega, by omega, chain_snoc l0 a e0 n i4 (fun p hp => Nat.le_of_eq (i5 p hp)) i2 (by omega) q2, fun p hp => ?_⟩
        simp at hp
        subst hp
        rfl
theorem chain_mem {d : Bytes} : ∀ (l : List (Nat × Nat)) (f : Nat), Chain d f l → ∀ p ∈ l, f ≤ p.1 ∧ p.1 + p.2 ≤ d.length ∧ p.2 ≤ 255
  | [], _, _, p, hp => by cases hp
  | (a, n) :: l, f, h, p, hp => by
    obtain ⟨h1, h2, h4, h3⟩ := h
    rcases List.mem_cons.1 hp with rfl | hp
    · exact ⟨h1, h2, h4⟩
    · have := chain_mem l _ h3 p hp
      exact ⟨by omega, this.2⟩

/-- where names stand; false: the data may not be -/
def placesP (t : Int) (d : Bytes) : List (Nat × Nat) × Bool :=
  match shape t with
  | none => ([], true)
  | some (a, m, b) => if d.length < a then ([], false) else match names d a m with
    | none => ([], false)
    | some (l, e) => (l, decide (d.length - e = b))

/-! ### texts -/
def textsT : Nat → Bytes → Bool
  | _, [] => true
  | 0, _ :: _ => false
  | n + 1, c :: r => if r.length < c.toNat then false else textsT n (r.drop c.toNat)
def textsF (d : Bytes) : Bool := textsT d.length d
def textsB (d : Bytes) : Bool := !d.isEmpty && textsF d
theorem textsT_more : ∀ (n m : Nat) (d : Bytes), d.length ≤ n → d.length ≤ m → textsT n d = textsT m d
  | n, m, [], _, _ => by cases n <;> cases m <;> rfl
  | 0, _, _ :: _, h, _ => by simp at h
  | _, 0, _ :: _, _, h => by simp at h
  | n + 1, m + 1, c :: r, h1, h2 => by
    simp only [List.length_cons] at h1 h2
    simp only [textsT]
    split
    · rfl
    · exact textsT_more n m _ (by rw [List.length_drop]; omega) (by rw [List.length_drop]; omega)
theorem textsF_nil : textsF [] = true := rfl
theorem textsF_cons (c : UInt8) (r : Bytes) : textsF (c :: r) = if r.length < c.toNat then false else textsF (r.drop c.toNat) := by
  unfold textsF
  simp only [List.length_cons, textsT]
  split
  · rfl
  · exact textsT_more _ _ _ (by rw [List.length_drop]; omega) (Nat.le_refl _)

/-! ### what data may be -/
def dataB (t : Int) (d : Bytes) : Bool :=
  if 1000 < d.length then false else if t = 1 then decide (d.length = 4) else if t = 28 then decide (d.length = 16) else if t = 16 then textsB d else (placesP t d).2
def partsN (t : Int) (d : Bytes) : Option (List (Nat × Nat)) := if dataB t d then some (placesP t d).1 else none
theorem partsN_some {t : Int} {d : Bytes} (h : dataB t d = true) : partsN t d = some (placesP t d).1 := by unfold partsN; rw [if_pos h]
theorem partsN_none {t : Int} {d : Bytes} (h : dataB t d = false) : partsN t d = none := by unfold partsN; rw [h]; rfl
theorem partsN_isSome (t : Int) (d : Bytes) : (partsN t d).isSome = dataB t d := by
  cases h : dataB t d with
  | true => rw [partsN_some h]; rfl
  | false => rw [partsN_none h]; rfl
theorem placesP_chain (t : Int) (d : Bytes) : Chain d 0 (placesP t d).1 ∧ (placesP t d).1.length ≤ 2 := by
  unfold placesP
  split
  · exact ⟨Nat.zero_le _, by simp⟩
  · rename_i a m b hs
    split
    · exact ⟨Nat.zero_le _, by simp⟩
    · split
      · exact ⟨Nat.zero_le _, by simp⟩
      · rename_i l e hn
        obtain ⟨h1, _, _, h2, _⟩ := names_chain (by omega) m l e hn
        have hm : m ≤ 2 := by
          unfold shape at hs
          repeat' split at hs
          all_goals first | (simp only [Option.some.injEq, Prod.mk.injEq] at hs; omega) | cases hs
        refine ⟨?_, by simp only; omega⟩
        show Chain d 0 l
        cases l with
        | nil => exact Nat.zero_le _
        | cons q l => obtain ⟨q1, q2⟩ := q; exact ⟨Nat.zero_le _, h2.2⟩
theorem partsN_chain {t : Int} {d : Bytes} {l : List (Nat × Nat)} (h : partsN t d = some l) : Chain d 0 l ∧ l.length ≤ 2 := by
  unfold partsN at h
  split at h
  · simp only [Option.some.injEq] at h
    rw [← h]
    exact placesP_chain t d
  · cases h

/-! ### data with its names folded -/
def foldStep (x : Bytes) (p : Nat × Nat) : Bytes := x.take p.1 ++ Nm.foldN ((x.drop p.1).take p.2) ++ x.drop (p.1 + p.2)
def foldAt (d : Bytes) (l : List (Nat × Nat)) : Bytes := l.foldl foldStep d
def foldD (t : Int) (d : Bytes) : Bytes := match partsN t d with | none => d | some l => foldAt d l
/-- the same, piece by piece -/
def runStep (d : Bytes) (s : Bytes × Nat) (p : Nat × Nat) : Bytes × Nat := (s.1 ++ ((d.drop s.2).take (p.1 - s.2) ++ Nm.foldN ((d.drop p.1).take p.2)), p.1 + p.2)
def runF (d : Bytes) (l : List (Nat × Nat)) : Bytes × Nat := l.foldl (runStep d) ([], 0)
theorem runF_snoc (d : Bytes) (l : List (Nat × Nat)) (p : Nat × Nat) : runF d (l ++ [p]) = runStep d (runF d l) p := by simp [runF]
theorem foldAt_snoc (d : Bytes) (l : List (Nat × Nat)) (p : Nat × Nat) : foldAt d (l ++ [p]) = foldStep (foldAt d l) p := by simp [foldAt]
theorem foldStep_length {x : Bytes} {p : Nat × Nat} (h : p.1 + p.2 ≤ x.length) : (foldStep x p).length = x.length := by
  unfold foldStep
  simp only [List.length_append, List.length_take, List.length_drop, Nm.foldN_length]
  omega
theorem run_fold {d : Bytes} : ∀ (l : List (Nat × Nat)) (s : Bytes × Nat), s.1.length = s.2 → s.2 ≤ d.length → Chain d s.2 l →
    l.foldl foldStep (s.1 ++ d.drop s.2) = (l.foldl (runStep d) s).1 ++ d.drop (l.foldl (runStep d) s).2 ∧ (l.foldl (runStep d) s).1.length = (l.foldl (runStep d) s).2 ∧ (l.foldl (runStep d) s).2 ≤ d.length
  | [], s, h1, h2, _ => ⟨rfl, h1, h2⟩
  | (a, n) :: l, s, h1, h2, hc => by
    obtain ⟨c1, c2, _, c3⟩ := hc
    have e : foldStep (s.1 ++ d.drop s.2) (a, n) = (runStep d s (a, n)).1 ++ d.drop (runStep d s (a, n)).2 := by
      obtain ⟨o, f⟩ := s
      simp only at h1 h2 c1
      unfold foldStep runStep
      simp only
      have e1 : (o ++ d.drop f).take a = o ++ (d.drop f).take (a - f) := by
        rw [List.take_append, h1, List.take_of_length_le (by omega)]
      have e2 : (o ++ d.drop f).drop a = d.drop a := by
        rw [List.drop_append, h1, List.drop_of_length_le (by omega), List.nil_append, List.drop_drop]
        congr 1; omega
      have e3 : (o ++ d.drop f).drop (a + n) = d.drop (a + n) := by
        rw [List.drop_append, h1, List.drop_of_length_le (by omega), List.nil_append, List.drop_drop]
        congr 1; omega
      rw [e1, e2, e3]
      simp [List.append_assoc]
    have hl : (runStep d s (a, n)).1.length = (runStep d s (a, n)).2 := by
      obtain ⟨o, f⟩ := s
      simp only at h1 h2 c1
      unfold runStep
      simp only [List.length_append, List.length_take, List.length_drop, Nm.foldN_length]
      omega
    have := run_fold l (runStep d s (a, n)) hl c2 c3
    simp only [List.foldl_cons]
    rw [e]
    exact this
theorem runF_fold {d : Bytes} {l : List (Nat × Nat)} (h : Chain d 0 l) : foldAt d l = (runF d l).1 ++ d.drop (runF d l).2 ∧ (runF d l).1.length = (runF d l).2 ∧ (runF d l).2 ≤ d.length := by
  have := run_fold l ([], 0) rfl (Nat.zero_le _) h
  simpa [runF, foldAt] using this
theorem chain_prefix {d : Bytes} : ∀ (l m : List (Nat × Nat)) (f : Nat), Chain d f (l ++ m) → Chain d f l
  | [], m, f, h => by
    cases m with
    | nil => exact h
    | cons q m => obtain ⟨q1, q2⟩ := q; obtain ⟨h1, h2, _, _⟩ := h; show f ≤ d.length; omega
  | (a, n) :: l, m, f, h => by
    obtain ⟨h1, h2, h4, h3⟩ := h
    exact ⟨h1, h2, h4, chain_prefix l m _ h3⟩
theorem chain_next {d : Bytes} : ∀ (l : List (Nat × Nat)) (p : Nat × Nat) (f : Nat) (s : Bytes × Nat), s.2 = f → Chain d f (l ++ [p]) → (l.foldl (runStep d) s).2 ≤ p.1 ∧ p.1 + p.2 ≤ d.length ∧ p.2 ≤ 255
  | [], (a, n), f, s, hs, h => by
    obtain ⟨h1, h2, h4, h3⟩ := h
    exact ⟨by simp only [List.foldl_nil]; omega, h2, h4⟩
  | (a, n) :: l, p, f, s, hs, h => by
    obtain ⟨h1, h2, h4, h3⟩ := h
    exact chain_next l p (a + n) (runStep d s (a, n)) rfl h3
theorem runF_next {d : Bytes} {l : List (Nat × Nat)} {p : Nat × Nat} (h : Chain d 0 (l ++ [p])) : (runF d l).2 ≤ p.1 ∧ p.1 + p.2 ≤ d.length ∧ p.2 ≤ 255 := chain_next l p 0 ([], 0) rfl h
theorem foldAt_length {d : Bytes} {l : List (Nat × Nat)} (h : Chain d 0 l) : (foldAt d l).length = d.length := by
  obtain ⟨h1, h2, h3⟩ := runF_fold h
  rw [h1, List.length_append, List.length_drop]
  omega
theorem foldD_length (t : Int) (d : Bytes) : (foldD t d).length = d.length := by
  unfold foldD
  cases h : partsN t d with
  | none => rfl
  | some l => exact foldAt_length (partsN_chain h).1

/-! ### records -/
structure RR where
  name : Bytes
  ty : Int
  cl : Int
  ttl : Int
  data : Bytes
deriving DecidableEq

def sameRR (a b : RR) : Bool := (Nm.foldN a.name == Nm.foldN b.name) && (a.ty == b.ty) && (a.cl == b.cl) && (foldD a.ty a.data == foldD b.ty b.data)
theorem same_refl (a : RR) : sameRR a a = true := by simp [sameRR]
theorem same_symm {a b : RR} : sameRR a b = sameRR b a := by
  unfold sameRR
  rw [Bool.eq_iff_iff]
  simp only [Bool.and_eq_true, beq_iff_eq]
  constructor <;> (rintro ⟨⟨⟨h1, h2⟩, h3⟩, h4⟩; exact ⟨⟨⟨h1.symm, h2.symm⟩, h3.symm⟩, h4.symm⟩)
theorem same_trans {a b c : RR} (h : sameRR a b = true) (h' : sameRR b c = true) : sameRR a c = true := by
  unfold sameRR at *
  simp only [Bool.and_eq_true, beq_iff_eq] at *
  obtain ⟨⟨⟨h1, h2⟩, h3⟩, h4⟩ := h
  obtain ⟨⟨⟨k1, k2⟩, k3⟩, k4⟩ := h'
  exact ⟨⟨⟨h1.trans k1, h2.trans k2⟩, h3.trans k3⟩, h4.trans k4⟩
end Go.Rc
