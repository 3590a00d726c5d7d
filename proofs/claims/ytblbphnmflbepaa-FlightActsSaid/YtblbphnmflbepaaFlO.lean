/- Flight: tables whose jobs are small numbers: what the acts leave (plain). -/
import Derived.Test.YtblbphnmflbepaaFlN
namespace Go.Proofs.Ytblbphnmflbepaa
set_option linter.unusedVariables false

theorem pos_split (P Q : List Sn) (t : Int) (hP : ∀ s ∈ P, s.job < t) (hQ : ∀ s ∈ Q, t ≤ s.job) : posN (P ++ Q) t = P.length := by
  unfold posN
  induction P with
  | nil =>
    cases Q with
    | nil => rfl
    | cons q Q =>
      have := hQ q (by simp)
      rw [List.nil_append, List.takeWhile_cons, if_neg (by simp; omega)]
  | cons p P ih =>
    have := hP p (by simp)
    rw [List.cons_append, List.takeWhile_cons, if_pos (by simpa using this), List.length_cons, List.length_cons, ih (fun s hs => hP s (by simp [hs]))]
section
variable {P Q : List Sn} {t : Int} (hP : ∀ s ∈ P, s.job < t) (hQ : ∀ s ∈ Q, t < s.job)
include hP hQ
theorem pos_out : posN (P ++ Q) t = P.length := pos_split P Q t hP (fun s hs => Int.le_of_lt (hQ s hs))
theorem pos_in {m : Sn} (hm : m.job = t) : posN (P ++ m :: Q) t = P.length := pos_split P (m :: Q) t hP (fun s hs => by
  rcases List.mem_cons.1 hs with rfl | h
  · omega
  · exact Int.le_of_lt (hQ s h))
theorem has_out : hasN (P ++ Q) t = false := by
  unfold hasN
  rw [pos_out hP hQ]
  refine decide_eq_false fun h => ?_
  obtain ⟨h1, h2⟩ := h
  cases Q with
  | nil => simp at h1
  | cons q Q =>
    have := hQ q (by simp)
    simp [jobAt] at h2
    omega
theorem has_in {m : Sn} (hm : m.job = t) : hasN (P ++ m :: Q) t = true := by
  unfold hasN
  rw [pos_in hP hQ hm]
  refine decide_eq_true ⟨by simp, ?_⟩
  simp [jobAt, hm]
theorem add_out {s : Sn} {most : Int} (hs : s.job = t) : addN most (P ++ Q) s = if most ≤ ((P ++ Q).length : Int) then (P ++ Q, 4) else (P ++ s :: Q, 0) := by
  unfold addN
  rw [hs, has_out hP hQ, pos_out hP hQ]
  simp
theorem add_in {s m : Sn} {most : Int} (hs : s.job = t) (hm : m.job = t) : addN most (P ++ m :: Q) s = (P ++ s :: Q, 0) := by
  unfold addN
  rw [hs, has_in hP hQ hm, pos_in hP hQ hm]
  simp
theorem of_out : ofN (P ++ Q) t = (s0, false) := by
  unfold ofN
  rw [has_out hP hQ]; rfl
theorem of_in {m : Sn} (hm : m.job = t) : ofN (P ++ m :: Q) t = (m, true) := by
  unfold ofN
  rw [has_in hP hQ hm, pos_in hP hQ hm]
  simp
theorem drop_out : dropN (P ++ Q) t = (P ++ Q, s0, 5) := by
  unfold dropN
  rw [has_out hP hQ]; rfl
theorem drop_in {m : Sn} (hm : m.job = t) : dropN (P ++ m :: Q) t = (P ++ Q, m, 0) := by
  unfold dropN
  rw [has_in hP hQ hm, pos_in hP hQ hm]
  simp
end

/-- the table of those of N jobs that are there -/
def LF (N : Nat) (g : Nat → Option Sn) : List Sn := (List.range' 0 N).filterMap g
def upd (g : Nat → Option Sn) (k : Nat) (x : Option Sn) : Nat → Option Sn := fun j => if j = k then x else g j
def Jobs (g : Nat → Option Sn) : Prop := ∀ k s, g k = some s → s.job = (k : Int)
theorem Jobs.upd {g : Nat → Option Sn} (h : Jobs g) {k : Nat} {x : Option Sn} (hx : ∀ s, x = some s → s.job = (k : Int)) : Jobs (upd g k x) := fun j s hs => by
  unfold Proofs.Ytblbphnmflbepaa.upd at hs
  split at hs
  · rename_i e; rw [e]; exact hx s hs
  · exact h j s hs
theorem mem_part {g : Nat → Option Sn} {a n : Nat} {s : Sn} (h : s ∈ (List.range' a n).filterMap g) : ∃ k, a ≤ k ∧ k < a + n ∧ g k = some s := by
  obtain ⟨k, hk, hs⟩ := List.mem_filterMap.1 h
  obtain ⟨i, hi, rfl⟩ := List.mem_range'.1 hk
  exact ⟨_, by omega, by omega, hs⟩
theorem fm_congr {g g' : Nat → Option Sn} : ∀ (l : List Nat), (∀ k ∈ l, g' k = g k) → l.filterMap g' = l.filterMap g
  | [], _ => rfl
  | a :: l, h => by
    rw [List.filterMap_cons, List.filterMap_cons, h a (by simp), fm_congr l (fun k hk => h k (by simp [hk]))]
theorem part_congr {g g' : Nat → Option Sn} {a n : Nat} (h : ∀ k, a ≤ k → k < a + n → g' k = g k) : (List.range' a n).filterMap g' = (List.range' a n).filterMap g := by
  refine fm_congr _ fun k hk => ?_
  obtain ⟨i, hi, rfl⟩ := List.mem_range'.1 hk
  exact h _ (by omega) (by omega)
theorem LF_split (g : Nat → Option Sn) {N k : Nat} (hk : k < N) : LF N g = (List.range' 0 k).filterMap g ++ ((g k).toList ++ (List.range' (k + 1) (N - k - 1)).filterMap g) := by
  have e : List.range' 0 N = List.range' 0 k ++ List.range' k (N - k) := by
    have := (List.range'_append_1 (s := 0) (m := k) (n := N - k)).symm
    rw [Nat.zero_add, show k + (N - k) = N by omega] at this
    exact this
  obtain ⟨d, hd⟩ : ∃ d, N - k = d + 1 := ⟨N - k - 1, by omega⟩
  unfold LF
  rw [e, List.filterMap_append, hd, List.range'_succ, show d + 1 - 1 = d by omega, List.filterMap_cons]
  cases g k <;> rfl
theorem part_lo {g : Nat → Option Sn} (hg : Jobs g) (k : Nat) : ∀ s ∈ (List.range' 0 k).filterMap g, s.job < (k : Int) := fun s hs => by
  obtain ⟨j, _, h2, h3⟩ := mem_part hs
  have := hg j s h3
  omega
theorem part_hi {g : Nat → Option Sn} (hg : Jobs g) (k n : Nat) : ∀ s ∈ (List.range' (k + 1) n).filterMap g, (k : Int) < s.job := fun s hs => by
  obtain ⟨j, h1, h2, h3⟩ := mem_part hs
  have := hg j s h3
  omega
theorem LF_upd (g : Nat → Option Sn) {N k : Nat} (hk : k < N) (x : Option Sn) : LF N (upd g k x) = (List.range' 0 k).filterMap g ++ (x.toList ++ (List.range' (k + 1) (N - k - 1)).filterMap g) := by
  rw [LF_split _ hk, part_congr (g := g) (fun j h1 h2 => by unfold upd; rw [if_neg (by omega)]), part_congr (g := g) (a := k + 1) (fun j h1 h2 => by unfold upd; rw [if_neg (by omega)])]
  simp [upd]
theorem LF_len_none {g : Nat → Option Sn} {N k : Nat} (hk : k < N) (h : g k = none) (s : Sn) : (LF N (upd g k (some s))).length = (LF N g).length + 1 := by
  rw [LF_upd g hk, LF_split g hk, h]
  simp; omega
theorem LF_len_some {g : Nat → Option Sn} {N k : Nat} (hk : k < N) {m : Sn} (h : g k = some m) (s : Sn) : (LF N (upd g k (some s))).length = (LF N g).length := by
  rw [LF_upd g hk, LF_split g hk, h]
  simp
theorem LF_len_drop {g : Nat → Option Sn} {N k : Nat} (hk : k < N) {m : Sn} (h : g k = some m) : (LF N (upd g k none)).length + 1 = (LF N g).length := by
  rw [LF_upd g hk, LF_split g hk, h]
  simp; omega
theorem LF_length (N : Nat) (g : Nat → Option Sn) : (LF N g).length ≤ N := by
  unfold LF
  have := List.length_filterMap_le g (List.range' 0 N)
  simpa using this
section
variable {g : Nat → Option Sn} (hg : Jobs g) {N k : Nat} (hk : k < N)
include hg hk
theorem LF_of : ofN (LF N g) (k : Int) = ((g k).getD s0, (g k).isSome) := by
  rw [LF_split g hk]
  cases h : g k with
  | none => exact of_out (part_lo hg k) (part_hi hg k _)
  | some m => exact of_in (part_lo hg k) (part_hi hg k _) (hg k m h)
theorem LF_drop_some {m : Sn} (h : g k = some m) : dropN (LF N g) (k : Int) = (LF N (upd g k none), m, 0) := by
  rw [LF_upd g hk, LF_split g hk, h]
  exact drop_in (part_lo hg k) (part_hi hg k _) (hg k m h)
theorem LF_drop_none (h : g k = none) : dropN (LF N g) (k : Int) = (LF N g, s0, 5) := by
  rw [LF_split g hk, h]
  exact drop_out (part_lo hg k) (part_hi hg k _)
theorem LF_add_some {m s : Sn} {most : Int} (h : g k = some m) (hs : s.job = (k : Int)) : addN most (LF N g) s = (LF N (upd g k (some s)), 0) := by
  rw [LF_upd g hk, LF_split g hk, h]
  exact add_in (part_lo hg k) (part_hi hg k _) hs (hg k m h)
theorem LF_add_none {s : Sn} {most : Int} (h : g k = none) (hs : s.job = (k : Int)) : addN most (LF N g) s = if most ≤ ((LF N g).length : Int) then (LF N g, 4) else (LF N (upd g k (some s)), 0) := by
  rw [LF_upd g hk, LF_split g hk, h]
  exact add_out (part_lo hg k) (part_hi hg k _) hs
end
theorem LF_up {g : Nat → Option Sn} (hg : Jobs g) (N : Nat) : JobsUp (LF N g) := by
  have hp : (LF N g).Pairwise (fun a b => a.job < b.job) := by
    unfold LF
    rw [List.pairwise_filterMap]
    refine (List.pairwise_lt_range' (s := 0) (n := N) (step := 1)).imp fun {a b} hab x hx y hy => ?_
    have h1 := hg a x hx
    have h2 := hg b y hy
    omega
  intro a b hab hb
  have := List.pairwise_iff_getElem.1 hp a b (by omega) hb hab
  unfold jobAt
  have ha : a < (LF N g).length := by omega
  simpa [List.getD_eq_getElem?_getD, ha, hb] using this
theorem LF_mem {g : Nat → Option Sn} {N : Nat} {s : Sn} (h : s ∈ LF N g) : ∃ k, k < N ∧ g k = some s := by
  obtain ⟨k, _, h2, h3⟩ := mem_part h
  exact ⟨k, by omega, h3⟩
/-- whose answer: one alone -/
theorem LF_find {g : Nat → Option Sn} {N k : Nat} (hk : k < N) {f : Sn → Bool} (ho : ∀ j s, g j = some s → (f s = true ↔ j = k)) : (LF N g).find? f = g k := by
  rw [LF_split g hk]
  have h1 : ((List.range' 0 k).filterMap g).find? f = none := List.find?_eq_none.2 fun s hs hf => by
    obtain ⟨j, _, h2, h3⟩ := mem_part hs
    have := (ho j s h3).1 hf
    omega
  have h2 : ((List.range' (k + 1) (N - k - 1)).filterMap g).find? f = none := List.find?_eq_none.2 fun s hs hf => by
    obtain ⟨j, h1, h2, h3⟩ := mem_part hs
    have := (ho j s h3).1 hf
    omega
  rw [List.find?_append, h1, List.find?_append, h2]
  cases h : g k with
  | none => rfl
  | some m => simp [(ho k m h).2 rfl]
end Go.Proofs.Ytblbphnmflbepaa

