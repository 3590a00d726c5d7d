/- Flight: what was sent, as cells; cmp.Compare at int, the table's order, slices.BinarySearchFunc at what was sent. -/
import Derived.Test.YtblbphnmflbepaaSm
namespace Go.Proofs.Ytblbphnmflbepaa
open Go.RowKit
set_option linter.unusedVariables false

/-- what was sent -/
structure Sn where
  job : Int
  id : Int
  port : Int
  sn : List UInt8
  sa : Int
  qn : List UInt8
  qt : Int
  qc : Int
  zone : List UInt8
deriving DecidableEq
def snC (s : Sn) : List Value := [.int .i64 s.job, .int .i64 s.id, .int .i64 s.port, .string (mk s.sn), .int .i64 s.sa, .string (mk s.qn), .int .i64 s.qt, .int .i64 s.qc, .string (mk s.zone)]
abbrev snV (s : Sn) : Value := .agg #[.int .i64 s.job, .int .i64 s.id, .int .i64 s.port, .string (mk s.sn), .int .i64 s.sa, .string (mk s.qn), .int .i64 s.qt, .int .i64 s.qc, .string (mk s.zone)]
def encN (l : List Sn) : List Value := l.flatMap snC
def s0 : Sn := ⟨0, 0, 0, [], 0, [], 0, 0, []⟩
theorem encN_length (l : List Sn) : (encN l).length = l.length * 9 := by
  induction l with
  | nil => rfl
  | cons r l ih =>
    have : encN (r :: l) = snC r ++ encN l := rfl
    rw [this, List.length_append, ih]
    simp [snC]
    omega
theorem encN_get : ∀ (l : List Sn) (j i : Nat), j < l.length → i < 9 → (encN l)[j * 9 + i]? = (snC (l.getD j s0))[i]?
  | [], j, i, h, _ => by simp at h
  | p :: l, 0, i, _, hi => by
    have : encN (p :: l) = snC p ++ encN l := rfl
    rw [this, Nat.zero_mul, Nat.zero_add, List.getElem?_append_left (by simpa [snC] using hi)]
    rfl
  | p :: l, j + 1, i, h, hi => by
    have e : encN (p :: l) = snC p ++ encN l := rfl
    have hl : (snC p).length = 9 := rfl
    rw [e, List.getElem?_append_right (by rw [hl]; omega), hl, show (j + 1) * 9 + i - 9 = j * 9 + i by omega]
    exact encN_get l j i (by simpa using h) hi
def Sns (w : World) (v : Value) (l : List Sn) : Prop := SlC w 9 v l.length (encN l)
/-- the nine cells of an element -/
def SnAt (w : World) (b off : Nat) (s : Sn) : Prop := ∀ i, i < 9 → w.cell? ⟨b, off + i, none⟩ = (snC s)[i]?
theorem Sns.at {w : World} {a : Option Addr} {m cap : Nat} {l : List Sn} (h : Sns w (.slice a m cap) l) (hn : 0 < l.length) :
    ∃ b off, a = some ⟨b, off, none⟩ ∧ b < w.heap.size ∧ ∀ j, j < l.length → SnAt w b (off + j * 9) (l.getD j s0) := by
  obtain ⟨_, b, off, ha, hlt, h4⟩ := SlC.at h hn
  refine ⟨b, off, ha, hlt, fun j hj i hi => ?_⟩
  rw [Nat.add_assoc, h4 (j * 9 + i) (by omega), encN_get l j i hj hi]

/-- the order of two numbers -/
def cmpN (a b : Int) : Int := if a < b then -1 else if b < a then 1 else 0
theorem isNaN_any (a : Int) (w : World) : Calls Try.prog 44 #[.int .i64 a] w fun e w' => e = .returned (.bool false) ∧ w = w' := by
  go_enter Try.func44, Try.ntmps44
  go_wp2_with fail
  go_ret
  exact ⟨rfl, rfl⟩
theorem Compare_any (a b : Int) (w : World) : Calls Try.prog 39 #[.int .i64 a, .int .i64 b] w fun e w' => e = .returned (.int .i64 (cmpN a b)) ∧ w = w' := by
  by_cases h1 : a < b
  · have hr : Hid (cmpN a b = -1) := Go.Lib.hid (by unfold cmpN; rw [if_pos h1])
    go_enter Try.func39, Try.ntmps39
    go_wp2_with fail
    refine (isNaN_any a _).mono ?_; rintro e _ ⟨rfl, rfl⟩
    go_wp2_with fail
    refine (isNaN_any b _).mono ?_; rintro e _ ⟨rfl, rfl⟩
    go_wp2_with fail
    go_ret
    exact ⟨ret_int hr.out.symm, rfl⟩
  · by_cases h2 : b < a
    · have hr : Hid (cmpN a b = 1) := Go.Lib.hid (by unfold cmpN; rw [if_neg h1, if_pos h2])
      go_enter Try.func39, Try.ntmps39
      go_wp2_with fail
      refine (isNaN_any a _).mono ?_; rintro e _ ⟨rfl, rfl⟩
      go_wp2_with fail
      refine (isNaN_any b _).mono ?_; rintro e _ ⟨rfl, rfl⟩
      go_wp2_with fail
      go_ret
      exact ⟨ret_int hr.out.symm, rfl⟩
    · have hr : Hid (cmpN a b = 0) := Go.Lib.hid (by unfold cmpN; rw [if_neg h1, if_neg h2])
      go_enter Try.func39, Try.ntmps39
      go_wp2_with fail
      refine (isNaN_any a _).mono ?_; rintro e _ ⟨rfl, rfl⟩
      go_wp2_with fail
      refine (isNaN_any b _).mono ?_; rintro e _ ⟨rfl, rfl⟩
      go_wp2_with fail
      go_ret
      exact ⟨ret_int hr.out.symm, rfl⟩
theorem placeF_any (s : Sn) (j : Int) (w : World) : Calls Try.prog 38 #[snV s, .int .i64 j] w fun e w' => e = .returned (.int .i64 (cmpN s.job j)) ∧ Below w.heap.size w w' := by
  have hc := Compare_any s.job j
  have HC := Go.Lib.hid hc
  clear hc
  go_enter Try.func38, Try.ntmps38
  go_wp2_with fail
  refine (HC.out _).mono ?_; rintro e _ ⟨rfl, rfl⟩
  go_wp2_with fail
  go_ret
  exact ⟨rfl, (Below.refl _ w).alloc (Nat.le_refl _) _⟩
end Go.Proofs.Ytblbphnmflbepaa

