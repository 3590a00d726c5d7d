/- The contracts of ttl and of the reference's ttl: what each function returns, over integers that fit int; nothing that was there turns. -/
import Derived.Test.YtmndmjbckhfmfaaKit
namespace Go.Proofs.Ytmndmjbckhfmfaa
open Go.RowKit

def capF (a b : Int) : Int := max (min a b) 0
def expF (a b : Int) : Int := min (a + max b 0) 1099511627776
def leftF (a b : Int) : Int := max 0 (min (a - b) 9223372036854775807)


theorem capF_fits {a b : Int} (ha : Fits a) (hb : Fits b) : Fits (capF a b) := by unfold Fits capF at *; omega
theorem expF_fits {a b : Int} (ha : Fits a) (hb : Fits b) : Fits (expF a b) := by unfold Fits expF at *; omega
theorem leftF_fits (a b : Int) : Fits (leftF a b) := by unfold Fits leftF at *; omega

theorem cap_any (a b : Int) (w : World) :
    Calls Try.prog 9 #[.int .i64 a, .int .i64 b] w fun e w' => e = .returned (.int .i64 (capF a b)) ∧ w = w' := by
  go_enter Try.func9, Try.ntmps9
  go_wp2
  all_goals go_ret
  all_goals exact ⟨ret_int (by unfold capF; omega), rfl⟩

theorem refcap_any (a b : Int) (w : World) :
    Calls Try.prog 10 #[.int .i64 a, .int .i64 b] w fun e w' => e = .returned (.int .i64 (capF a b)) ∧ w = w' := by
  go_enter Try.func10, Try.ntmps10
  go_wp2
  all_goals go_ret
  all_goals exact ⟨ret_int (by unfold capF; omega), rfl⟩

theorem exp_any (a b : Int) (w : World) (ha : Fits a) (hb : Fits b) :
    Calls Try.prog 11 #[.int .i64 a, .int .i64 b] w fun e w' => e = .returned (.int .i64 (expF a b)) ∧ w = w' := by
  unfold Fits at ha hb
  go_enter Try.func11, Try.ntmps11
  go_wp2
  all_goals go_ret
  all_goals exact ⟨ret_int (by unfold expF; omega), rfl⟩

theorem refexp_any (a b : Int) (w : World) (ha : Fits a) (hb : Fits b) :
    Calls Try.prog 12 #[.int .i64 a, .int .i64 b] w fun e w' => e = .returned (.int .i64 (expF a b)) ∧ w = w' := by
  unfold Fits at ha hb
  go_enter Try.func12, Try.ntmps12
  go_wp2
  all_goals go_ret
  all_goals exact ⟨ret_int (by unfold expF; omega), rfl⟩

theorem wrap_u64 (n : Int) : IntKind.u64.wrap n = n % 18446744073709551616 := by
  simp [IntKind.wrap, IntKind.bits, IntKind.signed]
theorem u64_sub {a b : Int} (ha : Fits a) (hb : Fits b) (h : b < a) : IntKind.u64.wrap (IntKind.u64.wrap a - IntKind.u64.wrap b) = a - b := by
  unfold Fits at *
  simp only [wrap_u64]; omega

theorem left_any (a b : Int) (w : World) (ha : Fits a) (hb : Fits b) :
    Calls Try.prog 13 #[.int .i64 a, .int .i64 b] w fun e w' => e = .returned (.int .i64 (leftF a b)) ∧ w = w' := by
  unfold Fits at ha hb
  go_enter Try.func13, Try.ntmps13
  go_wp2
  all_goals go_ret
  all_goals refine ⟨ret_int ?_, rfl⟩
  all_goals unfold leftF
  · omega
  · have h3 : b < a := by assumption
    simp only [u64_sub ha hb h3] at *
    unfold wrap64; omega
  · have h3 : b < a := by assumption
    simp only [u64_sub ha hb h3] at *
    unfold wrap64; omega

theorem refleft_any (a b : Int) (w : World) (ha : Fits a) (hb : Fits b) :
    Calls Try.prog 14 #[.int .i64 a, .int .i64 b] w fun e w' => e = .returned (.int .i64 (leftF a b)) ∧ w = w' := by
  unfold Fits at ha hb
  go_enter Try.func14, Try.ntmps14
  go_wp2
  all_goals go_ret
  all_goals exact ⟨ret_int (by unfold leftF; omega), rfl⟩

theorem over_any (a b : Int) (w : World) (ha : Fits a) (hb : Fits b) :
    Calls Try.prog 17 #[.int .i64 a, .int .i64 b] w fun e w' => e = .returned (.bool (decide (leftF a b = 0))) ∧ w = w' := by
  have hl := leftF_fits a b
  go_enter Try.func17, Try.ntmps17
  go_wp2_with (go_at_call 13; refine (left_any _ _ _ ha hb).mono ?_; rintro e w' ⟨rfl, rfl⟩)
  go_ret
  exact ⟨ret_bool (by rw [Bool.eq_iff_iff]; simp), rfl⟩

theorem round_any (k n : Int) (w : World) (_hk : Fits k) (h0 : 0 < n) (hn : n ≤ 4611686018427387904) :
    Calls Try.prog 20 #[.int .i64 k, .int .i64 n] w fun e w' => e = .returned (.int .i64 (k % n)) ∧ w = w' := by
  have h1 : -n < k.tmod n := by have := Int.lt_tmod_of_pos k h0; omega
  have h2 : k.tmod n < n := Int.tmod_lt_of_pos k h0
  have h4 : ¬ n = 0 := by omega
  have h3 : Hid (k % n = (k.tmod n + n) % n) := Go.Lib.hid (by
    rw [Int.add_emod_right, Int.tmod_def, Int.sub_emod, Int.mul_emod_right]; simp)
  go_enter Try.func20, Try.ntmps20
  go_wp2
  go_ret
  exact ⟨ret_int (by rw [h3.out]), rfl⟩

def leastF : List Int → Int
  | [] => 0
  | x :: r => r.foldl min x

theorem leastF_snoc {l : List Int} (h : l ≠ []) (x : Int) : leastF (l ++ [x]) = min (leastF l) x := by
  cases l with
  | nil => exact absurd rfl h
  | cons y r => simp [leastF, List.foldl_append]

theorem leastF_take {l : List Int} {k : Nat} (h1 : 1 ≤ k) (h2 : k < l.length) : leastF (l.take (k + 1)) = min (leastF (l.take k)) (l.getD k 0) := by
  rw [List.take_succ_eq_append_getElem h2, leastF_snoc]
  · simp [h2]
  · intro h
    have : (l.take k).length = 0 := by rw [h]; rfl
    rw [List.length_take] at this
    omega

theorem min_any (a : Option Addr) (l : List Int) (cap : Nat) (w : World) (hl : l ≠ []) (h : Ints w (.slice a l.length cap) l) (hm : l.length ≤ 4611686018427387904) :
    Calls Try.prog 21 #[.slice a l.length cap] w fun e w' => e = .returned (.int .i64 (leastF l)) ∧ w = w' := by
  have hpos : 0 < l.length := List.length_pos_iff.2 hl
  obtain ⟨b, off, rfl, _, h⟩ := Ints.at h hpos
  have h0 := h 0 hpos
  have hge : (1 : Int) ≤ (l.length : Int) := by omega
  generalize hn : l.length = n at *
  have HN := Go.Lib.hid hn
  have H := Go.Lib.hid h
  clear hn h hl
  simp only [Nat.add_zero] at h0
  go_enter Try.func21, Try.ntmps21
  go_wp2
  go_loop [3, 4] (fun m i => ∃ k : Nat, 1 ≤ k ∧ k ≤ n ∧ i = .int .i64 k ∧ m = .int .i64 (leastF (l.take k))) (fun _ i => n - (intOf i).toNat)
  case atStart =>
    refine ⟨1, by omega, by omega, rfl, ?_⟩
    cases l with
    | nil => have := HN.out; simp at this; omega
    | cons x r => simp [leastF]
  case round =>
    obtain ⟨k, hk1, hk, rfl, rfl⟩ := hrel
    by_cases hlt : k < n
    · have hcell := H.out k hlt
      have hs : Hid (leastF (l.take (k + 1)) = min (leastF (l.take k)) (l.getD k 0)) := Go.Lib.hid (leastF_take hk1 (by rw [HN.out]; exact hlt))
      generalize l.getD k 0 = v at *
      go_wp2
      all_goals
        go_round
        case rel => exact ⟨k + 1, by omega, by omega, by go_num, by rw [hs.out]; congr 1; omega⟩
        case measure => simp [intOf]; omega
    · go_wp2
      go_ret
      exact ⟨ret_int (by rw [List.take_of_length_le (by rw [HN.out]; omega)]), rfl⟩

theorem refmin_any (a : Option Addr) (l : List Int) (cap : Nat) (w : World) (h : Ints w (.slice a l.length cap) l) (hm : l.length ≤ 4611686018427387904) :
    Calls Try.prog 16 #[.slice a l.length cap] w fun e w' => e = .returned (.int .i64 (leastF l)) ∧ w = w' := by
  by_cases hl : l = []
  · subst hl
    go_enter Try.func16, Try.ntmps16
    go_wp2
    go_ret
    exact ⟨ret_int rfl, rfl⟩
  have hpos : 0 < l.length := List.length_pos_iff.2 hl
  obtain ⟨b, off, rfl, _, h⟩ := Ints.at h hpos
  have h0 := h 0 hpos
  have hge : (1 : Int) ≤ (l.length : Int) := by omega
  generalize hn : l.length = n at *
  have HN := Go.Lib.hid hn
  have H := Go.Lib.hid h
  clear hn h hl
  simp only [Nat.add_zero] at h0
  have hne : ((n : Int) == 0) = false := by rw [beq_eq_false_iff_ne]; omega
  go_enter Try.func16, Try.ntmps16
  go_wp2
  go_loop [3, 4] (fun m i => ∃ k : Nat, 1 ≤ k ∧ k ≤ n ∧ i = .int .i64 k ∧ m = .int .i64 (leastF (l.take k))) (fun _ i => n - (intOf i).toNat)
  case atStart =>
    refine ⟨1, by omega, by omega, rfl, ?_⟩
    cases l with
    | nil => have := HN.out; simp at this; omega
    | cons x r => simp [leastF]
  case round =>
    obtain ⟨k, hk1, hk, rfl, rfl⟩ := hrel
    by_cases hlt : k < n
    · have hcell := H.out k hlt
      have hs : Hid (leastF (l.take (k + 1)) = min (leastF (l.take k)) (l.getD k 0)) := Go.Lib.hid (leastF_take hk1 (by rw [HN.out]; exact hlt))
      generalize l.getD k 0 = v at *
      go_wp2
      all_goals
        go_round
        case rel => exact ⟨k + 1, by omega, by omega, by go_num, by rw [hs.out]; congr 1; omega⟩
        case measure => simp [intOf]; omega
    · go_wp2
      go_ret
      exact ⟨ret_int (by rw [List.take_of_length_le (by rw [HN.out]; omega)]), rfl⟩

theorem least_any (a : Option Addr) (l : List Int) (cap : Nat) (w : World) (h : Ints w (.slice a l.length cap) l) (hm : l.length ≤ 4611686018427387904) :
    Calls Try.prog 15 #[.slice a l.length cap] w fun e w' => e = .returned (.int .i64 (leastF l)) ∧ w = w' := by
  by_cases hl : l = []
  · subst hl
    go_enter Try.func15, Try.ntmps15
    go_wp2
    go_ret
    exact ⟨ret_int rfl, rfl⟩
  have hpos : 0 < l.length := List.length_pos_iff.2 hl
  have hne : ((l.length : Int) == 0) = false := by rw [beq_eq_false_iff_ne]; omega
  have H := Go.Lib.hid h
  have HL := Go.Lib.hid hl
  clear h hl
  go_enter Try.func15, Try.ntmps15
  go_wp2_with (go_at_call 21; refine (min_any _ _ _ _ HL.out H.out hm).mono ?_; rintro e w' ⟨rfl, rfl⟩)
  go_ret
  exact ⟨rfl, rfl⟩

theorem neg_any (a b c : Int) (w : World) :
    Calls Try.prog 18 #[.int .i64 a, .int .i64 b, .int .i64 c] w fun e w' => e = .returned (.int .i64 (capF (min a b) c)) ∧ Below w.heap.size w w' := by
  have H : Hid (Ints (w.alloc (.cells #[.int .i64 a, .int .i64 b] 3)) (.slice (some ⟨w.heap.size, 0, none⟩) 2 2) [a, b]) := Go.Lib.hid (slc_new w 1 2 3 [.int .i64 a, .int .i64 b] rfl (by decide))
  go_enter Try.func18, Try.ntmps18
  go_wp2_with fail
  refine (least_any _ [a, b] _ _ H.out (by simp)).mono ?_
  rintro e w' ⟨rfl, rfl⟩
  go_wp2_with fail
  refine (cap_any _ _ _).mono ?_
  rintro e w' ⟨rfl, rfl⟩
  go_wp2_with fail
  go_ret
  exact ⟨ret_int (by simp [leastF]), (Below.refl _ _).alloc (Nat.le_refl _) _⟩

theorem refneg_any (a b c : Int) (w : World) :
    Calls Try.prog 19 #[.int .i64 a, .int .i64 b, .int .i64 c] w fun e w' => e = .returned (.int .i64 (capF (min a b) c)) ∧ w = w' := by
  go_enter Try.func19, Try.ntmps19
  go_wp2_with (go_at_call 10; refine (refcap_any _ _ _).mono ?_; rintro e w' ⟨rfl, rfl⟩)
  all_goals go_ret
  all_goals exact ⟨ret_int (by congr 1; omega), rfl⟩

theorem awake_any (w : World) : Calls Try.prog 8 #[] w fun e w' => e = .returned (.bool true) ∧ Below w.heap.size w w' := by
  have H : Hid (Ints (w.alloc (.cells #[.int .i64 3, .int .i64 1, .int .i64 2] 3)) (.slice (some ⟨w.heap.size, 0, none⟩) 3 3) [3, 1, 2]) := Go.Lib.hid (slc_new w 1 3 3 [.int .i64 3, .int .i64 1, .int .i64 2] rfl (by decide))
  go_enter Try.func8, Try.ntmps8
  go_wp2_with (first
    | (go_at_call 9; refine (cap_any _ _ _).mono ?_; rintro e w' ⟨rfl, rfl⟩)
    | (go_at_call 11; refine (exp_any _ _ _ (by unfold Fits; omega) (by unfold Fits; omega)).mono ?_; rintro e w' ⟨rfl, rfl⟩)
    | (go_at_call 13; refine (left_any _ _ _ (by unfold Fits; omega) (by unfold Fits; omega)).mono ?_; rintro e w' ⟨rfl, rfl⟩))
  refine (least_any _ [3, 1, 2] _ _ H.out (by simp)).mono ?_
  rintro e w' ⟨rfl, rfl⟩
  go_wp2_with fail
  refine (least_any _ [] _ _ (SlC.nil _ _) (by simp)).mono ?_
  rintro e w' ⟨rfl, rfl⟩
  go_wp2_with (first
    | (go_at_call 17; refine (over_any _ _ _ (by unfold Fits; omega) (by unfold Fits; omega)).mono ?_; rintro e w' ⟨rfl, rfl⟩)
    | (go_at_call 18; refine (neg_any _ _ _ _).mono ?_; rintro e w' ⟨rfl, hg⟩))
  go_ret
  exact ⟨ret_bool (by decide), ((Below.refl _ _).alloc (Nat.le_refl _) _).trans (hg.mono (by simp))⟩

end Go.Proofs.Ytmndmjbckhfmfaa
