/- Plain: data of each known type may be just in its own form: a byte more, or less, and it is none of it. -/
import Derived.Test.YthfpijacemkbbaaDoorRqN
import Derived.Test.YthfpijacemkbbaaDoorRqQ
namespace Go.Proofs.YthfpijacemkbbaaDoor
open Go.RowKit
set_option linter.unusedVariables false

theorem lead_cut {s : List UInt8} {L c : Nat} (h : Nm.lead s = some L) (hc : c < L) : Nm.lead (s.take c) = none := by
  cases hl : Nm.lead (s.take c) with
  | none => rfl
  | some m =>
    have h1 := Rc.lead_take hl
    obtain ⟨_, _, h2⟩ := Nm.lead_le hl
    rw [List.length_take] at h2
    rw [List.take_take, show min m c = m by omega] at h1
    have h3 := Rc.take_lead (s := s) (m := m) (by omega) h1
    rw [h] at h3
    simp only [Option.some.injEq] at h3
    omega
/-- one name behind k bytes -/
theorem data_one {t : Int} {k : Nat} (hs : Rc.shape t = some (k, 1, 0)) {a r : List UInt8} (ha : a.length = k) (hl : (a ++ r).length ≤ 1000) :
    Rc.dataB t (a ++ r) = (match Nm.lead r with | none => false | some m => decide (r.length = m)) := by
  have hn : ¬ t = 1 ∧ ¬ t = 28 ∧ ¬ t = 16 := by refine ⟨?_, ?_, ?_⟩ <;> (rintro rfl; simp [Rc.shape] at hs)
  have hd : Rc.dataB t (a ++ r) = (Rc.placesP t (a ++ r)).2 := by
    unfold Rc.dataB
    rw [if_neg (by omega), if_neg hn.1, if_neg hn.2.1, if_neg hn.2.2]
  rw [hd]
  unfold Rc.placesP
  rw [hs]
  simp only
  rw [if_neg (by rw [List.length_append]; omega)]
  have hdr : (a ++ r).drop k = r := by rw [← ha, List.drop_left]
  have e := Rc.names_succ (show Rc.names (a ++ r) k 0 = some ([], k) from rfl)
  rw [hdr] at e
  cases hlr : Nm.lead r with
  | none =>
    rw [hlr] at e
    rw [show Rc.names (a ++ r) k 1 = none from e]
  | some m =>
    rw [hlr] at e
    rw [show Rc.names (a ++ r) k 1 = _ from e]
    have hle := (Nm.lead_le hlr).2.2
    simp only [List.length_append]
    rw [Bool.eq_iff_iff, decide_eq_true_eq, decide_eq_true_eq]
    omega
theorem data_short {t : Int} {k : Nat} (hs : Rc.shape t = some (k, 1, 0)) {d : List UInt8} (hl : d.length < k) (hk : k ≤ 700) : Rc.dataB t d = false := by
  have hn : ¬ t = 1 ∧ ¬ t = 28 ∧ ¬ t = 16 := by refine ⟨?_, ?_, ?_⟩ <;> (rintro rfl; simp [Rc.shape] at hs)
  unfold Rc.dataB
  rw [if_neg (by omega), if_neg hn.1, if_neg hn.2.1, if_neg hn.2.2]
  unfold Rc.placesP
  rw [hs]
  simp only
  rw [if_pos hl]
/-- what is asked of a form -/
def Form (t : Int) (d : List UInt8) (m : Nat) : Prop :=
  Rc.dataB t d = true ∧ Rc.dataB t (d ++ [120]) = false ∧ (∀ c, c < d.length → Rc.dataB t (d.take c) = false) ∧ ((Rc.partsN t d).getD []).length = m ∧ knownB t = true ∧ 1 ≤ d.length ∧ d.length ≤ 300
theorem form_one {t : Int} {k : Nat} (hs : Rc.shape t = some (k, 1, 0)) (ht : knownB t = true) {a n : List UInt8} (ha : a.length = k) (hk : k ≤ 7) (hv : Nm.valid n = true) (hn : n.length ≤ 100) : Form t (a ++ n) 1 := by
  have hld := lead_self hv
  have h1 := (valid_le hv).1
  obtain ⟨p1, p2⟩ := place_one hs ha hv (by omega)
  refine ⟨p1, ?_, fun c hc => ?_, by rw [p2]; rfl, ht, by rw [List.length_append]; omega, by rw [List.length_append]; omega⟩
  · rw [List.append_assoc, data_one hs ha (by simp; omega)]
    have : Nm.lead (n ++ [120]) = some n.length := lead_at (a := []) hv [120]
    rw [this]
    simp
  · rw [List.length_append] at hc
    by_cases hck : c < k
    · exact data_short hs (by rw [List.length_take, List.length_append]; omega) (by omega)
    · rw [List.take_append, ha, List.take_of_length_le (by omega : a.length ≤ c), data_one hs ha (by rw [List.length_append, List.length_take]; omega), lead_cut hld (by omega)]
theorem form_fix {t : Int} {d : List UInt8} {L : Nat} (ht : t = 1 ∧ L = 4 ∨ t = 28 ∧ L = 16) (hd : d.length = L) : Form t d 0 := by
  have key : ∀ d : List UInt8, d.length ≤ 1000 → Rc.dataB t d = decide (d.length = L) := fun d h => by
    unfold Rc.dataB
    rw [if_neg (by omega)]
    rcases ht with ⟨rfl, rfl⟩ | ⟨rfl, rfl⟩
    · rw [if_pos rfl]
    · rw [if_neg (by decide), if_pos rfl]
  refine ⟨?_, ?_, fun c hc => ?_, ?_, ?_, by omega, by omega⟩
  · rw [key d (by omega)]; simpa using hd
  · rw [key _ (by simp; omega)]; simp; omega
  · rw [key _ (by rw [List.length_take]; omega), decide_eq_false_iff_not, List.length_take]; omega
  · rw [Rc.partsN_some (by rw [key d (by omega)]; simpa using hd)]
    unfold Rc.placesP
    have : Rc.shape t = none := by rcases ht with ⟨rfl, _⟩ | ⟨rfl, _⟩ <;> rfl
    rw [this]
    rfl
  · rcases ht with ⟨rfl, _⟩ | ⟨rfl, _⟩ <;> rfl
theorem data_soa {r : List UInt8} (hl : r.length ≤ 1000) : Rc.dataB 6 r = (match Nm.lead r with | none => false | some m => match Nm.lead (r.drop m) with | none => false | some q => decide (r.length - (m + q) = 20)) := by
  have hd : Rc.dataB 6 r = (Rc.placesP 6 r).2 := by
    unfold Rc.dataB
    rw [if_neg (by omega), if_neg (by omega), if_neg (by omega), if_neg (by omega)]
  rw [hd]
  unfold Rc.placesP
  rw [show Rc.shape 6 = some (0, 2, 20) from rfl]
  simp only
  rw [if_neg (by omega)]
  have e1 := Rc.names_succ (show Rc.names r 0 0 = some ([], 0) from rfl)
  rw [List.drop_zero] at e1
  cases h1 : Nm.lead r with
  | none =>
    rw [h1] at e1
    rw [Rc.names_none (show Rc.names r 0 1 = none from e1) (by omega : 1 ≤ 2)]
  | some m =>
    rw [h1] at e1
    have e2 := Rc.names_succ (show Rc.names r 0 1 = _ from e1)
    rw [Nat.zero_add] at e2
    simp only
    cases h2 : Nm.lead (r.drop m) with
    | none =>
      rw [h2] at e2
      rw [show Rc.names r 0 2 = none from e2]
    | some q =>
      rw [h2] at e2
      rw [show Rc.names r 0 2 = _ from e2]
theorem form_soa {n o z : List UInt8} (hv : Nm.valid n = true) (ho : Nm.valid o = true) (hn : n.length ≤ 100) (hol : o.length ≤ 100) (hz : z.length = 20) : Form 6 (n ++ (o ++ z)) 2 := by
  have h1 := (valid_le hv).1
  obtain ⟨p1, p2⟩ := place_two (c := z) hv ho hz
  have ll : (n ++ (o ++ z)).length = n.length + (o.length + 20) := by simp [hz]
  refine ⟨p1, ?_, fun c hc => ?_, by rw [p2]; rfl, rfl, by omega, by omega⟩
  · have e : n ++ (o ++ z) ++ [120] = n ++ (o ++ (z ++ [120])) := by simp
    have l1 : Nm.lead (n ++ (o ++ (z ++ [120]))) = some n.length := lead_at (a := []) hv _
    rw [e, data_soa (by simp [hz]; omega), l1]
    simp only
    rw [List.drop_left, show Nm.lead (o ++ (z ++ [120])) = some o.length from lead_at (a := []) ho _]
    simp only [List.length_append, hz, decide_eq_false_iff_not]
    simp
    omega
  · rw [ll] at hc
    rw [data_soa (by rw [List.length_take]; omega)]
    by_cases hcn : c < n.length
    · rw [List.take_append_of_le_length (by omega), lead_cut (lead_self hv) hcn]
    · have e : (n ++ (o ++ z)).take c = n ++ (o ++ z).take (c - n.length) := by rw [List.take_append, List.take_of_length_le (by omega : n.length ≤ c)]
      rw [e, show Nm.lead (n ++ (o ++ z).take (c - n.length)) = some n.length from lead_at (a := []) hv _]
      simp only
      rw [List.drop_left]
      by_cases hco : c - n.length < o.length
      · rw [List.take_append_of_le_length (by omega), lead_cut (lead_self ho) hco]
      · rw [List.take_append, List.take_of_length_le (by omega : o.length ≤ c - n.length), show Nm.lead (o ++ z.take (c - n.length - o.length)) = some o.length from lead_at (a := []) ho _]
        simp only [List.length_append, List.length_take, decide_eq_false_iff_not]
        omega
end Go.Proofs.YthfpijacemkbbaaDoor

