/- Plain laws of names for the statements on folding, on labels put ahead, on sizes, and on texts. Lists alone; no program in sight. -/
import Derived.Test.YtblbphnmflbepaaNmD
namespace Go.Nm

/-! ### folding -/
theorem low_low (c : UInt8) : low (low c) = low c := by
  unfold low
  split
  · have h : (c + 32).toNat = (c.toNat + 32) % 256 := by rw [UInt8.toNat_add]; rfl
    exact if_neg (by omega)
  · rfl
theorem foldB_foldB (s : Bytes) : foldB (foldB s) = foldB s := by simp [foldB, low_low]
theorem foldN_valid {s : Bytes} (h : valid s = true) : foldN s = foldB s := by unfold foldN; rw [if_pos h]
theorem foldN_foldB {s : Bytes} (h : valid s = true) : foldN (foldB s) = foldB s := by rw [foldN_valid (valid_foldB h).1, foldB_foldB]
theorem same_foldB {s : Bytes} (h : valid s = true) : sameN s (foldB s) = true := by simp [sameN, h, (valid_foldB h).1, foldB_foldB]
theorem root_of_labs {s : Bytes} (h : valid s = true) (hl : labs s = []) : s = [0] := by
  rw [(labs_valid h).1, hl]; rfl
theorem valid_set {s : Bytes} {l : Bytes} {ls : List Bytes} (h : valid s = true) (hl : labs s = l :: ls) (j : Nat) (hj : j < l.length) (c : UInt8) : valid (s.set (1 + j) c) = true := by
  obtain ⟨h1, h2, h3⟩ := labs_valid h
  rw [hl] at h1 h2
  obtain ⟨hg, hgs⟩ := good_cons.1 h2
  have e : s.set (1 + j) c = wire (l.set j c :: ls) := by
    rw [h1, wire_cons, wire_cons, Nat.add_comm, List.set_cons_succ, List.length_set, List.set_append_left _ _ hj]
  rw [e]
  refine valid_wire (good_cons.2 ⟨by rw [List.length_set]; exact hg, hgs⟩) ?_
  rw [← e, List.length_set]
  exact h3
theorem same_iff_fold {a b : Bytes} (ha : valid a = true) (hb : valid b = true) : sameN a b = (foldN b == foldB a) := by
  rw [foldN_valid hb]
  unfold sameN
  rw [ha, hb, Bool.and_self, Bool.true_and, Bool.eq_iff_iff, beq_iff_eq, beq_iff_eq]
  exact ⟨Eq.symm, Eq.symm⟩
theorem first_lt {s : Bytes} {l : Bytes} {ls : List Bytes} (h : valid s = true) (hl : labs s = l :: ls) : 1 + l.length < s.length ∧ 1 ≤ l.length ∧ l.length ≤ 63 := by
  obtain ⟨h1, h2, h3⟩ := labs_valid h
  rw [hl] at h1 h2
  obtain ⟨hg, _⟩ := good_cons.1 h2
  have := congrArg List.length h1
  rw [wire_cons] at this
  have h4 := wire_length_gt ls
  simp only [List.length_cons, List.length_append] at this
  exact ⟨by omega, hg⟩

/-! ### labels put ahead -/
theorem under_ahead_of {n o : Bytes} {more : List Bytes} (h : valid n = true) (ho : valid o = true) (hl : labs o = more ++ labs n) : underN o n = true := by
  rw [under_order ho h, hl]
  exact endsIn_iff.2 ⟨more.map foldB, by rw [List.map_append]⟩
theorem common_ahead {n o : Bytes} {more : List Bytes} (h : valid n = true) (ho : valid o = true) (hl : labs o = more ++ labs n) : commonN o n = n ∧ commonN n o = n := by
  have hw := (labs_valid h).1
  constructor
  · unfold commonN
    rw [h, ho, hl]
    have := commonL_drop more.length (more ++ labs n) (by simp)
    rw [List.drop_left] at this
    simp only [Bool.and_self, if_true]
    rw [this]
    exact hw.symm
  · unfold commonN
    rw [h, ho, hl]
    simp only [Bool.and_self, if_true]
    rw [commonL_stop]
    · exact hw.symm
    · exact endsIn_iff.2 ⟨more.map foldB, by rw [List.map_append]⟩
theorem back_ahead {n o : Bytes} {more : List Bytes} (h : valid n = true) (ho : valid o = true) (hl : labs o = more ++ labs n) : underN n o = decide (more = []) := by
  by_cases hm : more = []
  · subst hm
    rw [decide_eq_true rfl, under_order h ho, hl, List.nil_append]
    exact endsIn_refl _
  · rw [decide_eq_false hm]
    refine under_short ?_
    rw [hl, List.length_append]
    have := List.length_pos_iff.2 hm
    omega
theorem less_ahead {n o : Bytes} {more : List Bytes} (h : valid n = true) (ho : valid o = true) (hl : labs o = more ++ labs n) (hm : more ≠ []) : lessN n o = true := by
  refine under_ahead ho h (under_ahead_of h ho hl) ?_
  cases hs : sameN o n with
  | false => rfl
  | true =>
    have := orderF_inj.1 ((same_order ho h).1 hs)
    have := congrArg List.length this
    rw [hl] at this
    simp only [List.length_map, List.length_append] at this
    have := List.length_pos_iff.2 hm
    omega
theorem parent_ahead {n o : Bytes} {more : List Bytes} (h : valid n = true) (hl : labs o = more ++ labs n) (hm : more ≠ []) : underN (parentN o) n = true := by
  obtain ⟨x, m, rfl⟩ := List.exists_cons_of_ne_nil hm
  refine under_ahead_of (more := m) h valid_parent ?_
  rw [labs_parent, hl]
  rfl

/-! ### sizes -/
theorem wire_more {ls : List Bytes} (hg : GoodL ls) : valid (wire ls ++ [0]) = false := by
  cases hv : valid (wire ls ++ [0]) with
  | false => rfl
  | true =>
    obtain ⟨h1, h2, _⟩ := labs_valid hv
    have h3 : wire ls ++ [0] = wire (labs (wire ls ++ [0])) ++ [] := by rw [List.append_nil]; exact h1
    have := (wire_inj hg h2 h3).2
    cases this
theorem wire_less {ls : List Bytes} (hg : GoodL ls) : valid (pre ls) = false := by
  cases hv : valid (pre ls) with
  | false => rfl
  | true =>
    obtain ⟨h1, h2, _⟩ := labs_valid hv
    have h3 : wire (labs (pre ls)) ++ [0] = wire ls ++ [] := by rw [← h1, List.append_nil]; rfl
    have := (wire_inj h2 hg h3).2
    cases this
theorem wire_take {ls : List Bytes} : (wire ls).take ((wire ls).length - 1) = pre ls := by
  rw [wire_len]
  simp [wire]
theorem wire_snoc_length (ls : List Bytes) (l : Bytes) : (wire (ls ++ [l])).length = (wire ls).length + 1 + l.length := by
  simp only [wire, pre_append, pre, List.length_append, List.length_cons, List.length_nil]
  omega
theorem goodB_snoc (ls : List Bytes) (l : Bytes) : goodB (ls ++ [l]) = (goodB ls && (decide (1 ≤ l.length) && decide (l.length ≤ 63))) := by
  simp [goodB]
theorem joinN_no {ls : List Bytes} (h : (goodB ls && decide ((wire ls).length ≤ 255)) = false) : joinN ls = none := by
  unfold joinN
  rw [h]
  rfl
theorem joinN_yes {ls : List Bytes} (h : (goodB ls && decide ((wire ls).length ≤ 255)) = true) : joinN ls = some (wire ls) ∧ GoodL ls ∧ (wire ls).length ≤ 255 := by
  have h' := h
  rw [Bool.and_eq_true, decide_eq_true_eq] at h'
  refine ⟨?_, goodB_iff.1 h'.1, h'.2⟩
  unfold joinN
  rw [h]
  rfl

/-! ### texts -/
theorem textL_append (a b : List Bytes) : textL (a ++ b) = textL a ++ textL b := by simp [textL]
theorem good_rep {l : Bytes} (h1 : 1 ≤ l.length) (h2 : l.length ≤ 63) (n : Nat) : GoodL (List.replicate n l) := by
  intro x hx
  rw [List.eq_of_mem_replicate hx]
  exact ⟨h1, h2⟩
theorem wire_rep_length (l : Bytes) (n : Nat) : (wire (List.replicate n l)).length = n * (l.length + 1) + 1 := by
  induction n with
  | zero => simp [wire, pre]
  | succ n ih =>
    rw [List.replicate_succ', wire_snoc_length, ih, Nat.succ_mul]
    omega
theorem join_rep {l : Bytes} (h1 : 1 ≤ l.length) (h2 : l.length ≤ 40) {n : Nat} (hn : n ≤ 4) : joinN (List.replicate n l) = some (wire (List.replicate n l)) := by
  refine joinN_some.2 ⟨rfl, good_rep h1 (by omega) n, ?_⟩
  rw [wire_rep_length]
  have : n * (l.length + 1) ≤ 4 * (l.length + 1) := Nat.mul_le_mul_right _ hn
  omega
theorem text_rep {l : Bytes} (h1 : 1 ≤ l.length) (h2 : l.length ≤ 40) {n : Nat} (hp : 1 ≤ n) (hn : n ≤ 4) : textN (wire (List.replicate n l)) = textL (List.replicate n l) ∧ valid (wire (List.replicate n l)) = true := by
  have hj := joinN_valid (join_rep h1 h2 hn)
  refine ⟨?_, hj.1⟩
  obtain ⟨k, rfl⟩ : ∃ k, n = k + 1 := ⟨n - 1, by omega⟩
  unfold textN
  rw [if_neg (by rw [List.replicate_succ]; exact wire_ne_root), hj.2]
theorem parse_rep {l : Bytes} (h1 : 1 ≤ l.length) (h2 : l.length ≤ 40) {n : Nat} (hp : 1 ≤ n) (hn : n ≤ 4) : parseN (textL (List.replicate n l)) = some (wire (List.replicate n l)) :=
  (parseW_eq takeOk_B).2 ⟨(text_rep h1 h2 hp hn).2, (text_rep h1 h2 hp hn).1⟩
theorem textL_one (l : Bytes) : textL [l] = l.flatMap signB ++ [46] := by simp [textL]
theorem text_cut {l : Bytes} {n : Nat} : textL (List.replicate (n + 1) l) = (textL (List.replicate n l) ++ l.flatMap signB) ++ [46] := by
  rw [List.replicate_succ', textL_append, textL_one, List.append_assoc]
theorem signs_ne {l : Bytes} (h : l ≠ []) : l.flatMap signB ≠ [] := by
  obtain ⟨c, r, rfl⟩ := List.exists_cons_of_ne_nil h
  obtain ⟨d, q, hd, _⟩ := signB_head c
  rw [List.flatMap_cons, hd]
  simp
theorem parse_cut {l : Bytes} (h : l ≠ []) (ls : List Bytes) : parseN (textL ls ++ l.flatMap signB) = none := by
  cases hp : parseN (textL ls ++ l.flatMap signB) with
  | none => rfl
  | some n =>
    exfalso
    obtain ⟨hv, ht⟩ := (parseW_eq takeOk_B).1 hp
    have hc : candOf takeB [] [] (textL ls ++ l.flatMap signB) = ls := by
      rw [candOf_text takeOk_B, List.nil_append, ← List.append_nil (l.flatMap signB), candOf_signs takeOk_B, candOf_nil]
    rw [← ht] at hc
    unfold textN at ht hc
    split at ht
    · rename_i hr
      rw [if_pos hr] at hc
      have h0 : ls = [[]] := by rw [← hc]; rfl
      rw [h0] at ht
      have hne := signs_ne h
      have := congrArg List.length ht
      simp only [textL, List.flatMap_cons, List.flatMap_nil, List.nil_append, List.append_nil, List.length_append, List.length_cons, List.length_nil] at this
      have := List.length_pos_iff.2 hne
      omega
    · rename_i hr
      rw [if_neg hr, cand_textL takeOk_B] at hc
      rw [hc] at ht
      have := congrArg List.length ht
      rw [List.length_append] at this
      have := List.length_pos_iff.2 (signs_ne h)
      omega
end Go.Nm
