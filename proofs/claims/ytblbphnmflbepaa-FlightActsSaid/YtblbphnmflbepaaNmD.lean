/- Plain law of names and their parents: what a name and one that it is under have in common; the text read again. Lists alone; no program in sight. -/
import Derived.Test.YtblbphnmflbepaaNmC
namespace Go.Nm

theorem parse_text {n : Bytes} (h : valid n = true) : parseN (textN n) = some n := (parseW_eq takeOk_B).2 ⟨h, rfl⟩
theorem textN_length {n : Bytes} (h : valid n = true) : (textN n).length ≤ 65280 := by
  unfold textN
  split
  · simp
  · have hg := (labs_valid h).2.1
    have hl : (labs n).length ≤ 255 := by
      have h1 := wire_length_gt (labs n)
      rw [← (labs_valid h).1] at h1
      have := (labs_valid h).2.2
      omega
    have key : ∀ ls : List Bytes, GoodL ls → (textL ls).length ≤ 256 * ls.length := by
      intro ls
      induction ls with
      | nil => simp [textL]
      | cons l ls ih =>
        intro hg
        obtain ⟨⟨_, h2⟩, h3⟩ := good_cons.1 hg
        have := ih h3
        have h4 : ∀ l : Bytes, (l.flatMap signB).length ≤ 4 * l.length := by
          intro l
          induction l with
          | nil => simp
          | cons c l ih =>
            have := (signB_length c).1
            simp only [List.flatMap_cons, List.length_append, List.length_cons]
            omega
        have h5 := h4 l
        simp only [textL, List.flatMap_cons, List.length_append, List.length_cons, List.length_nil] at *
        omega
    have := key _ hg
    omega

/-- what a name and the one that is k steps up have in common is that one -/
theorem commonL_drop : ∀ (k : Nat) (ls : List Bytes), k ≤ ls.length → commonL ls ((ls.drop k).map foldB) = ls.drop k
  | 0, ls, _ => by
    refine commonL_stop ?_
    rw [List.drop_zero]
    exact endsIn_refl _
  | k + 1, [], h => by simp at h
  | k + 1, l :: ls, h => by
    have hno : endsIn ((ls.drop k).map foldB) ((l :: ls).map foldB) = false := by
      have : ¬ ((l :: ls).map foldB).length ≤ ((ls.drop k).map foldB).length := by
        simp; omega
      unfold endsIn
      rw [decide_eq_false this, Bool.false_and]
    rw [List.drop_succ_cons, (commonL_go hno).2]
    exact commonL_drop k ls (by simpa using h)

theorem parents_wire (k : Nat) {n : Bytes} (h : valid n = true) : parents k n = wire ((labs n).drop k) := by
  obtain ⟨h1, h2⟩ := parents_labs k h
  rw [(labs_valid h1).1, h2]
theorem common_parents {k : Nat} {n : Bytes} (h : valid n = true) (hk : k ≤ (labs n).length) : commonN n (parents k n) = parents k n := by
  obtain ⟨h1, h2⟩ := parents_labs k h
  unfold commonN
  rw [h, h1, h2, commonL_drop k _ hk, parents_wire k h]
  rfl
theorem under_up {k : Nat} {n : Bytes} (h : valid n = true) : underN n (parents k n) = true := by
  obtain ⟨h1, h2⟩ := parents_labs k h
  rw [under_order h h1, h2]
  exact endsIn_iff.2 ⟨((labs n).take k).map foldB, by rw [← List.map_append, List.take_append_drop]⟩
theorem parents_root {k : Nat} {n : Bytes} (h : valid n = true) (hk : (labs n).length ≤ k) : parents k n = [0] := by
  rw [parents_wire k h, List.drop_of_length_le hk]; rfl
theorem parents_not_root {k : Nat} {n : Bytes} (h : valid n = true) (hk : k < (labs n).length) : parents k n ≠ [0] := by
  rw [parents_wire k h, List.drop_eq_getElem_cons hk]
  exact wire_ne_root
theorem parent_root : parentN [0] = [0] := rfl
end Go.Nm
