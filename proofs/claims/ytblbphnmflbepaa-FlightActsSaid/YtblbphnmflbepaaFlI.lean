/- Flight: the table: what it holds; New, place, Len. -/
import Derived.Test.YtblbphnmflbepaaFlH
namespace Go.Proofs.Ytblbphnmflbepaa
open Go.RowKit Go.Lib
set_option linter.unusedVariables false

/-- where a job's stands, or would -/
def posN (l : List Sn) (t : Int) : Nat := (l.takeWhile fun s => decide (s.job < t)).length
def hasN (l : List Sn) (t : Int) : Bool := decide (posN l t < l.length ∧ jobAt l (posN l t) = t)
/-- one more: the list, and what is told -/
def addN (most : Int) (l : List Sn) (s : Sn) : List Sn × Int :=
  if hasN l s.job then (l.set (posN l s.job) s, 0) else if most ≤ l.length then (l, 4) else (l.take (posN l s.job) ++ [s] ++ l.drop (posN l s.job), 0)
def ofN (l : List Sn) (t : Int) : Sn × Bool := if hasN l t then (l.getD (posN l t) s0, true) else (s0, false)
def dropN (l : List Sn) (t : Int) : List Sn × Sn × Int := if hasN l t then (l.take (posN l t) ++ l.drop (posN l t + 1), l.getD (posN l t) s0, 0) else (l, s0, 5)

theorem jobAt_cons (s : Sn) (l : List Sn) (k : Nat) : jobAt (s :: l) (k + 1) = jobAt l k := rfl
theorem pos_eq : ∀ (l : List Sn) (t : Int) (k : Nat), IsPos l t k → k = posN l t
  | [], t, k, h => by have := h.1; simp at this; simp [posN, this]
  | s :: l, t, 0, h => by
    have := h.2.2 0 (Nat.le_refl _) (by simp)
    have hs : ¬ s.job < t := by
      have : jobAt (s :: l) 0 = s.job := rfl
      omega
    simp [posN, hs]
  | s :: l, t, k + 1, h => by
    have h0 := h.2.1 0 (by omega)
    have hs : s.job < t := h0
    have ih := pos_eq l t k ⟨by have := h.1; simp at this; omega, fun a ha => by rw [← jobAt_cons s]; exact h.2.1 (a + 1) (by omega), fun b h1 h2 => by rw [← jobAt_cons s]; exact h.2.2 (b + 1) (by omega) (by simp; omega)⟩
    simp [posN, hs] at ih ⊢
    exact ih
theorem pos_le (l : List Sn) (t : Int) : posN l t ≤ l.length := by
  unfold posN
  exact (List.takeWhile_sublist _).length_le
theorem pos_lt : ∀ (l : List Sn) (t : Int) (k : Nat), k < posN l t → jobAt l k < t
  | [], t, k, h => by simp [posN] at h
  | s :: l, t, k, h => by
    unfold posN at h
    rw [List.takeWhile_cons] at h
    by_cases hs : s.job < t
    · rw [if_pos (decide_eq_true hs)] at h
      cases k with
      | zero => exact hs
      | succ k => exact pos_lt l t k (by simpa [posN] using h)
    · rw [if_neg (by simpa using hs)] at h
      simp at h
theorem pos_ge : ∀ (l : List Sn) (t : Int), posN l t < l.length → t ≤ jobAt l (posN l t)
  | [], t, h => by simp at h
  | s :: l, t, h => by
    by_cases hs : s.job < t
    · have e : posN (s :: l) t = posN l t + 1 := by simp [posN, hs]
      rw [e, jobAt_cons]
      exact pos_ge l t (by rw [e] at h; simpa using h)
    · have e : posN (s :: l) t = 0 := by simp [posN, hs]
      rw [e]
      show t ≤ s.job
      omega

theorem encN_one : ∀ (l : List Sn), ∀ v ∈ encN l, v.oneCell' = true := by
  intro l v hv
  simp only [encN, List.mem_flatMap] at hv
  obtain ⟨s, _, hs⟩ := hv
  simp only [snC, List.mem_cons, List.not_mem_nil, or_false] at hs
  rcases hs with rfl | rfl | rfl | rfl | rfl | rfl | rfl | rfl | rfl <;> rfl
theorem encN_append (a b : List Sn) : encN (a ++ b) = encN a ++ encN b := by simp [encN]
theorem encN_take : ∀ (l : List Sn) (k : Nat), encN (l.take k) = (encN l).take (k * 9)
  | l, 0 => by simp [encN]
  | [], k + 1 => by simp [encN]
  | s :: l, k + 1 => by
    have e : encN (s :: l) = snC s ++ encN l := rfl
    have hl : (snC s).length = 9 := rfl
    rw [List.take_succ_cons, show encN (s :: l.take k) = snC s ++ encN (l.take k) from rfl, encN_take l k, e, List.take_append, hl, show (k + 1) * 9 - 9 = k * 9 by omega, List.take_of_length_le (l := snC s) (by rw [hl]; omega)]
theorem encN_drop : ∀ (l : List Sn) (k : Nat), encN (l.drop k) = (encN l).drop (k * 9)
  | l, 0 => by simp
  | [], k + 1 => by simp [encN]
  | s :: l, k + 1 => by
    have e : encN (s :: l) = snC s ++ encN l := rfl
    have hl : (snC s).length = 9 := rfl
    rw [List.drop_succ_cons, encN_drop l k, e, List.drop_append, hl, show (k + 1) * 9 - 9 = k * 9 by omega, List.drop_of_length_le (l := snC s) (by rw [hl]; omega), List.nil_append]

/-- a table: its own block b, its row in memory from base on -/
def IsTab (base b : Nat) (most : Int) (l : List Sn) (w : World) : Prop :=
  base ≤ b ∧ ∃ v, w.heap[b]? = some (.cells #[.int .i64 most, v] 74 (0, 0)) ∧ w.ownsRow base 36 9 v l.length (encN l)
/-- the block of a table's row -/
def rowOf (b : Nat) (w : World) : Option Nat := match w.heap[b]? with
  | some (.cells cs _ _) => (cs.getD 1 (.int .i64 0)).ownBlock
  | _ => none
theorem rowOf_eq {b : Nat} {w : World} {x v : Value} {T : TypeId} {fr : Nat × Nat} (h : w.heap[b]? = some (.cells #[x, v] T fr)) : rowOf b w = v.ownBlock := by unfold rowOf; rw [h]; rfl
theorem rowOf_same {b : Nat} {w w' : World} (h : w'.heap[b]? = w.heap[b]?) : rowOf b w' = rowOf b w := by unfold rowOf; rw [h]
/-- what a table's acts leave as it was: all but its own block and its row -/
structure KeepsT (b : Nat) (w w' : World) : Prop where
  size : w.heap.size ≤ w'.heap.size
  block : ∀ k, k < w.heap.size → k ≠ b → rowOf b w ≠ some k → w'.heap[k]? = w.heap[k]?
  row : rowOf b w' = rowOf b w ∨ ∀ g, rowOf b w' = some g → w.heap.size ≤ g
theorem KeepsT.refl (b : Nat) (w : World) : KeepsT b w w := ⟨Nat.le_refl _, fun _ _ _ _ => rfl, .inl rfl⟩
theorem KeepsT.trans {b : Nat} {w w1 w2 : World} (h : KeepsT b w w1) (h2 : KeepsT b w1 w2) : KeepsT b w w2 :=
  ⟨Nat.le_trans h.size h2.size, fun k hk hb hr => (h2.block k (Nat.lt_of_lt_of_le hk h.size) hb (fun e => by
      rcases h.row with h3 | h3
      · exact hr (h3.symm.trans e)
      · exact absurd (h3 k e) (by omega))).trans (h.block k hk hb hr), by
    rcases h2.row with h3 | h3
    · rcases h.row with h4 | h4
      · exact .inl (h3.trans h4)
      · exact .inr fun g hg => h4 g (h3 ▸ hg)
    · exact .inr fun g hg => Nat.le_trans h.size (h3 g hg)⟩
theorem KeepsT.below {b : Nat} {w w' : World} (hb : b < w.heap.size) (h : Below w.heap.size w w') : KeepsT b w w' :=
  ⟨h.size, fun k hk _ _ => h.block k hk, .inl (rowOf_same (h.block b hb))⟩
theorem KeepsT.act0 {b : Nat} {w w1 w2 : World} {x v : Value} {T : TypeId} {fr : Nat × Nat} (hb : b < w.heap.size) (h : Below w.heap.size w w1) (h1 : w1.heap[b]? = some (.cells #[x, v] T fr)) (hg : w1.grownBy w2 v.ownBlock) (hne : v.ownBlock ≠ some b) : KeepsT b w w2 := by
  have e1 : rowOf b w1 = v.ownBlock := rowOf_eq h1
  have e0 : rowOf b w = v.ownBlock := (rowOf_same (h.block b hb)).symm.trans e1
  refine ⟨Nat.le_trans h.size hg.size, fun k hk hkb hr => (hg.block k (Nat.lt_of_lt_of_le hk h.size) (fun e => hr (e0.trans e.symm))).trans (h.block k hk), .inl ?_⟩
  rw [rowOf_same (hg.block b (Nat.lt_of_lt_of_le hb h.size) (fun e => hne e.symm)), e1, e0]
theorem KeepsT.act {b : Nat} {w w1 w2 : World} {x v v' : Value} {T : TypeId} {fr : Nat × Nat} (hb : b < w.heap.size) (h : Below w.heap.size w w1) (h1 : w1.heap[b]? = some (.cells #[x, v] T fr)) (hg : w1.grownBy w2 v.ownBlock) (hne : v.ownBlock ≠ some b)
    (hv : v'.ownBlock = v.ownBlock ∨ ∀ g, v'.ownBlock = some g → w.heap.size ≤ g) : KeepsT b w (w2.setCell ⟨b, 1, none⟩ v') := by
  have h2 : w2.heap[b]? = _ := (hg.block b (Nat.lt_of_lt_of_le hb h.size) (fun e => hne e.symm)).trans h1
  have hset : w2.setCell ⟨b, 1, none⟩ v' = w2.setRow b #[x, v'] := setCell_eq_setRow w2 b 1 _ _ fr v' h2
  have h0 := KeepsT.act0 hb h h1 hg hne
  have e0 : rowOf b w = v.ownBlock := (rowOf_same (h.block b hb)).symm.trans (rowOf_eq h1)
  rw [hset]
  refine ⟨by rw [setRow_size]; exact h0.size, fun k hk hkb hr => by rw [setRow_other _ _ _ _ hkb]; exact h0.block k hk hkb hr, ?_⟩
  rw [rowOf_eq (setRow_heap w2 b _ _ T fr h2), e0]
  exact hv
theorem KeepsT.setRow {b g : Nat} {w w1 : World} (h : KeepsT b w w1) (hb : b < w.heap.size) (hg : w.heap.size ≤ g) (cs : Array Value) : KeepsT b w (w1.setRow g cs) :=
  ⟨by rw [setRow_size]; exact h.size, fun k hk hkb hr => by rw [setRow_other _ _ _ _ (by omega)]; exact h.block k hk hkb hr, by rw [rowOf_same (setRow_other _ _ _ _ (by omega))]; exact h.row⟩
theorem own_ne {w : World} {B : Nat} {e T : TypeId} {sz : Nat} {v : Value} {n : Nat} {xs : List Value} {b : Nat} {cs : Array Value} {fr : Nat × Nat} (hown : w.ownsRow B e sz v n xs) (hb : w.heap[b]? = some (.cells cs T fr)) (hTe : T ≠ e) : v.ownBlock ≠ some b := by
  rcases hown.2 with ⟨rfl, _⟩ | ⟨g, cap, cur, rfl, _, hg, _⟩
  · simp [Value.ownBlock]
  · intro h
    simp only [Value.ownBlock, Option.some.injEq] at h
    rw [h, hb] at hg
    simp only [Option.some.injEq, Obj.cells.injEq] at hg
    exact hTe hg.2.1
theorem IsTab.below {base b : Nat} {most : Int} {l : List Sn} {w w' : World} (h : IsTab base b most l w) (hb : Below w.heap.size w w') : IsTab base b most l w' := by
  obtain ⟨h0, v, h1, h2⟩ := h
  exact ⟨h0, v, by rw [hb.block b (Array.getElem?_eq_some_iff.1 h1).1]; exact h1, owns_below h2 hb⟩
theorem IsTab.drew {base b : Nat} {most : Int} {l : List Sn} {w : World} (h : IsTab base b most l w) : IsTab base b most l w.drew := h
theorem IsTab.lt {base b : Nat} {most : Int} {l : List Sn} {w : World} (h : IsTab base b most l w) : b < w.heap.size := by
  obtain ⟨_, v, h1, _⟩ := h
  exact (Array.getElem?_eq_some_iff.1 h1).1
theorem IsTab.row_lt {base b : Nat} {most : Int} {l : List Sn} {w : World} (h : IsTab base b most l w) : ∀ g, rowOf b w = some g → g < w.heap.size := by
  obtain ⟨_, v, h1, h2⟩ := h
  intro g hg
  rw [rowOf_eq h1] at hg
  rcases h2.2 with ⟨h, _⟩ | ⟨g', _, _, h, _, hh, _⟩
  · rw [h] at hg; cases hg
  · rw [h] at hg
    simp only [Value.ownBlock, Option.some.injEq] at hg
    subst hg
    exact (Array.getElem?_eq_some_iff.1 hh).1
theorem KeepsT.old {b k : Nat} {w w' : World} (h : KeepsT b w w') (hk : k < w.heap.size) (hr : rowOf b w ≠ some k) : rowOf b w' ≠ some k := fun e => by
  rcases h.row with h1 | h1
  · exact hr (h1.symm.trans e)
  · exact absurd (h1 k e) (by omega)
theorem tab_ne : 74 ≠ 36 := by decide

/-- a block of another type than what was sent is none of the table's row -/
theorem KeepsT.ty {base b : Nat} {most : Int} {l : List Sn} {w w' : World} (hk : KeepsT b w w') (hT : IsTab base b most l w) {k : Nat} {cs : Array Value} {T : TypeId} {fr : Nat × Nat} (hne : k ≠ b) (hTy : T ≠ 36) (h : w.heap[k]? = some (.cells cs T fr)) : w'.heap[k]? = some (.cells cs T fr) := by
  obtain ⟨_, v, h1, h2⟩ := hT
  rw [hk.block k (Array.getElem?_eq_some_iff.1 h).1 hne (by rw [rowOf_eq h1]; exact own_ne h2 h hTy)]; exact h
theorem New_any (base : Nat) (m : Int) (w : World) (hb : base ≤ w.heap.size) : Calls Try.prog 9 #[.int .i64 m] w fun e w' =>
    e = .returned (.pointer (some ⟨w.heap.size, 0, none⟩)) ∧ IsTab base w.heap.size (max m 0) [] w' ∧ Below w.heap.size w w' ∧ w.heap.size < w'.heap.size := by
  go_enter Try.func9, Try.ntmps9
  go_wp2_with fail
  go_ret
  refine ⟨rfl, ⟨hb, .slice none 0 0, ?_, by simp [encN], .inl ⟨rfl, rfl⟩⟩, (Below.refl _ w).alloc (Nat.le_refl _) _, by simp⟩
  exact heap_alloc_new _ _
theorem place_any (base b : Nat) (most : Int) (l : List Sn) (t : Int) (w : World) (hT : IsTab base b most l w) (hup : JobsUp l) (hn : l.length ≤ 1099511627776) :
    Calls Try.prog 27 #[.pointer (some ⟨b, 0, none⟩), .int .i64 t] w fun e w' =>
      e = .returned (.tuple #[.int .i64 (posN l t), .bool (hasN l t)]) ∧ Below w.heap.size w w' := by
  obtain ⟨hbb, v, hb, ho⟩ := hT
  have hs := SlC.of_owns ho
  obtain ⟨a, cap, rfl, hnc, hcm⟩ := hs.slice
  have c1 : w.cell? ⟨b, 1, none⟩ = some (.slice a l.length cap) := by simp [World.cell?, hb]
  have hc : Calls Try.prog 37 #[.slice a l.length cap, .int .i64 t, .func (.func 38) #[] #[]] w fun e w' => e = .returned (.tuple #[.int .i64 (posN l t), .bool (hasN l t)]) ∧ Below w.heap.size w w' :=
    (search_any a cap l t w hs hn hup).mono fun e w' ⟨k, hk, he, hx⟩ => by
      obtain rfl := pos_eq l t k hk
      exact ⟨he, hx⟩
  have HC := Go.Lib.hid hc
  clear hc
  clear hs hb ho hup
  go_enter Try.func27, Try.ntmps27
  go_wp2_with fail
  refine HC.out.mono ?_; rintro e wb ⟨rfl, hx⟩
  have HX := Go.Lib.hid hx
  clear hx
  go_wp2_with fail
  go_ret2
  exact ⟨rfl, HX.out⟩
theorem Len_any (base b : Nat) (most : Int) (l : List Sn) (w : World) (hT : IsTab base b most l w) :
    Calls Try.prog 24 #[.pointer (some ⟨b, 0, none⟩)] w fun e w' => e = .returned (.int .i64 l.length) ∧ w = w' := by
  obtain ⟨hbb, v, hb, ho⟩ := hT
  obtain ⟨a, cap, rfl, hnc, hcm⟩ := (SlC.of_owns ho).slice
  have c1 : w.cell? ⟨b, 1, none⟩ = some (.slice a l.length cap) := by simp [World.cell?, hb]
  clear hb ho
  go_enter Try.func24, Try.ntmps24
  go_wp2_with fail
  go_ret
  exact ⟨rfl, rfl⟩
theorem Len_nil (w : World) : Calls Try.prog 24 #[.pointer none] w fun e w' => e = .returned (.int .i64 0) ∧ w = w' := by
  go_enter Try.func24, Try.ntmps24
  go_wp2_with fail
  go_ret
  exact ⟨rfl, rfl⟩
end Go.Proofs.Ytblbphnmflbepaa

