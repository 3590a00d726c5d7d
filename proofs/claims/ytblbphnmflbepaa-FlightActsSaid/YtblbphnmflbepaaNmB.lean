/- Plain law of names' texts: what a name is joined of, how it is written, how it is read. Lists alone; no program in sight. -/
import Derived.Test.YtblbphnmflbepaaNm
namespace Go.Nm

def goodB (ls : List Bytes) : Bool := ls.all fun l => decide (1 ≤ l.length) && decide (l.length ≤ 63)
theorem goodB_iff {ls : List Bytes} : goodB ls = true ↔ GoodL ls := by
  unfold goodB GoodL
  simp
def joinN (ls : List Bytes) : Option Bytes := if goodB ls && decide ((wire ls).length ≤ 255) then some (wire ls) else none

theorem joinN_some {ls : List Bytes} {n : Bytes} : joinN ls = some n ↔ n = wire ls ∧ GoodL ls ∧ (wire ls).length ≤ 255 := by
  unfold joinN
  by_cases h : (goodB ls && decide ((wire ls).length ≤ 255)) = true
  · rw [if_pos h]
    rw [Bool.and_eq_true, decide_eq_true_iff, goodB_iff] at h
    simp [h, eq_comm]
  · rw [if_neg h]
    rw [Bool.and_eq_true, decide_eq_true_iff, goodB_iff] at h
    simp only [reduceCtorEq, false_iff]
    rintro ⟨_, h1, h2⟩
    exact h ⟨h1, h2⟩
theorem joinN_labs {s : Bytes} (h : valid s = true) : joinN (labs s) = some s := by
  obtain ⟨h1, h2, h3⟩ := labs_valid h
  exact joinN_some.2 ⟨h1, h2, by rw [← h1]; exact h3⟩
theorem joinN_valid {ls : List Bytes} {n : Bytes} (h : joinN ls = some n) : valid n = true ∧ labs n = ls := by
  obtain ⟨rfl, h2, h3⟩ := joinN_some.1 h
  exact ⟨valid_wire h2 h3, labs_of_wire h2 h3⟩

/-! ### texts -/
def signB (c : UInt8) : Bytes :=
  if c.toNat = 46 ∨ c.toNat = 92 then [92, c]
  else if c.toNat < 33 ∨ 126 < c.toNat then [92, 48 + c / 100, 48 + c / 10 % 10, 48 + c % 10]
  else [c]
def textL (ls : List Bytes) : Bytes := ls.flatMap fun l => l.flatMap signB ++ [46]
def textN (s : Bytes) : Bytes := if s = [0] then [46] else textL (labs s)

theorem signB_length (c : UInt8) : (signB c).length ≤ 4 ∧ 1 ≤ (signB c).length := by
  unfold signB
  split
  · simp
  · split <;> simp

/-! ### read -/
def dig (c : UInt8) : Bool := decide (48 ≤ c.toNat) && decide (c.toNat ≤ 57)
def dig3 : Bytes → Option UInt8
  | a :: b :: c :: _ => if dig a && dig b && dig c then some (UInt8.ofNat (100 * (a.toNat - 48) + 10 * (b.toNat - 48) + (c.toNat - 48))) else none
  | _ => none
/-- the byte that a text begins with, and how long it is -/
def takeB : Bytes → UInt8 × Nat
  | [] => (0, 1)
  | [c] => (c, 1)
  | c :: d :: r => if c.toNat = 92 then (if dig d then ((dig3 (d :: r)).getD 0, min 4 (r.length + 2)) else (d, 2)) else (c, 1)
def takeR : Bytes → UInt8 × Nat
  | [] => (0, 1)
  | [c] => (c, 1)
  | c :: d :: r => if c.toNat = 92 then (match dig3 (d :: r) with | some v => (v, 4) | none => (d, 2)) else (c, 1)

def cand (tk : Bytes → UInt8 × Nat) : Nat → List Bytes → Bytes → Bytes → List Bytes
  | 0, l, _, _ => l
  | _ + 1, l, _, [] => l
  | n + 1, l, now, c :: r => if c.toNat = 46 then cand tk n (l ++ [now]) [] r else cand tk n l (now ++ [(tk (c :: r)).1]) ((c :: r).drop (tk (c :: r)).2)
def candOf (tk : Bytes → UInt8 × Nat) (l : List Bytes) (now rest : Bytes) : List Bytes := cand tk (rest.length + 1) l now rest
def parseW (tk : Bytes → UInt8 × Nat) (s : Bytes) : Option Bytes :=
  if s = [46] then some [0] else (joinN (candOf tk [] [] s)).bind fun n => if textN n = s then some n else none
def parseN (s : Bytes) : Option Bytes := parseW takeB s

def TakeOk (tk : Bytes → UInt8 × Nat) : Prop := (∀ c r, 1 ≤ (tk (c :: r)).2 ∧ (tk (c :: r)).2 ≤ r.length + 1) ∧ ∀ c r, tk (signB c ++ r) = (c, (signB c).length)

theorem cand_fuel {tk : Bytes → UInt8 × Nat} (h : ∀ c r, 1 ≤ (tk (c :: r)).2) : ∀ (n m : Nat) (l : List Bytes) (now rest : Bytes), rest.length < n → rest.length < m → cand tk n l now rest = cand tk m l now rest
  | 0, _, _, _, _, hn, _ => by omega
  | _ + 1, 0, _, _, _, _, hm => by omega
  | n + 1, m + 1, l, now, [], _, _ => rfl
  | n + 1, m + 1, l, now, c :: r, hn, hm => by
    simp only [List.length_cons] at hn hm
    unfold cand
    split
    · exact cand_fuel h n m _ _ _ (by omega) (by omega)
    · have := h c r
      refine cand_fuel h n m _ _ _ ?_ ?_ <;> (rw [List.length_drop, List.length_cons]; omega)
theorem candOf_nil (tk : Bytes → UInt8 × Nat) (l : List Bytes) (now : Bytes) : candOf tk l now [] = l := rfl
theorem candOf_dot {tk : Bytes → UInt8 × Nat} (l : List Bytes) (now : Bytes) {c : UInt8} (r : Bytes) (hc : c.toNat = 46) : candOf tk l now (c :: r) = candOf tk (l ++ [now]) [] r := by
  unfold candOf
  rw [List.length_cons]
  conv => lhs; unfold cand
  rw [if_pos hc]
theorem candOf_take {tk : Bytes → UInt8 × Nat} (h : ∀ c r, 1 ≤ (tk (c :: r)).2) (l : List Bytes) (now : Bytes) {c : UInt8} (r : Bytes) (hc : ¬ c.toNat = 46) :
    candOf tk l now (c :: r) = candOf tk l (now ++ [(tk (c :: r)).1]) ((c :: r).drop (tk (c :: r)).2) := by
  unfold candOf
  conv => lhs; unfold cand
  rw [if_neg hc]
  have := h c r
  exact cand_fuel h _ _ _ _ _ (by rw [List.length_drop, List.length_cons]; omega) (by omega)

theorem takeB_pos (c : UInt8) (r : Bytes) : 1 ≤ (takeB (c :: r)).2 ∧ (takeB (c :: r)).2 ≤ r.length + 1 := by
  cases r with
  | nil => simp [takeB]
  | cons d r =>
    simp only [takeB]
    split
    · split
      · simp; omega
      · simp
    · simp
theorem takeR_pos (c : UInt8) (r : Bytes) : 1 ≤ (takeR (c :: r)).2 ∧ (takeR (c :: r)).2 ≤ r.length + 1 := by
  cases r with
  | nil => simp [takeR]
  | cons d r =>
    simp only [takeR]
    split
    · split
      · rename_i v hv
        match r, hv with
        | [], hv => simp [dig3] at hv
        | [_], hv => simp [dig3] at hv
        | _ :: _ :: _, _ => simp
      · simp
    · simp

theorem u8_46 {c : UInt8} : c.toNat = 46 ↔ c = 46 := by rw [← UInt8.toNat_inj]; rfl
theorem dig3_sign (c : UInt8) (r : Bytes) : dig (48 + c / 100) = true ∧ dig3 ((48 + c / 100) :: (48 + c / 10 % 10) :: (48 + c % 10) :: r) = some c := by
  have h := c.toNat_lt
  have h1 : (48 + c / 100).toNat = 48 + c.toNat / 100 := by
    rw [UInt8.toNat_add, UInt8.toNat_div]; simp; omega
  have h2 : (48 + c / 10 % 10).toNat = 48 + c.toNat / 10 % 10 := by
    rw [UInt8.toNat_add, UInt8.toNat_mod, UInt8.toNat_div]; simp; omega
  have h3 : (48 + c % 10).toNat = 48 + c.toNat % 10 := by
    rw [UInt8.toNat_add, UInt8.toNat_mod]; simp; omega
  have d1 : dig (48 + c / 100) = true := by unfold dig; rw [h1]; simp; omega
  have d2 : dig (48 + c / 10 % 10) = true := by unfold dig; rw [h2]; simp; omega
  have d3 : dig (48 + c % 10) = true := by unfold dig; rw [h3]; simp; omega
  refine ⟨d1, ?_⟩
  simp only [dig3]
  rw [d1, d2, d3, h1, h2, h3]
  simp only [Bool.and_self, if_true, Option.some.injEq]
  rw [← UInt8.toNat_inj]
  have e : ∀ k, (UInt8.ofNat k).toNat = k % 256 := fun k => by simp
  rw [e]
  clear h1 h2 h3 d1 d2 d3
  have e2 : c.toNat / 100 = c.toNat / 10 / 10 := by rw [Nat.div_div_eq_div_mul]
  omega

theorem takeOk_B : TakeOk takeB := by
  refine ⟨takeB_pos, fun c r => ?_⟩
  unfold signB
  by_cases h1 : c.toNat = 46 ∨ c.toNat = 92
  · rw [if_pos h1]
    have : dig c = false := by unfold dig; rcases h1 with h | h <;> rw [h] <;> rfl
    simp [takeB, this]
  · rw [if_neg h1]
    by_cases h2 : c.toNat < 33 ∨ 126 < c.toNat
    · rw [if_pos h2]
      obtain ⟨d1, d2⟩ := dig3_sign c r
      simp [takeB, d1, d2]
    · rw [if_neg h2]
      have : ¬ c.toNat = 92 := fun e => h1 (.inr e)
      cases r <;> simp [takeB, this]
theorem takeOk_R : TakeOk takeR := by
  refine ⟨takeR_pos, fun c r => ?_⟩
  unfold signB
  by_cases h1 : c.toNat = 46 ∨ c.toNat = 92
  · rw [if_pos h1]
    have : dig c = false := by unfold dig; rcases h1 with h | h <;> rw [h] <;> rfl
    have h3 : dig3 (c :: r) = none := by
      match r with
      | [] => rfl
      | [_] => rfl
      | _ :: _ :: _ => simp [dig3, this]
    simp [takeR, h3]
  · rw [if_neg h1]
    by_cases h2 : c.toNat < 33 ∨ 126 < c.toNat
    · rw [if_pos h2]
      obtain ⟨d1, d2⟩ := dig3_sign c r
      simp [takeR, d2]
    · rw [if_neg h2]
      have : ¬ c.toNat = 92 := fun e => h1 (.inr e)
      cases r <;> simp [takeR, this]

theorem signB_head (c : UInt8) : ∃ d r, signB c = d :: r ∧ d.toNat ≠ 46 := by
  unfold signB
  by_cases h1 : c.toNat = 46 ∨ c.toNat = 92
  · rw [if_pos h1]; exact ⟨_, _, rfl, by decide⟩
  · rw [if_neg h1]
    by_cases h2 : c.toNat < 33 ∨ 126 < c.toNat
    · rw [if_pos h2]; exact ⟨_, _, rfl, by decide⟩
    · rw [if_neg h2]; exact ⟨_, _, rfl, fun e => h1 (.inl e)⟩

theorem candOf_signs {tk : Bytes → UInt8 × Nat} (h : TakeOk tk) (ls : List Bytes) (rest : Bytes) : ∀ (l now : Bytes), candOf tk ls now (l.flatMap signB ++ rest) = candOf tk ls (now ++ l) rest
  | [], now => by simp
  | c :: l, now => by
    obtain ⟨d, r, hs, hd⟩ := signB_head c
    have ht := h.2 c (l.flatMap signB ++ rest)
    have e : (c :: l).flatMap signB ++ rest = signB c ++ (l.flatMap signB ++ rest) := by simp
    rw [e]
    have e2 : signB c ++ (l.flatMap signB ++ rest) = d :: (r ++ (l.flatMap signB ++ rest)) := by rw [hs]; rfl
    rw [e2, candOf_take (fun c r => (h.1 c r).1) ls now _ hd, ← e2, ht]
    simp only [List.drop_left]
    rw [candOf_signs h ls rest l (now ++ [c])]
    simp

theorem candOf_text {tk : Bytes → UInt8 × Nat} (h : TakeOk tk) (rest : Bytes) : ∀ (ls done : List Bytes), candOf tk done [] (textL ls ++ rest) = candOf tk (done ++ ls) [] rest
  | [], done => by simp [textL]
  | l :: ls, done => by
    have e : textL (l :: ls) ++ rest = l.flatMap signB ++ (46 :: (textL ls ++ rest)) := by simp [textL]
    rw [e, candOf_signs h done _ l [], candOf_dot _ _ _ (by rfl), candOf_text h rest ls]
    simp

theorem cand_textL {tk : Bytes → UInt8 × Nat} (h : TakeOk tk) (ls : List Bytes) : candOf tk [] [] (textL ls) = ls := by
  have := candOf_text h [] ls []
  simpa [candOf_nil] using this

theorem textL_nil : textL [] = [] := rfl
theorem textL_ne_dot (ls : List Bytes) (hg : GoodL ls) : textL ls ≠ [46] := by
  cases ls with
  | nil => simp [textL]
  | cons l ls =>
    intro h
    obtain ⟨⟨h1, _⟩, _⟩ := good_cons.1 hg
    cases l with
    | nil => simp at h1
    | cons c l =>
      obtain ⟨d, r, hs, hd⟩ := signB_head c
      simp only [textL, List.flatMap_cons, hs, List.cons_append, List.cons.injEq] at h
      exact hd (by rw [h.1]; rfl)

/-- what a text is read as: the name whose text it is -/
theorem parseW_eq {tk : Bytes → UInt8 × Nat} (h : TakeOk tk) {s n : Bytes} : parseW tk s = some n ↔ valid n = true ∧ textN n = s := by
  unfold parseW
  by_cases hs : s = [46]
  · rw [if_pos hs]
    constructor
    · intro e
      simp only [Option.some.injEq] at e
      subst e
      exact ⟨by decide, by rw [hs]; rfl⟩
    · rintro ⟨hv, ht⟩
      by_cases hn : n = [0]
      · rw [hn]
      · exfalso
        rw [hs] at ht
        unfold textN at ht
        rw [if_neg hn] at ht
        exact textL_ne_dot _ (labs_valid hv).2.1 ht
  · rw [if_neg hs]
    constructor
    · intro e
      obtain ⟨m, hj, he⟩ := Option.bind_eq_some_iff.1 e
      split at he
      · rename_i ht
        simp only [Option.some.injEq] at he
        subst he
        exact ⟨(joinN_valid hj).1, ht⟩
      · cases he
    · rintro ⟨hv, ht⟩
      have hn : n ≠ [0] := by
        rintro rfl
        exact hs (by rw [← ht]; rfl)
      have ht2 : textL (labs n) = s := by unfold textN at ht; rw [if_neg hn] at ht; exact ht
      rw [← ht2, cand_textL h, joinN_labs hv, Option.bind_some]
      rw [ht2, if_pos ht]

theorem parseW_same {tk tk' : Bytes → UInt8 × Nat} (h : TakeOk tk) (h' : TakeOk tk') (s : Bytes) : parseW tk s = parseW tk' s := by
  apply Option.ext
  intro n
  rw [parseW_eq h, parseW_eq h']

theorem commonL_stop {ls b : List Bytes} (h : endsIn b (ls.map foldB) = true) : commonL ls b = ls := by
  cases ls with
  | nil => rfl
  | cons l t => unfold commonL; rw [if_pos h]
theorem commonL_go {ls b : List Bytes} (h : endsIn b (ls.map foldB) = false) : ls ≠ [] ∧ commonL ls b = commonL ls.tail b := by
  cases ls with
  | nil => simp [endsIn_nil] at h
  | cons l t => exact ⟨by simp, by rw [commonL, if_neg (by rw [h]; simp)]; rfl⟩
end Go.Nm
