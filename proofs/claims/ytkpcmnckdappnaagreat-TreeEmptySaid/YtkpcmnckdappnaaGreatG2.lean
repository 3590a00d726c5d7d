/- Merged texts of the seat, in their order: NmB, NmC, NmD, NmE, Rc, RecA, Seq, SeqP, RecB, OrdI, RecC, RecD. -/
import Derived.Test.YtkpcmnckdappnaaGreatG1
import Derived.RangeFuncBox
import Derived.RangeFuncNested
import Derived.RangeFuncBound
import Derived.RangeFuncCalls
import Derived.RangeFuncLeaves
import Derived.Shelf.Abstract
import Derived.WalkKit
import Derived.OwnWalkIn
import Derived.TacticsInMore
import Derived.LoopNIn
import Derived.LoopIn
import Derived.Maps.AppendAt
import Derived.OrdersIn
import Derived.TacticsIn
/- Plain law of names' texts: what a name is joined of, how it is written, how it is read. Lists alone; no program in sight. -/
namespace Go.Nm

def goodB (ls : List Bytes) : Bool := ls.all fun l => decide (1 ≤ l.length) && decide (l.length ≤ 63)
theorem goodB_iff {ls : List Bytes} : goodB ls = true ↔ GoodL ls := by
  unfold goodB GoodL
  simp
def joinN (ls : List Bytes) : Option Bytes := if goodB ls && decide ((wire ls).length ≤ 255) then some (wire ls) else none

theorem joinN_some {ls : List Bytes} {n : Bytes} : joinN ls = some n ↔ n = wire ls ∧ GoodL ls ∧ (wire ls).length ≤ 255 := by
  unfold joinN
  by_cases h : (goodB ls && decide ((wire ls).length ≤ 255)) = true
  · rw [if_pos h]
    rw [Bool.and_eq_true, decide_eq_true_iff, goodB_iff] at h
    simp [h, eq_comm]
  · rw [if_neg h]
    rw [Bool.and_eq_true, decide_eq_true_iff, goodB_iff] at h
    simp only [reduceCtorEq, false_iff]
    rintro ⟨_, h1, h2⟩
    exact h ⟨h1, h2⟩
theorem joinN_labs {s : Bytes} (h : valid s = true) : joinN (labs s) = some s := by
  obtain ⟨h1, h2, h3⟩ := labs_valid h
  exact joinN_some.2 ⟨h1, h2, by rw [← h1]; exact h3⟩
theorem joinN_valid {ls : List Bytes} {n : Bytes} (h : joinN ls = some n) : valid n = true ∧ labs n = ls := by
  obtain ⟨rfl, h2, h3⟩ := joinN_some.1 h
  exact ⟨valid_wire h2 h3, labs_of_wire h2 h3⟩

/-! ### texts -/
def signB (c : UInt8) : Bytes :=
  if c.toNat = 46 ∨ c.toNat = 92 then [92, c]
  else if c.toNat < 33 ∨ 126 < c.toNat then [92, 48 + c / 100, 48 + c / 10 % 10, 48 + c % 10]
  else [c]
def textL (ls : List Bytes) : Bytes := ls.flatMap fun l => l.flatMap signB ++ [46]
def textN (s : Bytes) : Bytes := if s = [0] then [46] else textL (labs s)

theorem signB_length (c : UInt8) : (signB c).length ≤ 4 ∧ 1 ≤ (signB c).length := by
  unfold signB
  split
  · simp
  · split <;> simp

/-! ### read -/
def dig (c : UInt8) : Bool := decide (48 ≤ c.toNat) && decide (c.toNat ≤ 57)
def dig3 : Bytes → Option UInt8
  | a :: b :: c :: _ => if dig a && dig b && dig c then some (UInt8.ofNat (100 * (a.toNat - 48) + 10 * (b.toNat - 48) + (c.toNat - 48))) else none
  | _ => none
/-- the byte that a text begins with, and how long it is -/
def takeB : Bytes → UInt8 × Nat
  | [] => (0, 1)
  | [c] => (c, 1)
  | c :: d :: r => if c.toNat = 92 then (if dig d then ((dig3 (d :: r)).getD 0, min 4 (r.length + 2)) else (d, 2)) else (c, 1)
def takeR : Bytes → UInt8 × Nat
  | [] => (0, 1)
  | [c] => (c, 1)
  | c :: d :: r => if c.toNat = 92 then (match dig3 (d :: r) with | some v => (v, 4) | none => (d, 2)) else (c, 1)

def cand (tk : Bytes → UInt8 × Nat) : Nat → List Bytes → Bytes → Bytes → List Bytes
  | 0, l, _, _ => l
  | _ + 1, l, _, [] => l
  | n + 1, l, now, c :: r => if c.toNat = 46 then cand tk n (l ++ [now]) [] r else cand tk n l (now ++ [(tk (c :: r)).1]) ((c :: r).drop (tk (c :: r)).2)
def candOf (tk : Bytes → UInt8 × Nat) (l : List Bytes) (now rest : Bytes) : List Bytes := cand tk (rest.length + 1) l now rest
def parseW (tk : Bytes → UInt8 × Nat) (s : Bytes) : Option Bytes :=
  if s = [46] then some [0] else (joinN (candOf tk [] [] s)).bind fun n => if textN n = s then some n else none
def parseN (s : Bytes) : Option Bytes := parseW takeB s

def TakeOk (tk : Bytes → UInt8 × Nat) : Prop := (∀ c r, 1 ≤ (tk (c :: r)).2 ∧ (tk (c :: r)).2 ≤ r.length + 1) ∧ ∀ c r, tk (signB c ++ r) = (c, (signB c).length)

theorem cand_fuel {tk : Bytes → UInt8 × Nat} (h : ∀ c r, 1 ≤ (tk (c :: r)).2) : ∀ (n m : Nat) (l : List Bytes) (now rest : Bytes), rest.length < n → rest.length < m → cand tk n l now rest = cand tk m l now rest
  | 0, _, _, _, _, hn, _ => by omega
  | _ + 1, 0, _, _, _, _, hm => by omega
  | n + 1, m + 1, l, now, [], _, _ => rfl
  | n + 1, m + 1, l, now, c :: r, hn, hm => by
    simp only [List.length_cons] at hn hm
    unfold cand
    split
    · exact cand_fuel h n m _ _ _ (by omega) (by omega)
    · have := h c r
      refine cand_fuel h n m _ _ _ ?_ ?_ <;> (rw [List.length_drop, List.length_cons]; omega)
theorem candOf_nil (tk : Bytes → UInt8 × Nat) (l : List Bytes) (now : Bytes) : candOf tk l now [] = l := rfl
theorem candOf_dot {tk : Bytes → UInt8 × Nat} (l : List Bytes) (now : Bytes) {c : UInt8} (r : Bytes) (hc : c.toNat = 46) : candOf tk l now (c :: r) = candOf tk (l ++ [now]) [] r := by
  unfold candOf
  rw [List.length_cons]
  conv => lhs; unfold cand
  rw [if_pos hc]
theorem candOf_take {tk : Bytes → UInt8 × Nat} (h : ∀ c r, 1 ≤ (tk (c :: r)).2) (l : List Bytes) (now : Bytes) {c : UInt8} (r : Bytes) (hc : ¬ c.toNat = 46) :
    candOf tk l now (c :: r) = candOf tk l (now ++ [(tk (c :: r)).1]) ((c :: r).drop (tk (c :: r)).2) := by
  unfold candOf
  conv => lhs; unfold cand
  rw [if_neg hc]
  have := h c r
  exact cand_fuel h _ _ _ _ _ (by rw [List.length_drop, List.length_cons]; omega) (by omega)

theorem takeB_pos (c : UInt8) (r : Bytes) : 1 ≤ (takeB (c :: r)).2 ∧ (takeB (c :: r)).2 ≤ r.length + 1 := by
  cases r with
  | nil => simp [takeB]
  | cons d r =>
    simp only [takeB]
    split
    · split
      · simp; omega
      · simp
    · simp
theorem takeR_pos (c : UInt8) (r : Bytes) : 1 ≤ (takeR (c :: r)).2 ∧ (takeR (c :: r)).2 ≤ r.length + 1 := by
  cases r with
  | nil => simp [takeR]
  | cons d r =>
    simp only [takeR]
    split
    · split
      · rename_i v hv
        match r, hv with
        | [], hv => simp [dig3] at hv
        | [_], hv => simp [dig3] at hv
        | _ :: _ :: _, _ => simp
      · simp
    · simp

theorem u8_46 {c : UInt8} : c.toNat = 46 ↔ c = 46 := by rw [← UInt8.toNat_inj]; rfl
theorem dig3_sign (c : UInt8) (r : Bytes) : dig (48 + c / 100) = true ∧ dig3 ((48 + c / 100) :: (48 + c / 10 % 10) :: (48 + c % 10) :: r) = some c := by
  have h := c.toNat_lt
  have h1 : (48 + c / 100).toNat = 48 + c.toNat / 100 := by
    rw [UInt8.toNat_add, UInt8.toNat_div]; simp; omega
  have h2 : (48 + c / 10 % 10).toNat = 48 + c.toNat / 10 % 10 := by
    rw [UInt8.toNat_add, UInt8.toNat_mod, UInt8.toNat_div]; simp; omega
  have h3 : (48 + c % 10).toNat = 48 + c.toNat % 10 := by
    rw [UInt8.toNat_add, UInt8.toNat_mod]; simp; omega
  have d1 : dig (48 + c / 100) = true := by unfold dig; rw [h1]; simp; omega
  have d2 : dig (48 + c / 10 % 10) = true := by unfold dig; rw [h2]; simp; omega
  have d3 : dig (48 + c % 10) = true := by unfold dig; rw [h3]; simp; omega
  refine ⟨d1, ?_⟩
  simp only [dig3]
  rw [d1, d2, d3, h1, h2, h3]
  simp only [Bool.and_self, if_true, Option.some.injEq]
  rw [← UInt8.toNat_inj]
  have e : ∀ k, (UInt8.ofNat k).toNat = k % 256 := fun k => by simp
  rw [e]
  clear h1 h2 h3 d1 d2 d3
  have e2 : c.toNat / 100 = c.toNat / 10 / 10 := by rw [Nat.div_div_eq_div_mul]
  omega

theorem takeOk_B : TakeOk takeB := by
  refine ⟨takeB_pos, fun c r => ?_⟩
  unfold signB
  by_cases h1 : c.toNat = 46 ∨ c.toNat = 92
  · rw [if_pos h1]
    have : dig c = false := by unfold dig; rcases h1 with h | h <;> rw [h] <;> rfl
    simp [takeB, this]
  · rw [if_neg h1]
    by_cases h2 : c.toNat < 33 ∨ 126 < c.toNat
    · rw [if_pos h2]
      obtain ⟨d1, d2⟩ := dig3_sign c r
      simp [takeB, d1, d2]
    · rw [if_neg h2]
      have : ¬ c.toNat = 92 := fun e => h1 (.inr e)
      cases r <;> simp [takeB, this]
theorem takeOk_R : TakeOk takeR := by
  refine ⟨takeR_pos, fun c r => ?_⟩
  unfold signB
  by_cases h1 : c.toNat = 46 ∨ c.toNat = 92
  · rw [if_pos h1]
    have : dig c = false := by unfold dig; rcases h1 with h | h <;> rw [h] <;> rfl
    have h3 : dig3 (c :: r) = none := by
      match r with
      | [] => rfl
      | [_] => rfl
      | _ :: _ :: _ => simp [dig3, this]
    simp [takeR, h3]
  · rw [if_neg h1]
    by_cases h2 : c.toNat < 33 ∨ 126 < c.toNat
    · rw [if_pos h2]
      obtain ⟨d1, d2⟩ := dig3_sign c r
      simp [takeR, d2]
    · rw [if_neg h2]
      have : ¬ c.toNat = 92 := fun e => h1 (.inr e)
      cases r <;> simp [takeR, this]

theorem signB_head (c : UInt8) : ∃ d r, signB c = d :: r ∧ d.toNat ≠ 46 := by
  unfold signB
  by_cases h1 : c.toNat = 46 ∨ c.toNat = 92
  · rw [if_pos h1]; exact ⟨_, _, rfl, by decide⟩
  · rw [if_neg h1]
    by_cases h2 : c.toNat < 33 ∨ 126 < c.toNat
    · rw [if_pos h2]; exact ⟨_, _, rfl, by decide⟩
    · rw [if_neg h2]; exact ⟨_, _, rfl, fun e => h1 (.inl e)⟩

theorem candOf_signs {tk : Bytes → UInt8 × Nat} (h : TakeOk tk) (ls : List Bytes) (rest : Bytes) : ∀ (l now : Bytes), candOf tk ls now (l.flatMap signB ++ rest) = candOf tk ls (now ++ l) rest
  | [], now => by simp
  | c :: l, now => by
    obtain ⟨d, r, hs, hd⟩ := signB_head c
    have ht := h.2 c (l.flatMap signB ++ rest)
    have e : (c :: l).flatMap signB ++ rest = signB c ++ (l.flatMap signB ++ rest) := by simp
    rw [e]
    have e2 : signB c ++ (l.flatMap signB ++ rest) = d :: (r ++ (l.flatMap signB ++ rest)) := by rw [hs]; rfl
    rw [e2, candOf_take (fun c r => (h.1 c r).1) ls now _ hd, ← e2, ht]
    simp only [List.drop_left]
    rw [candOf_signs h ls rest l (now ++ [c])]
    simp

theorem candOf_text {tk : Bytes → UInt8 × Nat} (h : TakeOk tk) (rest : Bytes) : ∀ (ls done : List Bytes), candOf tk done [] (textL ls ++ rest) = candOf tk (done ++ ls) [] rest
  | [], done => by simp [textL]
  | l :: ls, done => by
    have e : textL (l :: ls) ++ rest = l.flatMap signB ++ (46 :: (textL ls ++ rest)) := by simp [textL]
    rw [e, candOf_signs h done _ l [], candOf_dot _ _ _ (by rfl), candOf_text h rest ls]
    simp

theorem cand_textL {tk : Bytes → UInt8 × Nat} (h : TakeOk tk) (ls : List Bytes) : candOf tk [] [] (textL ls) = ls := by
  have := candOf_text h [] ls []
  simpa [candOf_nil] using this

theorem textL_nil : textL [] = [] := rfl
theorem textL_ne_dot (ls : List Bytes) (hg : GoodL ls) : textL ls ≠ [46] := by
  cases ls with
  | nil => simp [textL]
  | cons l ls =>
    intro h
    obtain ⟨⟨h1, _⟩, _⟩ := good_cons.1 hg
    cases l with
    | nil => simp at h1
    | cons c l =>
      obtain ⟨d, r, hs, hd⟩ := signB_head c
      simp only [textL, List.flatMap_cons, hs, List.cons_append, List.cons.injEq] at h
      exact hd (by rw [h.1]; rfl)

/-- what a text is read as: the name whose text it is -/
theorem parseW_eq {tk : Bytes → UInt8 × Nat} (h : TakeOk tk) {s n : Bytes} : parseW tk s = some n ↔ valid n = true ∧ textN n = s := by
  unfold parseW
  by_cases hs : s = [46]
  · rw [if_pos hs]
    constructor
    · intro e
      simp only [Option.some.injEq] at e
      subst e
      exact ⟨by decide, by rw [hs]; rfl⟩
    · rintro ⟨hv, ht⟩
      by_cases hn : n = [0]
      · rw [hn]
      · exfalso
        rw [hs] at ht
        unfold textN at ht
        rw [if_neg hn] at ht
        exact textL_ne_dot _ (labs_valid hv).2.1 ht
  · rw [if_neg hs]
    constructor
    · intro e
      obtain ⟨m, hj, he⟩ := Option.bind_eq_some_iff.1 e
      split at he
      · rename_i ht
        simp only [Option.some.injEq] at he
        subst he
        exact ⟨(joinN_valid hj).1, ht⟩
      · cases he
    · rintro ⟨hv, ht⟩
      have hn : n ≠ [0] := by
        rintro rfl
        exact hs (by rw [← ht]; rfl)
      have ht2 : textL (labs n) = s := by unfold textN at ht; rw [if_neg hn] at ht; exact ht
      rw [← ht2, cand_textL h, joinN_labs hv, Option.bind_some]
      rw [ht2, if_pos ht]

theorem parseW_same {tk tk' : Bytes → UInt8 × Nat} (h : TakeOk tk) (h' : TakeOk tk') (s : Bytes) : parseW tk s = parseW tk' s := by
  apply Option.ext
  intro n
  rw [parseW_eq h, parseW_eq h']

theorem commonL_stop {ls b : List Bytes} (h : endsIn b (ls.map foldB) = true) : commonL ls b = ls := by
  cases ls with
  | nil => rfl
  | cons l t => unfold commonL; rw [if_pos h]
theorem commonL_go {ls b : List Bytes} (h : endsIn b (ls.map foldB) = false) : ls ≠ [] ∧ commonL ls b = commonL ls.tail b := by
  cases ls with
  | nil => simp [endsIn_nil] at h
  | cons l t => exact ⟨by simp, by rw [commonL, if_neg (by rw [h]; simp)]; rfl⟩
end Go.Nm

/- Plain law of names' order and of who is under whom. Lists alone; no program in sight. -/
namespace Go.Nm

theorem ltB_total : ∀ a b : Bytes, ltB a b = true ∨ a = b ∨ ltB b a = true
  | [], [] => .inr (.inl rfl)
  | [], _ :: _ => .inl rfl
  | _ :: _, [] => .inr (.inr rfl)
  | a :: x, b :: y => by
    rcases ltB_total x y with h | h | h
    · rcases Nat.lt_trichotomy a.toNat b.toNat with h1 | h1 | h1
      · exact .inl (by simp [ltB, UInt8.lt_iff_toNat_lt, h1])
      · exact .inl (by simp [ltB, UInt8.toNat_inj.1 h1, h])
      · exact .inr (.inr (by simp [ltB, UInt8.lt_iff_toNat_lt, h1]))
    · subst h
      rcases Nat.lt_trichotomy a.toNat b.toNat with h1 | h1 | h1
      · exact .inl (by simp [ltB, UInt8.lt_iff_toNat_lt, h1])
      · exact .inr (.inl (by rw [UInt8.toNat_inj.1 h1]))
      · exact .inr (.inr (by simp [ltB, UInt8.lt_iff_toNat_lt, h1]))
    · rcases Nat.lt_trichotomy a.toNat b.toNat with h1 | h1 | h1
      · exact .inl (by simp [ltB, UInt8.lt_iff_toNat_lt, h1])
      · exact .inr (.inr (by simp [ltB, UInt8.toNat_inj.1 h1, h]))
      · exact .inr (.inr (by simp [ltB, UInt8.lt_iff_toNat_lt, h1]))

theorem ltB_cons {a b : UInt8} {x y : Bytes} : ltB (a :: x) (b :: y) = true ↔ a.toNat < b.toNat ∨ (a = b ∧ ltB x y = true) := by
  simp [ltB, UInt8.lt_iff_toNat_lt]

theorem ltB_trans : ∀ {a b c : Bytes}, ltB a b = true → ltB b c = true → ltB a c = true
  | _, [], _, h, _ => by simp [ltB] at h
  | _, _ :: _, [], _, h => by simp [ltB] at h
  | [], _ :: _, _ :: _, _, _ => rfl
  | a :: x, b :: y, c :: z, h1, h2 => by
    rw [ltB_cons] at *
    rcases h1 with h1 | ⟨rfl, h1⟩
    · rcases h2 with h2 | ⟨rfl, h2⟩
      · exact .inl (by omega)
      · exact .inl h1
    · rcases h2 with h2 | ⟨rfl, h2⟩
      · exact .inl h2
      · exact .inr ⟨rfl, ltB_trans h1 h2⟩
theorem ltB_asymm {a b : Bytes} (h : ltB a b = true) : ltB b a = false := by
  cases h2 : ltB b a with
  | false => rfl
  | true =>
    have := ltB_trans h h2
    rw [ltB_irrefl] at this
    cases this

theorem lexL_irrefl : ∀ x : List Bytes, lexL x x = false
  | [] => lexL_nil_right _
  | a :: x => by rw [lexL_cons, if_pos rfl]; exact lexL_irrefl x
theorem lexL_total : ∀ x y : List Bytes, lexL x y = true ∨ x = y ∨ lexL y x = true
  | [], [] => .inr (.inl rfl)
  | [], b :: y => .inl (lexL_nil_cons b y)
  | a :: x, [] => .inr (.inr (lexL_nil_cons a x))
  | a :: x, b :: y => by
    by_cases h : a = b
    · subst h
      rcases lexL_total x y with h | h | h
      · exact .inl (by rw [lexL_cons, if_pos rfl]; exact h)
      · exact .inr (.inl (by rw [h]))
      · exact .inr (.inr (by rw [lexL_cons, if_pos rfl]; exact h))
    · rcases ltB_total a b with h1 | h1 | h1
      · exact .inl (by rw [lexL_cons, if_neg h]; exact h1)
      · exact absurd h1 h
      · exact .inr (.inr (by rw [lexL_cons, if_neg (fun e => h e.symm)]; exact h1))
theorem lexL_trans : ∀ {x y z : List Bytes}, lexL x y = true → lexL y z = true → lexL x z = true
  | x, [], _, h, _ => by rw [lexL_nil_right] at h; cases h
  | _, y :: ys, [], _, h => by rw [lexL_nil_right] at h; cases h
  | [], _ :: _, c :: z, _, _ => lexL_nil_cons c z
  | a :: x, b :: y, c :: z, h1, h2 => by
    rw [lexL_cons] at *
    by_cases hab : a = b
    · subst hab
      rw [if_pos rfl] at h1
      by_cases hac : a = c
      · subst hac
        rw [if_pos rfl] at h2 ⊢
        exact lexL_trans h1 h2
      · rw [if_neg hac] at h2 ⊢
        exact h2
    · rw [if_neg hab] at h1
      by_cases hbc : b = c
      · subst hbc
        rw [if_neg hab]
        exact h1
      · rw [if_neg hbc] at h2
        have h3 := ltB_trans h1 h2
        rw [if_neg (fun e => by rw [e, ltB_irrefl] at h3; cases h3)]
        exact h3
theorem lexL_asymm {x y : List Bytes} (h : lexL x y = true) : lexL y x = false := by
  cases h2 : lexL y x with
  | false => rfl
  | true =>
    have := lexL_trans h h2
    rw [lexL_irrefl] at this
    cases this
theorem lexL_prefix {x y : List Bytes} (hy : y ≠ []) : lexL x (x ++ y) = true := by
  induction x with
  | nil =>
    cases y with
    | nil => exact absurd rfl hy
    | cons b y => exact lexL_nil_cons b y
  | cons a x ih => rw [List.cons_append, lexL_cons, if_pos rfl]; exact ih

theorem endsIn_iff {a b : List Bytes} : endsIn a b = true ↔ ∃ p, a = p ++ b := by
  unfold endsIn
  rw [Bool.and_eq_true, decide_eq_true_iff, beq_iff_eq]
  constructor
  · rintro ⟨_, h⟩
    exact ⟨a.take (a.length - b.length), by conv => lhs; rw [← List.take_append_drop (a.length - b.length) a, h]⟩
  · rintro ⟨p, rfl⟩
    refine ⟨by simp, ?_⟩
    rw [List.length_append, show p.length + b.length - b.length = p.length by omega, List.drop_left]
theorem endsIn_refl (a : List Bytes) : endsIn a a = true := endsIn_iff.2 ⟨[], rfl⟩
theorem endsIn_trans {a b c : List Bytes} (h : endsIn a b = true) (h2 : endsIn b c = true) : endsIn a c = true := by
  obtain ⟨p, rfl⟩ := endsIn_iff.1 h
  obtain ⟨q, rfl⟩ := endsIn_iff.1 h2
  exact endsIn_iff.2 ⟨p ++ q, by simp⟩

/-! ### of names -/
theorem less_order {a b : Bytes} (ha : valid a = true) (hb : valid b = true) : lessN a b = lexL (orderF (labs a)) (orderF (labs b)) := by
  unfold lessN; rw [ha, hb]; rfl
theorem orderF_inj {x y : List Bytes} : orderF x = orderF y ↔ x.map foldB = y.map foldB := by
  unfold orderF; exact List.reverse_inj
theorem same_order {a b : Bytes} (ha : valid a = true) (hb : valid b = true) : sameN a b = true ↔ orderF (labs a) = orderF (labs b) := by
  rw [sameN_labs, ha, hb, orderF_inj]; simp
theorem under_order {a b : Bytes} (ha : valid a = true) (hb : valid b = true) : underN a b = endsIn ((labs a).map foldB) ((labs b).map foldB) := by
  unfold underN; rw [ha, hb]; rfl

/-- either ahead, or the same, or behind; and just one of them -/
theorem three {a b : Bytes} (ha : valid a = true) (hb : valid b = true) :
    (lessN a b = true ∧ lessN b a = false ∧ sameN a b = false) ∨ (lessN a b = false ∧ lessN b a = true ∧ sameN a b = false) ∨ (lessN a b = false ∧ lessN b a = false ∧ sameN a b = true) := by
  rw [less_order ha hb, less_order hb ha]
  have hs : ∀ h : orderF (labs a) ≠ orderF (labs b), sameN a b = false := fun h => by
    cases hx : sameN a b with
    | false => rfl
    | true => exact absurd ((same_order ha hb).1 hx) h
  rcases lexL_total (orderF (labs a)) (orderF (labs b)) with h | h | h
  · exact .inl ⟨h, lexL_asymm h, hs (fun e => by rw [e, lexL_irrefl] at h; cases h)⟩
  · exact .inr (.inr ⟨by rw [h]; exact lexL_irrefl _, by rw [h]; exact lexL_irrefl _, (same_order ha hb).2 h⟩)
  · exact .inr (.inl ⟨lexL_asymm h, h, hs (fun e => by rw [e, lexL_irrefl] at h; cases h)⟩)
theorem less_trans {a b c : Bytes} (ha : valid a = true) (hb : valid b = true) (hc : valid c = true) (h1 : lessN a b = true) (h2 : lessN b c = true) : lessN a c = true := by
  rw [less_order ha hb] at h1
  rw [less_order hb hc] at h2
  rw [less_order ha hc]
  exact lexL_trans h1 h2
theorem under_ahead {a b : Bytes} (ha : valid a = true) (hb : valid b = true) (h : underN a b = true) (hs : sameN a b = false) : lessN b a = true := by
  rw [under_order ha hb] at h
  obtain ⟨p, hp⟩ := endsIn_iff.1 h
  rw [less_order hb ha]
  unfold orderF
  rw [hp, List.reverse_append]
  refine lexL_prefix ?_
  intro e
  have hpe : p = [] := by simpa using e
  rw [hpe, List.nil_append] at hp
  have := (same_order ha hb).2 (orderF_inj.2 hp)
  rw [hs] at this
  cases this
theorem under_refl {a : Bytes} (ha : valid a = true) : underN a a = true := by rw [under_order ha ha]; exact endsIn_refl _
theorem valid_root : valid [0] = true := by decide
theorem labs_root : labs [0] = [] := rfl
theorem under_root {a : Bytes} (ha : valid a = true) : underN a [0] = true := by rw [under_order ha valid_root, labs_root]; exact endsIn_nil _
theorem under_trans {a b c : Bytes} (ha : valid a = true) (hb : valid b = true) (hc : valid c = true) (h1 : underN a b = true) (h2 : underN b c = true) : underN a c = true := by
  rw [under_order ha hb] at h1
  rw [under_order hb hc] at h2
  rw [under_order ha hc]
  exact endsIn_trans h1 h2
end Go.Nm

/- Plain law of names and their parents: what a name and one that it is under have in common; the text read again. Lists alone; no program in sight. -/
namespace Go.Nm

theorem parse_text {n : Bytes} (h : valid n = true) : parseN (textN n) = some n := (parseW_eq takeOk_B).2 ⟨h, rfl⟩
theorem textN_length {n : Bytes} (h : valid n = true) : (textN n).length ≤ 65280 := by
  unfold textN
  split
  · simp
  · have hg := (labs_valid h).2.1
    have hl : (labs n).length ≤ 255 := by
      have h1 := wire_length_gt (labs n)
      rw [← (labs_valid h).1] at h1
      have := (labs_valid h).2.2
      omega
    have key : ∀ ls : List Bytes, GoodL ls → (textL ls).length ≤ 256 * ls.length := by
      intro ls
      induction ls with
      | nil => simp [textL]
      | cons l ls ih =>
        intro hg
        obtain ⟨⟨_, h2⟩, h3⟩ := good_cons.1 hg
        have := ih h3
        have h4 : ∀ l : Bytes, (l.flatMap signB).length ≤ 4 * l.length := by
          intro l
          induction l with
          | nil => simp
          | cons c l ih =>
            have := (signB_length c).1
            simp only [List.flatMap_cons, List.length_append, List.length_cons]
            omega
        have h5 := h4 l
        simp only [textL, List.flatMap_cons, List.length_append, List.length_cons, List.length_nil] at *
        omega
    have := key _ hg
    omega

/-- what a name and the one that is k steps up have in common is that one -/
theorem commonL_drop : ∀ (k : Nat) (ls : List Bytes), k ≤ ls.length → commonL ls ((ls.drop k).map foldB) = ls.drop k
  | 0, ls, _ => by
    refine commonL_stop ?_
    rw [List.drop_zero]
    exact endsIn_refl _
  | k + 1, [], h => by simp at h
  | k + 1, l :: ls, h => by
    have hno : endsIn ((ls.drop k).map foldB) ((l :: ls).map foldB) = false := by
      have : ¬ ((l :: ls).map foldB).length ≤ ((ls.drop k).map foldB).length := by
        simp; omega
      unfold endsIn
      rw [decide_eq_false this, Bool.false_and]
    rw [List.drop_succ_cons, (commonL_go hno).2]
    exact commonL_drop k ls (by simpa using h)

theorem parents_wire (k : Nat) {n : Bytes} (h : valid n = true) : parents k n = wire ((labs n).drop k) := by
  obtain ⟨h1, h2⟩ := parents_labs k h
  rw [(labs_valid h1).1, h2]
theorem common_parents {k : Nat} {n : Bytes} (h : valid n = true) (hk : k ≤ (labs n).length) : commonN n (parents k n) = parents k n := by
  obtain ⟨h1, h2⟩ := parents_labs k h
  unfold commonN
  rw [h, h1, h2, commonL_drop k _ hk, parents_wire k h]
  rfl
theorem under_up {k : Nat} {n : Bytes} (h : valid n = true) : underN n (parents k n) = true := by
  obtain ⟨h1, h2⟩ := parents_labs k h
  rw [under_order h h1, h2]
  exact endsIn_iff.2 ⟨((labs n).take k).map foldB, by rw [← List.map_append, List.take_append_drop]⟩
theorem parents_root {k : Nat} {n : Bytes} (h : valid n = true) (hk : (labs n).length ≤ k) : parents k n = [0] := by
  rw [parents_wire k h, List.drop_of_length_le hk]; rfl
theorem parents_not_root {k : Nat} {n : Bytes} (h : valid n = true) (hk : k < (labs n).length) : parents k n ≠ [0] := by
  rw [parents_wire k h, List.drop_eq_getElem_cons hk]
  exact wire_ne_root
theorem parent_root : parentN [0] = [0] := rfl
end Go.Nm

/- Plain laws of names for the statements on folding, on labels put ahead, on sizes, and on texts. Lists alone; no program in sight. -/
namespace Go.Nm

/-! ### folding -/
theorem low_low (c : UInt8) : low (low c) = low c := by
  unfold low
  split
  · have h : (c + 32).toNat = (c.toNat + 32) % 256 := by rw [UInt8.toNat_add]; rfl
    exact if_neg (by omega)
  · rfl
theorem foldB_foldB (s : Bytes) : foldB (foldB s) = foldB s := by simp [foldB, low_low]
theorem foldN_valid {s : Bytes} (h : valid s = true) : foldN s = foldB s := by unfold foldN; rw [if_pos h]
theorem foldN_foldB {s : Bytes} (h : valid s = true) : foldN (foldB s) = foldB s := by rw [foldN_valid (valid_foldB h).1, foldB_foldB]
theorem same_foldB {s : Bytes} (h : valid s = true) : sameN s (foldB s) = true := by simp [sameN, h, (valid_foldB h).1, foldB_foldB]
theorem root_of_labs {s : Bytes} (h : valid s = true) (hl : labs s = []) : s = [0] := by
  rw [(labs_valid h).1, hl]; rfl
theorem valid_set {s : Bytes} {l : Bytes} {ls : List Bytes} (h : valid s = true) (hl : labs s = l :: ls) (j : Nat) (hj : j < l.length) (c : UInt8) : valid (s.set (1 + j) c) = true := by
  obtain ⟨h1, h2, h3⟩ := labs_valid h
  rw [hl] at h1 h2
  obtain ⟨hg, hgs⟩ := good_cons.1 h2
  have e : s.set (1 + j) c = wire (l.set j c :: ls) := by
    rw [h1, wire_cons, wire_cons, Nat.add_comm, List.set_cons_succ, List.length_set, List.set_append_left _ _ hj]
  rw [e]
  refine valid_wire (good_cons.2 ⟨by rw [List.length_set]; exact hg, hgs⟩) ?_
  rw [← e, List.length_set]
  exact h3
theorem same_iff_fold {a b : Bytes} (ha : valid a = true) (hb : valid b = true) : sameN a b = (foldN b == foldB a) := by
  rw [foldN_valid hb]
  unfold sameN
  rw [ha, hb, Bool.and_self, Bool.true_and, Bool.eq_iff_iff, beq_iff_eq, beq_iff_eq]
  exact ⟨Eq.symm, Eq.symm⟩
theorem first_lt {s : Bytes} {l : Bytes} {ls : List Bytes} (h : valid s = true) (hl : labs s = l :: ls) : 1 + l.length < s.length ∧ 1 ≤ l.length ∧ l.length ≤ 63 := by
  obtain ⟨h1, h2, h3⟩ := labs_valid h
  rw [hl] at h1 h2
  obtain ⟨hg, _⟩ := good_cons.1 h2
  have := congrArg List.length h1
  rw [wire_cons] at this
  have h4 := wire_length_gt ls
  simp only [List.length_cons, List.length_append] at this
  exact ⟨by omega, hg⟩

/-! ### labels put ahead -/
theorem under_ahead_of {n o : Bytes} {more : List Bytes} (h : valid n = true) (ho : valid o = true) (hl : labs o = more ++ labs n) : underN o n = true := by
  rw [under_order ho h, hl]
  exact endsIn_iff.2 ⟨more.map foldB, by rw [List.map_append]⟩
theorem common_ahead {n o : Bytes} {more : List Bytes} (h : valid n = true) (ho : valid o = true) (hl : labs o = more ++ labs n) : commonN o n = n ∧ commonN n o = n := by
  have hw := (labs_valid h).1
  constructor
  · unfold commonN
    rw [h, ho, hl]
    have := commonL_drop more.length (more ++ labs n) (by simp)
    rw [List.drop_left] at this
    simp only [Bool.and_self, if_true]
    rw [this]
    exact hw.symm
  · unfold commonN
    rw [h, ho, hl]
    simp only [Bool.and_self, if_true]
    rw [commonL_stop]
    · exact hw.symm
    · exact endsIn_iff.2 ⟨more.map foldB, by rw [List.map_append]⟩
theorem back_ahead {n o : Bytes} {more : List Bytes} (h : valid n = true) (ho : valid o = true) (hl : labs o = more ++ labs n) : underN n o = decide (more = []) := by
  by_cases hm : more = []
  · subst hm
    rw [decide_eq_true rfl, under_order h ho, hl, List.nil_append]
    exact endsIn_refl _
  · rw [decide_eq_false hm]
    refine under_short ?_
    rw [hl, List.length_append]
    have := List.length_pos_iff.2 hm
    omega
theorem less_ahead {n o : Bytes} {more : List Bytes} (h : valid n = true) (ho : valid o = true) (hl : labs o = more ++ labs n) (hm : more ≠ []) : lessN n o = true := by
  refine under_ahead ho h (under_ahead_of h ho hl) ?_
  cases hs : sameN o n with
  | false => rfl
  | true =>
    have := orderF_inj.1 ((same_order ho h).1 hs)
    have := congrArg List.length this
    rw [hl] at this
    simp only [List.length_map, List.length_append] at this
    have := List.length_pos_iff.2 hm
    omega
theorem parent_ahead {n o : Bytes} {more : List Bytes} (h : valid n = true) (hl : labs o = more ++ labs n) (hm : more ≠ []) : underN (parentN o) n = true := by
  obtain ⟨x, m, rfl⟩ := List.exists_cons_of_ne_nil hm
  refine under_ahead_of (more := m) h valid_parent ?_
  rw [labs_parent, hl]
  rfl

/-! ### sizes -/
theorem wire_more {ls : List Bytes} (hg : GoodL ls) : valid (wire ls ++ [0]) = false := by
  cases hv : valid (wire ls ++ [0]) with
  | false => rfl
  | true =>
    obtain ⟨h1, h2, _⟩ := labs_valid hv
    have h3 : wire ls ++ [0] = wire (labs (wire ls ++ [0])) ++ [] := by rw [List.append_nil]; exact h1
    have := (wire_inj hg h2 h3).2
    cases this
theorem wire_less {ls : List Bytes} (hg : GoodL ls) : valid (pre ls) = false := by
  cases hv : valid (pre ls) with
  | false => rfl
  | true =>
    obtain ⟨h1, h2, _⟩ := labs_valid hv
    have h3 : wire (labs (pre ls)) ++ [0] = wire ls ++ [] := by rw [← h1, List.append_nil]; rfl
    have := (wire_inj h2 hg h3).2
    cases this
theorem wire_take {ls : List Bytes} : (wire ls).take ((wire ls).length - 1) = pre ls := by
  rw [wire_len]
  simp [wire]
theorem wire_snoc_length (ls : List Bytes) (l : Bytes) : (wire (ls ++ [l])).length = (wire ls).length + 1 + l.length := by
  simp only [wire, pre_append, pre, List.length_append, List.length_cons, List.length_nil]
  omega
theorem goodB_snoc (ls : List Bytes) (l : Bytes) : goodB (ls ++ [l]) = (goodB ls && (decide (1 ≤ l.length) && decide (l.length ≤ 63))) := by
  simp [goodB]
theorem joinN_no {ls : List Bytes} (h : (goodB ls && decide ((wire ls).length ≤ 255)) = false) : joinN ls = none := by
  unfold joinN
  rw [h]
  rfl
theorem joinN_yes {ls : List Bytes} (h : (goodB ls && decide ((wire ls).length ≤ 255)) = true) : joinN ls = some (wire ls) ∧ GoodL ls ∧ (wire ls).length ≤ 255 := by
  have h' := h
  rw [Bool.and_eq_true, decide_eq_true_eq] at h'
  refine ⟨?_, goodB_iff.1 h'.1, h'.2⟩
  unfold joinN
  rw [h]
  rfl

/-! ### texts -/
theorem textL_append (a b : List Bytes) : textL (a ++ b) = textL a ++ textL b := by simp [textL]
theorem good_rep {l : Bytes} (h1 : 1 ≤ l.length) (h2 : l.length ≤ 63) (n : Nat) : GoodL (List.replicate n l) := by
  intro x hx
  rw [List.eq_of_mem_replicate hx]
  exact ⟨h1, h2⟩
theorem wire_rep_length (l : Bytes) (n : Nat) : (wire (List.replicate n l)).length = n * (l.length + 1) + 1 := by
  induction n with
  | zero => simp [wire, pre]
  | succ n ih =>
    rw [List.replicate_succ', wire_snoc_length, ih, Nat.succ_mul]
    omega
theorem join_rep {l : Bytes} (h1 : 1 ≤ l.length) (h2 : l.length ≤ 40) {n : Nat} (hn : n ≤ 4) : joinN (List.replicate n l) = some (wire (List.replicate n l)) := by
  refine joinN_some.2 ⟨rfl, good_rep h1 (by omega) n, ?_⟩
  rw [wire_rep_length]
  have : n * (l.length + 1) ≤ 4 * (l.length + 1) := Nat.mul_le_mul_right _ hn
  omega
theorem text_rep {l : Bytes} (h1 : 1 ≤ l.length) (h2 : l.length ≤ 40) {n : Nat} (hp : 1 ≤ n) (hn : n ≤ 4) : textN (wire (List.replicate n l)) = textL (List.replicate n l) ∧ valid (wire (List.replicate n l)) = true := by
  have hj := joinN_valid (join_rep h1 h2 hn)
  refine ⟨?_, hj.1⟩
  obtain ⟨k, rfl⟩ : ∃ k, n = k + 1 := ⟨n - 1, by omega⟩
  unfold textN
  rw [if_neg (by rw [List.replicate_succ]; exact wire_ne_root), hj.2]
theorem parse_rep {l : Bytes} (h1 : 1 ≤ l.length) (h2 : l.length ≤ 40) {n : Nat} (hp : 1 ≤ n) (hn : n ≤ 4) : parseN (textL (List.replicate n l)) = some (wire (List.replicate n l)) :=
  (parseW_eq takeOk_B).2 ⟨(text_rep h1 h2 hp hn).2, (text_rep h1 h2 hp hn).1⟩
theorem textL_one (l : Bytes) : textL [l] = l.flatMap signB ++ [46] := by simp [textL]
theorem text_cut {l : Bytes} {n : Nat} : textL (List.replicate (n + 1) l) = (textL (List.replicate n l) ++ l.flatMap signB) ++ [46] := by
  rw [List.replicate_succ', textL_append, textL_one, List.append_assoc]
theorem signs_ne {l : Bytes} (h : l ≠ []) : l.flatMap signB ≠ [] := by
  obtain ⟨c, r, rfl⟩ := List.exists_cons_of_ne_nil h
  obtain ⟨d, q, hd, _⟩ := signB_head c
  rw [List.flatMap_cons, hd]
  simp
theorem parse_cut {l : Bytes} (h : l ≠ []) (ls : List Bytes) : parseN (textL ls ++ l.flatMap signB) = none := by
  cases hp : parseN (textL ls ++ l.flatMap signB) with
  | none => rfl
  | some n =>
    exfalso
    obtain ⟨hv, ht⟩ := (parseW_eq takeOk_B).1 hp
    have hc : candOf takeB [] [] (textL ls ++ l.flatMap signB) = ls := by
      rw [candOf_text takeOk_B, List.nil_append, ← List.append_nil (l.flatMap signB), candOf_signs takeOk_B, candOf_nil]
    rw [← ht] at hc
    unfold textN at ht hc
    split at ht
    · rename_i hr
      rw [if_pos hr] at hc
      have h0 : ls = [[]] := by rw [← hc]; rfl
      rw [h0] at ht
      have hne := signs_ne h
      have := congrArg List.length ht
      simp only [textL, List.flatMap_cons, List.flatMap_nil, List.nil_append, List.append_nil, List.length_append, List.length_cons, List.length_nil] at this
      have := List.length_pos_iff.2 hne
      omega
    · rename_i hr
      rw [if_neg hr, cand_textL takeOk_B] at hc
      rw [hc] at ht
      have := congrArg List.length ht
      rw [List.length_append] at this
      have := List.length_pos_iff.2 (signs_ne h)
      omega
end Go.Nm

/- Plain law of records: where names stand in data, what data may be, data with its names folded, and when two records are the same. Lists and numbers alone; no program in sight. -/
namespace Go.Rc
open Go.Nm (Bytes)

/-! ### a name that a text begins with -/
theorem lead_take {s : Bytes} {n : Nat} (h : Nm.lead s = some n) : Nm.valid (s.take n) = true := by
  unfold Nm.lead at h
  cases hu : Nm.unwire s with
  | none => rw [hu] at h; cases h
  | some p =>
    obtain ⟨ls, t⟩ := p
    rw [hu] at h
    simp only at h
    split at h
    · simp only [Option.some.injEq] at h
      obtain ⟨h1, h2⟩ := Nm.unwire_eq.1 hu
      rw [h1, ← h, List.take_left]
      exact Nm.valid_wire h2 (by assumption)
    · cases h
theorem take_lead {s : Bytes} {m : Nat} (hm : m ≤ s.length) (h : Nm.valid (s.take m) = true) : Nm.lead s = some m := by
  obtain ⟨h1, h2, h3⟩ := Nm.labs_valid h
  have hl : (s.take m).length = m := by rw [List.length_take]; omega
  have e : s = Nm.wire (Nm.labs (s.take m)) ++ s.drop m := by
    rw [← h1, List.take_append_drop]
  have hu : Nm.unwire s = some (Nm.labs (s.take m), s.drop m) := Nm.unwire_eq.2 ⟨e, h2⟩
  unfold Nm.lead
  rw [hu]
  simp only
  rw [← h1, if_pos h3, hl]

/-! ### data's shape -/
def shape (t : Int) : Option (Nat × Nat × Nat) :=
  if t = 2 ∨ t = 5 ∨ t = 12 then some (0, 1, 0) else if t = 15 then some (2, 1, 0) else if t = 33 then some (6, 1, 0) else if t = 6 then some (0, 2, 20) else none

/-- so many names, one behind the other -/
def names (d : Bytes) (a : Nat) : Nat → Option (List (Nat × Nat) × Nat)
  | 0 => some ([], a)
  | m + 1 => match names d a m with
    | none => none
    | some (l, at_) => match Nm.lead (d.drop at_) with
      | none => none
      | some n => some (l ++ [(at_, n)], at_ + n)
theorem names_succ {d : Bytes} {a m : Nat} {l : List (Nat × Nat)} {e : Nat} (h : names d a m = some (l, e)) :
    names d a (m + 1) = match Nm.lead (d.drop e) with | none => none | some n => some (l ++ [(e, n)], e + n) := by
  show (match names d a m with | none => none | some (l, at_) => _) = _
  rw [h]
theorem names_none {d : Bytes} {a m k : Nat} (h : names d a m = none) (hk : m ≤ k) : names d a k = none := by
  induction k with
  | zero => obtain rfl : m = 0 := by omega
            exact h
  | succ k ih =>
    rcases Nat.lt_or_ge m (k + 1) with h1 | h1
    · show (match names d a k with | none => none | some (l, at_) => _) = _
      rw [ih (by omega)]
    · obtain rfl : m = k + 1 := by omega
      exact h

/-- places one behind the other, within data -/
def Chain (d : Bytes) : Nat → List (Nat × Nat) → Prop
  | f, [] => f ≤ d.length
  | f, (a, n) :: l => f ≤ a ∧ a + n ≤ d.length ∧ n ≤ 255 ∧ Chain d (a + n) l
theorem chain_snoc {d : Bytes} : ∀ (l : List (Nat × Nat)) (f e n : Nat), Chain d f l → (∀ p ∈ l.getLast?, p.1 + p.2 ≤ e) → f ≤ e → e + n ≤ d.length → n ≤ 255 → Chain d f (l ++ [(e, n)])
  | [], f, e, n, _, _, hf, h1, h2 => ⟨hf, h1, h2, h1⟩
  | (a, m) :: l, f, e, n, h, hl, hf, h1, h2 => by
    obtain ⟨c1, c2, c3, c4⟩ := h
    refine ⟨c1, c2, c3, chain_snoc l (a + m) e n c4 ?_ ?_ h1 h2⟩
    · intro p hp
      cases l with
      | nil => cases hp
      | cons q l => exact hl p (by simpa [List.getLast?_cons_cons] using hp)
    · cases l with
      | nil => exact hl (a, m) (by simp)
      | cons q l =>
        have hlast : ∃ p, (q :: l).getLast? = some p := by cases hg : (q :: l).getLast? with | none => simp at hg | some p => exact ⟨p, rfl⟩
        obtain ⟨p, hp⟩ := hlast
        have h3 := hl p (by simpa [List.getLast?_cons_cons] using hp)
        have key : ∀ (l : List (Nat × Nat)) (f : Nat), Chain d f l → ∀ p ∈ l, f ≤ p.1 := by
          intro l
          induction l with
          | nil => intro f _ p hp; cases hp
          | cons x l ih =>
            intro f hc p hp
            obtain ⟨x1, x2⟩ := x
            obtain ⟨k1, k2, _, k3⟩ := hc
            rcases List.mem_cons.1 hp with rfl | hp
            · exact k1
            · have := ih _ k3 p hp; omega
        have := key _ _ c4 p (List.mem_of_getLast? hp)
        omega
theorem names_chain {d : Bytes} {a : Nat} (ha : a ≤ d.length) : ∀ (m : Nat) (l : List (Nat × Nat)) (e : Nat), names d a m = some (l, e) →
    l.length = m ∧ a ≤ e ∧ e ≤ d.length ∧ Chain d a l ∧ (∀ p ∈ l.getLast?, p.1 + p.2 = e)
  | 0, l, e, h => by
    simp only [names, Option.some.injEq, Prod.mk.injEq] at h
    obtain ⟨rfl, rfl⟩ := h
    exact ⟨rfl, Nat.le_refl _, ha, ha, fun p hp => by cases hp⟩
  | m + 1, l, e, h => by
    cases hn : names d a m with
    | none => rw [names_none hn (Nat.le_succ m)] at h; cases h
    | some p =>
      obtain ⟨l0, e0⟩ := p
      obtain ⟨i1, i2, i3, i4, i5⟩ := names_chain ha m l0 e0 hn
      rw [names_succ hn] at h
      cases hq : Nm.lead (d.drop e0) with
      | none => rw [hq] at h; cases h
      | some n =>
        rw [hq] at h
        simp only [Option.some.injEq, Prod.mk.injEq] at h
        obtain ⟨rfl, rfl⟩ := h
        obtain ⟨q1, q2, q3⟩ := Nm.lead_le hq
        rw [List.length_drop] at q3
        refine ⟨by simp [i1], by omega, by omega, chain_snoc l0 a e0 n i4 (fun p hp => Nat.le_of_eq (i5 p hp)) i2 (by omega) q2, fun p hp => ?_⟩
        simp at hp
        subst hp
        rfl
theorem chain_mem {d : Bytes} : ∀ (l : List (Nat × Nat)) (f : Nat), Chain d f l → ∀ p ∈ l, f ≤ p.1 ∧ p.1 + p.2 ≤ d.length ∧ p.2 ≤ 255
  | [], _, _, p, hp => by cases hp
  | (a, n) :: l, f, h, p, hp => by
    obtain ⟨h1, h2, h4, h3⟩ := h
    rcases List.mem_cons.1 hp with rfl | hp
    · exact ⟨h1, h2, h4⟩
    · have := chain_mem l _ h3 p hp
      exact ⟨by omega, this.2⟩

/-- where names stand; false: the data may not be -/
def placesP (t : Int) (d : Bytes) : List (Nat × Nat) × Bool :=
  match shape t with
  | none => ([], true)
  | some (a, m, b) => if d.length < a then ([], false) else match names d a m with
    | none => ([], false)
    | some (l, e) => (l, decide (d.length - e = b))

/-! ### texts -/
def textsT : Nat → Bytes → Bool
  | _, [] => true
  | 0, _ :: _ => false
  | n + 1, c :: r => if r.length < c.toNat then false else textsT n (r.drop c.toNat)
def textsF (d : Bytes) : Bool := textsT d.length d
def textsB (d : Bytes) : Bool := !d.isEmpty && textsF d
theorem textsT_more : ∀ (n m : Nat) (d : Bytes), d.length ≤ n → d.length ≤ m → textsT n d = textsT m d
  | n, m, [], _, _ => by cases n <;> cases m <;> rfl
  | 0, _, _ :: _, h, _ => by simp at h
  | _, 0, _ :: _, _, h => by simp at h
  | n + 1, m + 1, c :: r, h1, h2 => by
    simp only [List.length_cons] at h1 h2
    simp only [textsT]
    split
    · rfl
    · exact textsT_more n m _ (by rw [List.length_drop]; omega) (by rw [List.length_drop]; omega)
theorem textsF_nil : textsF [] = true := rfl
theorem textsF_cons (c : UInt8) (r : Bytes) : textsF (c :: r) = if r.length < c.toNat then false else textsF (r.drop c.toNat) := by
  unfold textsF
  simp only [List.length_cons, textsT]
  split
  · rfl
  · exact textsT_more _ _ _ (by rw [List.length_drop]; omega) (Nat.le_refl _)

/-! ### what data may be -/
def dataB (t : Int) (d : Bytes) : Bool :=
  if 1000 < d.length then false else if t = 1 then decide (d.length = 4) else if t = 28 then decide (d.length = 16) else if t = 16 then textsB d else (placesP t d).2
def partsN (t : Int) (d : Bytes) : Option (List (Nat × Nat)) := if dataB t d then some (placesP t d).1 else none
theorem partsN_some {t : Int} {d : Bytes} (h : dataB t d = true) : partsN t d = some (placesP t d).1 := by unfold partsN; rw [if_pos h]
theorem partsN_none {t : Int} {d : Bytes} (h : dataB t d = false) : partsN t d = none := by unfold partsN; rw [h]; rfl
theorem partsN_isSome (t : Int) (d : Bytes) : (partsN t d).isSome = dataB t d := by
  cases h : dataB t d with
  | true => rw [partsN_some h]; rfl
  | false => rw [partsN_none h]; rfl
theorem placesP_chain (t : Int) (d : Bytes) : Chain d 0 (placesP t d).1 ∧ (placesP t d).1.length ≤ 2 := by
  unfold placesP
  split
  · exact ⟨Nat.zero_le _, by simp⟩
  · rename_i a m b hs
    split
    · exact ⟨Nat.zero_le _, by simp⟩
    · split
      · exact ⟨Nat.zero_le _, by simp⟩
      · rename_i l e hn
        obtain ⟨h1, _, _, h2, _⟩ := names_chain (by omega) m l e hn
        have hm : m ≤ 2 := by
          unfold shape at hs
          repeat' split at hs
          all_goals first | (simp only [Option.some.injEq, Prod.mk.injEq] at hs; omega) | cases hs
        refine ⟨?_, by simp only; omega⟩
        show Chain d 0 l
        cases l with
        | nil => exact Nat.zero_le _
        | cons q l => obtain ⟨q1, q2⟩ := q; exact ⟨Nat.zero_le _, h2.2⟩
theorem partsN_chain {t : Int} {d : Bytes} {l : List (Nat × Nat)} (h : partsN t d = some l) : Chain d 0 l ∧ l.length ≤ 2 := by
  unfold partsN at h
  split at h
  · simp only [Option.some.injEq] at h
    rw [← h]
    exact placesP_chain t d
  · cases h

/-! ### data with its names folded -/
def foldStep (x : Bytes) (p : Nat × Nat) : Bytes := x.take p.1 ++ Nm.foldN ((x.drop p.1).take p.2) ++ x.drop (p.1 + p.2)
def foldAt (d : Bytes) (l : List (Nat × Nat)) : Bytes := l.foldl foldStep d
def foldD (t : Int) (d : Bytes) : Bytes := match partsN t d with | none => d | some l => foldAt d l
/-- the same, piece by piece -/
def runStep (d : Bytes) (s : Bytes × Nat) (p : Nat × Nat) : Bytes × Nat := (s.1 ++ ((d.drop s.2).take (p.1 - s.2) ++ Nm.foldN ((d.drop p.1).take p.2)), p.1 + p.2)
def runF (d : Bytes) (l : List (Nat × Nat)) : Bytes × Nat := l.foldl (runStep d) ([], 0)
theorem runF_snoc (d : Bytes) (l : List (Nat × Nat)) (p : Nat × Nat) : runF d (l ++ [p]) = runStep d (runF d l) p := by simp [runF]
theorem foldAt_snoc (d : Bytes) (l : List (Nat × Nat)) (p : Nat × Nat) : foldAt d (l ++ [p]) = foldStep (foldAt d l) p := by simp [foldAt]
theorem foldStep_length {x : Bytes} {p : Nat × Nat} (h : p.1 + p.2 ≤ x.length) : (foldStep x p).length = x.length := by
  unfold foldStep
  simp only [List.length_append, List.length_take, List.length_drop, Nm.foldN_length]
  omega
theorem run_fold {d : Bytes} : ∀ (l : List (Nat × Nat)) (s : Bytes × Nat), s.1.length = s.2 → s.2 ≤ d.length → Chain d s.2 l →
    l.foldl foldStep (s.1 ++ d.drop s.2) = (l.foldl (runStep d) s).1 ++ d.drop (l.foldl (runStep d) s).2 ∧ (l.foldl (runStep d) s).1.length = (l.foldl (runStep d) s).2 ∧ (l.foldl (runStep d) s).2 ≤ d.length
  | [], s, h1, h2, _ => ⟨rfl, h1, h2⟩
  | (a, n) :: l, s, h1, h2, hc => by
    obtain ⟨c1, c2, _, c3⟩ := hc
    have e : foldStep (s.1 ++ d.drop s.2) (a, n) = (runStep d s (a, n)).1 ++ d.drop (runStep d s (a, n)).2 := by
      obtain ⟨o, f⟩ := s
      simp only at h1 h2 c1
      unfold foldStep runStep
      simp only
      have e1 : (o ++ d.drop f).take a = o ++ (d.drop f).take (a - f) := by
        rw [List.take_append, h1, List.take_of_length_le (by omega)]
      have e2 : (o ++ d.drop f).drop a = d.drop a := by
        rw [List.drop_append, h1, List.drop_of_length_le (by omega), List.nil_append, List.drop_drop]
        congr 1; omega
      have e3 : (o ++ d.drop f).drop (a + n) = d.drop (a + n) := by
        rw [List.drop_append, h1, List.drop_of_length_le (by omega), List.nil_append, List.drop_drop]
        congr 1; omega
      rw [e1, e2, e3]
      simp [List.append_assoc]
    have hl : (runStep d s (a, n)).1.length = (runStep d s (a, n)).2 := by
      obtain ⟨o, f⟩ := s
      simp only at h1 h2 c1
      unfold runStep
      simp only [List.length_append, List.length_take, List.length_drop, Nm.foldN_length]
      omega
    have := run_fold l (runStep d s (a, n)) hl c2 c3
    simp only [List.foldl_cons]
    rw [e]
    exact this
theorem runF_fold {d : Bytes} {l : List (Nat × Nat)} (h : Chain d 0 l) : foldAt d l = (runF d l).1 ++ d.drop (runF d l).2 ∧ (runF d l).1.length = (runF d l).2 ∧ (runF d l).2 ≤ d.length := by
  have := run_fold l ([], 0) rfl (Nat.zero_le _) h
  simpa [runF, foldAt] using this
theorem chain_prefix {d : Bytes} : ∀ (l m : List (Nat × Nat)) (f : Nat), Chain d f (l ++ m) → Chain d f l
  | [], m, f, h => by
    cases m with
    | nil => exact h
    | cons q m => obtain ⟨q1, q2⟩ := q; obtain ⟨h1, h2, _, _⟩ := h; show f ≤ d.length; omega
  | (a, n) :: l, m, f, h => by
    obtain ⟨h1, h2, h4, h3⟩ := h
    exact ⟨h1, h2, h4, chain_prefix l m _ h3⟩
theorem chain_next {d : Bytes} : ∀ (l : List (Nat × Nat)) (p : Nat × Nat) (f : Nat) (s : Bytes × Nat), s.2 = f → Chain d f (l ++ [p]) → (l.foldl (runStep d) s).2 ≤ p.1 ∧ p.1 + p.2 ≤ d.length ∧ p.2 ≤ 255
  | [], (a, n), f, s, hs, h => by
    obtain ⟨h1, h2, h4, h3⟩ := h
    exact ⟨by simp only [List.foldl_nil]; omega, h2, h4⟩
  | (a, n) :: l, p, f, s, hs, h => by
    obtain ⟨h1, h2, h4, h3⟩ := h
    exact chain_next l p (a + n) (runStep d s (a, n)) rfl h3
theorem runF_next {d : Bytes} {l : List (Nat × Nat)} {p : Nat × Nat} (h : Chain d 0 (l ++ [p])) : (runF d l).2 ≤ p.1 ∧ p.1 + p.2 ≤ d.length ∧ p.2 ≤ 255 := chain_next l p 0 ([], 0) rfl h
theorem foldAt_length {d : Bytes} {l : List (Nat × Nat)} (h : Chain d 0 l) : (foldAt d l).length = d.length := by
  obtain ⟨h1, h2, h3⟩ := runF_fold h
  rw [h1, List.length_append, List.length_drop]
  omega
theorem foldD_length (t : Int) (d : Bytes) : (foldD t d).length = d.length := by
  unfold foldD
  cases h : partsN t d with
  | none => rfl
  | some l => exact foldAt_length (partsN_chain h).1

/-! ### records -/
structure RR where
  name : Bytes
  ty : Int
  cl : Int
  ttl : Int
  data : Bytes
deriving DecidableEq

def sameRR (a b : RR) : Bool := (Nm.foldN a.name == Nm.foldN b.name) && (a.ty == b.ty) && (a.cl == b.cl) && (foldD a.ty a.data == foldD b.ty b.data)
theorem same_refl (a : RR) : sameRR a a = true := by simp [sameRR]
theorem same_symm {a b : RR} : sameRR a b = sameRR b a := by
  unfold sameRR
  rw [Bool.eq_iff_iff]
  simp only [Bool.and_eq_true, beq_iff_eq]
  constructor <;> (rintro ⟨⟨⟨h1, h2⟩, h3⟩, h4⟩; exact ⟨⟨⟨h1.symm, h2.symm⟩, h3.symm⟩, h4.symm⟩)
theorem same_trans {a b c : RR} (h : sameRR a b = true) (h' : sameRR b c = true) : sameRR a c = true := by
  unfold sameRR at *
  simp only [Bool.and_eq_true, beq_iff_eq] at *
  obtain ⟨⟨⟨h1, h2⟩, h3⟩, h4⟩ := h
  obtain ⟨⟨⟨k1, k2⟩, k3⟩, k4⟩ := h'
  exact ⟨⟨⟨h1.trans k1, h2.trans k2⟩, h3.trans k3⟩, h4.trans k4⟩
end Go.Rc

/- The contracts of record.Shape, places, texts, Data: what data may be, and where names stand in it. -/
namespace Go.Proofs.YtkpcmnckdappnaaGreat
open Go.RowKit
set_option linter.unusedVariables false

/-! ### pairs of numbers, in memory -/
def encP (l : List (Nat × Nat)) : List Value := l.flatMap fun p => [.int .i64 p.1, .int .i64 p.2]
theorem encP_snoc (l : List (Nat × Nat)) (a n : Nat) : encP (l ++ [(a, n)]) = encP l ++ [.int .i64 a, .int .i64 n] := by simp [encP]
theorem one_pair (a n : Nat) : ∀ u ∈ [Value.int .i64 (a : Int), Value.int .i64 (n : Int)], u.oneCell' = true := by
  intro u hu
  simp at hu
  rcases hu with rfl | rfl <;> rfl
/-- a list of pairs -/
def Pairs (w : World) (v : Value) (l : List (Nat × Nat)) : Prop := SlC w 2 v l.length (encP l)
theorem Pairs.below {B : Nat} {w w' : World} {v : Value} {l : List (Nat × Nat)} (h : Pairs w v l) (hb : Below B w w') (hB : w.heap.size ≤ B) : Pairs w' v l := SlC.below h hb hB
theorem encP_get : ∀ (l : List (Nat × Nat)) (j : Nat), j < l.length → (encP l)[2 * j]? = some (.int .i64 (l.getD j (0, 0)).1) ∧ (encP l)[2 * j + 1]? = some (.int .i64 (l.getD j (0, 0)).2)
  | [], j, h => by simp at h
  | p :: l, 0, _ => ⟨rfl, rfl⟩
  | p :: l, j + 1, h => by
    have := encP_get l j (by simpa using h)
    have e : encP (p :: l) = .int .i64 p.1 :: .int .i64 p.2 :: encP l := rfl
    rw [e, show 2 * (j + 1) = 2 * j + 1 + 1 by omega]
    simpa using this
theorem Pairs.at {w : World} {a : Option Addr} {m cap : Nat} {l : List (Nat × Nat)} (h : Pairs w (.slice a m cap) l) (hn : 0 < l.length) :
    ∃ b off, a = some ⟨b, off, none⟩ ∧ b < w.heap.size ∧ ∀ j, j < l.length → w.cell? ⟨b, off + 2 * j, none⟩ = some (.int .i64 (l.getD j (0, 0)).1) ∧ w.cell? ⟨b, off + (2 * j + 1), none⟩ = some (.int .i64 (l.getD j (0, 0)).2) := by
  obtain ⟨_, b, off, ha, hlt, h4⟩ := SlC.at h hn
  refine ⟨b, off, ha, hlt, fun j hj => ?_⟩
  obtain ⟨e1, e2⟩ := encP_get l j hj
  exact ⟨by rw [h4 (2 * j) (by omega), e1], by rw [h4 (2 * j + 1) (by omega), e2]⟩

/-! ### Shape -/
def shapeV (t : Int) : Value := match Rc.shape t with
  | some (a, m, b) => .tuple #[.int .i64 (a : Int), .int .i64 (m : Int), .int .i64 (b : Int), .bool true]
  | none => .tuple #[.int .i64 0, .int .i64 0, .int .i64 0, .bool false]

set_option maxRecDepth 100000 in
theorem Shape_any (t : Int) (w : World) : Calls Tryz.prog 106 #[.int .i64 t] w fun e w' => e = .returned (shapeV t) ∧ w = w' := by
  by_cases h : t = 2 ∨ t = 5 ∨ t = 12 ∨ t = 15 ∨ t = 33 ∨ t = 6
  · rcases h with rfl | rfl | rfl | rfl | rfl | rfl
    all_goals
      go_enter Tryz.func106, Tryz.ntmps106
      go_wp2
      refine bodyPost_ret (v := shapeV _) (by simp [results, Tryz.results106, go_sem, shapeV, Rc.shape]) rfl ⟨rfl, rfl⟩
  · have e1 : (t == 2) = false := by rw [beq_eq_false_iff_ne]; omega
    have e2 : (t == 5) = false := by rw [beq_eq_false_iff_ne]; omega
    have e3 : (t == 12) = false := by rw [beq_eq_false_iff_ne]; omega
    have e4 : (t == 15) = false := by rw [beq_eq_false_iff_ne]; omega
    have e5 : (t == 33) = false := by rw [beq_eq_false_iff_ne]; omega
    have e6 : (t == 6) = false := by rw [beq_eq_false_iff_ne]; omega
    have hf : Hid (shapeV t = .tuple #[.int .i64 0, .int .i64 0, .int .i64 0, .bool false]) := Go.Lib.hid (by
      unfold shapeV Rc.shape
      rw [if_neg (by omega), if_neg (by omega), if_neg (by omega), if_neg (by omega)])
    clear h
    go_enter Tryz.func106, Tryz.ntmps106
    go_wp2
    refine bodyPost_ret (v := .tuple #[.int .i64 0, .int .i64 0, .int .i64 0, .bool false]) (by simp [results, Tryz.results106, go_sem]) rfl ⟨by rw [hf.out], rfl⟩

/-! ### texts -/
/-- a text's size, of a value -/
def strLen (v : Value) : Nat := match v with | .string s => s.size | _ => 0
theorem strLen_mk (l : List UInt8) : strLen (.string (mk l)) = l.length := size_mk l

set_option maxRecDepth 100000 in
theorem texts_any (s : ByteArray) (w : World) (hs : s.size ≤ maxLen) :
    Calls Tryz.prog 103 #[.string s] w fun e w' => e = .returned (.bool (Rc.textsB (bl s))) ∧ w = w' := by
  cases hz : bl s with
  | nil =>
    have e1 : s.toList = [] := by rw [toList_bl, hz]
    have e2 : (s.toList == []) = true := by rw [e1]; rfl
    have hs0 : s = mk [] := bl_inj (by rw [hz, bl_mk])
    subst hs0
    clear hz e1 hs
    have hf : Hid (Rc.textsB [] = false) := Go.Lib.hid rfl
    go_enter Tryz.func103, Tryz.ntmps103
    go_wp2
    go_ret
    exact ⟨ret_bool hf.out.symm, rfl⟩
  | cons c0 r0 =>
    have hf : Hid (Rc.textsB (c0 :: r0) = Rc.textsF (bl s)) := Go.Lib.hid (by rw [hz]; rfl)
    have e1 : (s.toList == []) = false := by rw [toList_bl, hz]; rfl
    have hl := size_bl s
    unfold maxLen at hs
    have hle : (bl s).length ≤ 9223372036854775807 := by omega
    have hself := mk_bl s
    rw [← hself] at e1 ⊢
    clear hself
    generalize bl s = d0 at *
    clear hz hl hs s
    have HF := Go.Lib.hid hf
    clear hf
    go_enter Tryz.func103, Tryz.ntmps103
    go_wp2
    go_loop [0] (fun v => ∃ d : List UInt8, v = .string (mk d) ∧ Rc.textsF d = Rc.textsF d0 ∧ d.length ≤ 9223372036854775807) (fun v => strLen v)
    case atStart => exact ⟨d0, rfl, rfl, hle⟩
    case round =>
      obtain ⟨d, rfl, hd, hdl⟩ := hrel
      cases d with
      | nil =>
        have e1 : (!(mk []).toList.isEmpty) = false := by rw [toList_bl, bl_mk]; rfl
        have e2 : (mk []).toList = [] := by rw [toList_bl, bl_mk]
        have hfin : Hid (Rc.textsB (c0 :: r0) = true) := Go.Lib.hid (by rw [HF.out, ← hd]; rfl)
        clear hd
        go_wp2
        go_ret
        exact ⟨ret_bool hfin.out.symm, rfl⟩
      | cons c r =>
        have e1 : (!(mk (c :: r)).toList.isEmpty) = true := by rw [toList_bl, bl_mk]; rfl
        have e2 : ¬ (mk (c :: r)).toList = [] := by rw [toList_bl, bl_mk]; simp
        have hsz : (mk (c :: r)).size = r.length + 1 := by rw [size_mk]; rfl
        have h0 : 0 < (mk (c :: r)).size := by omega
        have hg : (mk (c :: r))[0] = c := rfl
        have hcb := c.toNat_lt
        have hrl : r.length + 1 ≤ 9223372036854775807 := by simpa using hdl
        by_cases hbig : r.length < c.toNat
        · have hfin : Hid (Rc.textsB (c0 :: r0) = false) := Go.Lib.hid (by rw [HF.out, ← hd, Rc.textsF_cons, if_pos hbig])
          have e3 : (r.length : Int) + 1 < 1 + (c.toNat : Int) := by omega
          clear hd hdl
          go_wp2
          go_ret
          exact ⟨ret_bool hfin.out.symm, rfl⟩
        · have hnx : Rc.textsF (r.drop c.toNat) = Rc.textsF d0 := by rw [← hd, Rc.textsF_cons, if_neg hbig]
          have e3 : ¬ (r.length : Int) + 1 < 1 + (c.toNat : Int) := by omega
          have hx : (mk (c :: r)).extract (1 + c.toNat) (r.length + 1) = mk (r.drop c.toNat) := by
            apply bl_inj
            rw [bl_extract, bl_mk, bl_mk, show 1 + c.toNat = c.toNat + 1 by omega, List.drop_succ_cons]
            exact List.take_of_length_le (by rw [List.length_drop]; omega)
          have HNX := Go.Lib.hid hnx
          clear hnx
          clear hd hdl
          go_wp2
          go_round
          case rel => exact ⟨r.drop c.toNat, by rw [hx], HNX.out, by rw [List.length_drop]; omega⟩
          case measure => rw [hx, strLen_mk, strLen_mk, List.length_drop]; simp; omega

/-! ### places -/
theorem infoPl : (Tryz.prog.info? 122).map (fun i => (i.zero, i.size, i.bytes)) = some (some (.agg #[.int .i64 0, .int .i64 0]), 2, 16) := by kernel_rfl
theorem eiPl : EI Tryz.prog 118 122 2 16 := ei_of Tryz.underlying118 infoPl rfl (by decide)
/-- a list of pairs and a bool, in new memory -/
def RetPairs (w : World) (p : List (Nat × Nat) × Bool) (e : Ending) (w' : World) : Prop := ∃ v, e = .returned (.tuple #[v, .bool p.2]) ∧ w'.ownsRow w.heap.size 122 2 v p.1.length (encP p.1) ∧ Below w.heap.size w w'
theorem pairs_owned {w : World} {g e : Nat} {v : Value} {ls : List (Nat × Nat)} (h : w.ownsRow g e 2 v ls.length (encP ls)) : Pairs w v ls := SlC.of_owns h
theorem retPairs_nil {w : World} {p : List (Nat × Nat) × Bool} {b : Bool} (h : p = ([], b)) : RetPairs w p (.returned (.tuple #[.slice none 0 0, .bool b])) w := ⟨_, by rw [h], by rw [h]; exact World.ownsRow_nil _ _ _ _, Below.refl _ _⟩

theorem ret_pairs {w w' : World} {v : Value} {p : List (Nat × Nat) × Bool} {l : List (Nat × Nat)} {b : Bool} (h1 : p = (l, b)) (h2 : w'.ownsRow w.heap.size 122 2 v l.length (encP l)) (h3 : Below w.heap.size w w') : RetPairs w p (.returned (.tuple #[v, .bool b])) w' := ⟨v, by rw [h1], by rw [h1]; exact h2, h3⟩
theorem placesP_eq {t : Int} {a m b : Nat} {d : List UInt8} (h : Rc.shape t = some (a, m, b)) (hl : ¬ d.length < a) :
    (Rc.names d a m = none → Rc.placesP t d = ([], false)) ∧ (∀ l e, Rc.names d a m = some (l, e) → Rc.placesP t d = (l, decide (d.length - e = b))) := by
  constructor
  · intro hn
    unfold Rc.placesP
    rw [h]
    simp only
    rw [if_neg hl, hn]
  · intro l e hn
    unfold Rc.placesP
    rw [h]
    simp only
    rw [if_neg hl, hn]

set_option maxRecDepth 100000 in
set_option maxHeartbeats 2000000 in
theorem places_any (t : Int) (s : ByteArray) (w : World) (hs : s.size ≤ maxLen) :
    Calls Tryz.prog 98 #[.int .i64 t, .string s] w (RetPairs w (Rc.placesP t (bl s))) := by
  have hsh := Shape_any t w
  cases hc : Rc.shape t with
  | none =>
    have hfin : Hid (Rc.placesP t (bl s) = ([], true)) := Go.Lib.hid (by unfold Rc.placesP; rw [hc])
    unfold shapeV at hsh
    rw [hc] at hsh
    have HSH := Go.Lib.hid hsh
    clear hsh
    clear hc hs
    go_enter Tryz.func98, Tryz.ntmps98
    go_wp2_with fail
    refine HSH.out.mono ?_; rintro e _ ⟨rfl, rfl⟩
    go_wp2_with fail
    go_ret2
    exact retPairs_nil hfin.out
  | some q =>
    obtain ⟨a, m, b⟩ := q
    unfold shapeV at hsh
    rw [hc] at hsh
    simp only at hsh
    have ha : a ≤ 6 ∧ m ≤ 2 ∧ b ≤ 20 := by
      unfold Rc.shape at hc
      repeat' split at hc
      all_goals first | (simp only [Option.some.injEq, Prod.mk.injEq] at hc; omega) | cases hc
    obtain ⟨ha, hm, hb20⟩ := ha
    have hl := size_bl s
    unfold maxLen at hs
    by_cases hshort : s.size < a
    · have hfin : Hid (Rc.placesP t (bl s) = ([], false)) := Go.Lib.hid (by unfold Rc.placesP; rw [hc]; simp only; rw [if_pos (by omega)])
      have HSH := Go.Lib.hid hsh
      clear hsh
      have e1 : (s.size : Int) < (a : Int) := by omega
      clear hc hs hl hshort
      go_enter Tryz.func98, Tryz.ntmps98
      go_wp2_with fail
      refine HSH.out.mono ?_; rintro e _ ⟨rfl, rfl⟩
      go_wp2_with fail
      go_ret2
      exact retPairs_nil hfin.out
    · obtain ⟨hfn, hfs⟩ := placesP_eq hc (d := bl s) (by omega)
      have HFN := Go.Lib.hid hfn
      have HFS := Go.Lib.hid hfs
      clear hfn hfs
      have e0 : decide (s.size < a) = false := decide_eq_false hshort
      have hch := fun m l e h => Rc.names_chain (d := bl s) (a := a) (by omega) m l e h
      have e1 : ¬ (s.size : Int) < (a : Int) := by omega
      have HSH := Go.Lib.hid hsh
      have HCH := Go.Lib.hid hch
      have HL := Go.Lib.hid hl
      clear hsh hch hl
      clear hc hshort
      have has : a ≤ s.size := by omega
      generalize Rc.placesP t (bl s) = res at *
      go_enter Tryz.func98, Tryz.ntmps98
      go_wp2_with fail
      refine HSH.out.mono ?_; rintro e _ ⟨rfl, rfl⟩
      go_wp2_with fail
      go_loopw [4, 10, 28] (fun v at_ i wr => ∃ (k at0 : Nat) (l : List (Nat × Nat)), i = .int .i64 k ∧ k ≤ m ∧ at_ = .int .i64 at0 ∧ Rc.names (bl s) a k = some (l, at0) ∧ wr.ownsRow w.heap.size 122 2 v l.length (encP l) ∧ Below w.heap.size w wr) (fun _ _ i _ => m - (intOf i).toNat)
      case atStart => exact ⟨0, a, [], rfl, by omega, rfl, rfl, World.ownsRow_nil _ _ _ _, Below.refl _ _⟩
      case round =>
        obtain ⟨k, at0, l, rfl, hk, rfl, hnm, hown, hbel⟩ := hrel
        obtain ⟨c1, c2, c3, c4, c5⟩ := HCH.out k l at0 hnm
        have c3' : at0 ≤ s.size := by rw [HL.out]; exact c3
        have hbz := hbel.size
        have HNM := Go.Lib.hid hnm
        have HO := Go.Lib.hid hown
        have HB := Go.Lib.hid hbel
        have HC4 := Go.Lib.hid c4
        have HC5 := Go.Lib.hid c5
        clear hnm hown hbel c4 c5
        clear c3
        by_cases hlt : k < m
        · have e2 : (k : Int) < (m : Int) := by omega
          have hx : s.extract at0 s.size = mk ((bl s).drop at0) := by
            apply bl_inj
            rw [bl_extract, bl_mk]
            exact List.take_of_length_le (by rw [List.length_drop, HL.out]; exact Nat.le_refl _)
          have hld := fun w => lead_any (mk ((bl s).drop at0)) w (by rw [size_mk, List.length_drop]; have := HL.out; unfold maxLen; omega)
          have hstep := Rc.names_succ HNM.out
          unfold leadV at hld
          rw [bl_mk] at hld
          cases hlq : Nm.lead ((bl s).drop at0) with
          | none =>
            rw [hlq] at hld hstep
            have hnone : Hid (res = ([], false)) := Go.Lib.hid (HFN.out (Rc.names_none hstep (show k + 1 ≤ m by omega)))
            have HLD := Go.Lib.hid hld
            clear hld
            clear hlq hstep
            go_wp2_with fail
            refine (HLD.out _).mono ?_; rintro e _ ⟨rfl, rfl⟩
            go_wp2_with fail
            go_ret2
            exact ret_pairs hnone.out (World.ownsRow_nil _ _ _ _) HB.out
          | some n =>
            rw [hlq] at hld hstep
            simp only at hld hstep
            have hle := Nm.lead_le hlq
            rw [List.length_drop, ← HL.out] at hle
            have HLD := Go.Lib.hid hld
            have HST := Go.Lib.hid hstep
            clear hld hstep
            clear hlq
            go_wp2_with fail
            refine (HLD.out _).mono ?_; rintro e _ ⟨rfl, rfl⟩
            go_wp2_with (at_builtin; refine wpList_app eiPl (.tmp 39) (.tmp 43) rfl rfl w.heap.size rfl rfl (HO.out.alloc _) (slc_new _ 2 1 122 [.int .i64 (at0 : Int), .int .i64 (n : Int)] rfl (by decide)) (one_pair at0 n) (by unfold maxLen; omega) (by omega) (by simp; omega) ?_; intro v1 w1 hown1 hg1)
            go_roundw
            case rel => exact ⟨k + 1, at0 + n, l ++ [(at0, n)], by go_num, by omega, by go_num, HST.out, by rw [List.length_append, encP_snoc]; exact hown1, below_app (HB.out.alloc hbz _) (HO.out.alloc _) hg1 (Nat.le_refl _) (by simp; omega)⟩
            case measure => simp [intOf]; omega
        · obtain rfl : k = m := by omega
          have hres : Hid (res = (l, decide ((bl s).length - at0 = b))) := Go.Lib.hid (HFS.out _ _ HNM.out)
          have hdec : ∀ q : Bool, q = decide ((s.size : Int) - (at0 : Int) = (b : Int)) → q = decide ((bl s).length - at0 = b) := fun q hq => by
            rw [hq, ← HL.out]
            by_cases hz : s.size - at0 = b
            · rw [decide_eq_true hz, decide_eq_true (by omega)]
            · rw [decide_eq_false hz, decide_eq_false (by omega)]
          have HDEC := Go.Lib.hid hdec
          clear hdec
          by_cases hz : (s.size : Int) - (at0 : Int) = (b : Int)
          · have e3 : ((s.size : Int) - (at0 : Int) == (b : Int)) = true := by rw [beq_iff_eq]; exact hz
            have hd := HDEC.out true (by rw [decide_eq_true hz])
            have HD := Go.Lib.hid hd
            clear hd
            clear hz
            go_wp2_with fail
            go_ret2
            exact ret_pairs (by rw [hres.out, ← HD.out]) HO.out HB.out
          · have e3 : ((s.size : Int) - (at0 : Int) == (b : Int)) = false := by rw [beq_eq_false_iff_ne]; exact hz
            have hd := HDEC.out false (by rw [decide_eq_false hz])
            have HD := Go.Lib.hid hd
            clear hd
            clear hz
            go_wp2_with fail
            go_ret2
            exact ret_pairs (by rw [hres.out, ← HD.out]) HO.out HB.out
end Go.Proofs.YtkpcmnckdappnaaGreat

/- For ranges over functions: what the body of a round keeps for the iterator: the blocks of a span. -/
namespace Go.Proofs.YtkpcmnckdappnaaGreat
open Go.RowKit

/-- the blocks from lo to hi lie as they lay -/
def Kr (lo hi : Nat) (W W' : World) : Prop := ∀ k, lo ≤ k → k < hi → W'.heap[k]? = W.heap[k]?
theorem Kr.refl (lo hi : Nat) (W : World) : Kr lo hi W W := fun _ _ _ => rfl
theorem Kr.trans {lo hi : Nat} {A B C : World} (h : Kr lo hi A B) (k : Kr lo hi B C) : Kr lo hi A C := fun j h1 h2 => (k j h1 h2).trans (h j h1 h2)
theorem Kr.put {lo hi : Nat} {w : World} (hn : hi ≤ w.heap.size) (W : World) (l : Nat) (o o' : Obj) (hl : w.heap.size ≤ l) (_ : W.heap[l]? = some o) (_ : o.isCells = false) (_ : o.isWalk = false) : Kr lo hi W (W.putObj l o') :=
  fun k _ h2 => World.putObj_heap_other (fun e => by omega)
theorem Kr.cell {lo hi : Nat} {A B : World} (h : Kr lo hi A B) {p : Addr} (h1 : lo ≤ p.block) (h2 : p.block < hi) (hp : p.spot = none) : B.cell? p = A.cell? p := by
  obtain ⟨b, o, _⟩ := p
  subst hp
  simp only [World.cell?, h b h1 h2]
theorem Kr.of_below {lo hi B : Nat} {A C : World} (h : Below B A C) (hB : hi ≤ B) : Kr lo hi A C := fun k _ h2 => h.block k (by omega)
theorem Kr.alloc {lo hi : Nat} {A C : World} (h : Kr lo hi A C) (o : Obj) (hs : hi ≤ C.heap.size) : Kr lo hi A (C.alloc o) := fun k h1 h2 => by
  exact (Below.heap_alloc _ _ _ (by omega)).trans (h k h1 h2)
theorem Kr.grown {lo hi : Nat} {A C D : World} {row : Option Nat} (h : Kr lo hi A C) (hg : C.grownBy D row) (hs : hi ≤ C.heap.size) (hr : ∀ k, row = some k → hi ≤ k) : Kr lo hi A D := fun k h1 h2 => by
  rw [hg.block k (by omega) (fun e => by have := hr k e.symm; omega)]; exact h k h1 h2
theorem Kr.set {lo hi : Nat} {A C : World} (h : Kr lo hi A C) {p : Addr} (hp : p.block < lo ∨ hi ≤ p.block) (v : Value) : Kr lo hi A (C.setCell p v) := fun k h1 h2 => by
  rw [Below.heap_setCell _ _ _ _ (by omega)]; exact h k h1 h2
theorem owns_base {w : World} {lo hi e sz n : Nat} {v : Value} {xs : List Value} (h : w.ownsRow hi e sz v n xs) (hl : lo ≤ hi) : w.ownsRow lo e sz v n xs := by
  refine ⟨h.1, ?_⟩
  rcases h.2 with hn | ⟨g, cap, cur, rfl, hb, r⟩
  · exact .inl hn
  · exact .inr ⟨g, cap, cur, rfl, Nat.le_trans hl hb, r⟩

/-- 'out = append(out, ..)' of a variable in a box B; its row lies beyond the span that the iterator reads -/
theorem boxed_app {W w1 : World} {n₀ lo hi B : Nat} {t e : TypeId} {size : Nat} {v v' : Value} {k m : Nat} {xs ys : List Value} {tmp : Obj}
    (hv : Boxed W B t v) (hte : t ≠ e) (hrow : W.ownsRow hi e size v k xs) (hhi : hi ≤ W.heap.size) (hlo : n₀ ≤ hi) (hB : n₀ ≤ B) (hBl : B < lo)
    (hown' : w1.ownsRow hi e size v' m ys) (hgrow : (W.alloc tmp).grownBy w1 v.ownBlock) :
    Boxed w1 B t v ∧ Boxed (w1.setCell ⟨B, 0, none⟩ v') B t v' ∧ (w1.setCell ⟨B, 0, none⟩ v').ownsRow hi e size v' m ys ∧ KeepsOthers W (w1.setCell ⟨B, 0, none⟩ v') ∧ Below n₀ W (w1.setCell ⟨B, 0, none⟩ v') ∧ Kr lo hi W (w1.setCell ⟨B, 0, none⟩ v') := by
  have hrow0 := owns_base hrow hlo
  obtain ⟨h1, h2, _, h4, h5⟩ := hv.appended hte hrow0 (Nat.le_trans hlo hhi) hB (owns_base hown' hlo) hgrow
  refine ⟨h1, h2, hown'.kept (grownBy_setCell' w1 B v') (.inr (h1.not_row hte hown').symm), h4, h5, ?_⟩
  refine ((((Kr.refl lo hi W).alloc tmp hhi).grown hgrow (by simp; omega) fun j ej => ?_).set (p := ⟨B, 0, none⟩) (.inl hBl) v')
  rcases hrow.2 with ⟨rfl, _⟩ | ⟨g, cap, cur, rfl, hb, _, _⟩
  · simp [Value.ownBlock] at ej
  · obtain rfl : g = j := by simpa [Value.ownBlock] using ej
    exact hb
theorem boxed_app_other {W w1 : World} {B B2 hi : Nat} {t2 e : TypeId} {size : Nat} {v v' u : Value} {k : Nat} {xs : List Value} {tmp : Obj}
    (hu : Boxed W B2 t2 u) (ht2 : t2 ≠ e) (hne : B2 ≠ B) (hrow : W.ownsRow hi e size v k xs) (hgrow : (W.alloc tmp).grownBy w1 v.ownBlock) : Boxed (w1.setCell ⟨B, 0, none⟩ v') B2 t2 u :=
  ((hu.alloc tmp).kept hgrow (hu.not_row ht2 hrow)).kept (grownBy_setCell' w1 B v') (by simpa using hne)
end Go.Proofs.YtkpcmnckdappnaaGreat

/- A range over a function whose rounds come in a known way: the caller owes a round only for what may come next. No conditions beside. -/
namespace Go.Sq
open Go Go.RowKit

/-- an iterator's contract: 'Ok xs': xs may come so; a round is asked only where that holds with the new one -/
def SeqOk {α : Type} (F : Fence) (n : Nat) (P : Program) (g : Nat) (lb : Array Value) (encs : α → Array Value) (Kp : World → World → Prop) (Ok S Sp : List α → Prop) (w : World) : Prop :=
  ∀ (l : Nat) (J Jx : List α → World → Prop) (W : World), Below w.heap.size w W → AbidesFrom W.heap.size J → AbidesFrom W.heap.size Jx →
    (∀ pre x W1, J pre W1 → Ok (pre ++ [x]) → YieldAt F (n - 1) P l (encs x) W1 fun e W' =>
      (e = .returned (.bool true) ∧ J (pre ++ [x]) W' ∧ Kp W1 W') ∨ (e = .returned (.bool false) ∧ Jx (pre ++ [x]) W')) →
    J [] W →
    CallsIn F n P g (#[.func (.yield l) #[] #[]] ++ lb) W fun e W' => (∃ v, e = .returned v) ∧ ((∃ xs, S xs ∧ J xs W') ∨ (∃ pre, Sp pre ∧ Jx pre W'))

/-- the loop's two blocks of book-keeping -/
structure Held (B : Nat) (r : Loop) (W : World) : Prop where
  loop : W.heap[B + 1]? = some (.loop r)
  calls : W.heap[B]? = some (.deferred (some []))

theorem Held.lt {B : Nat} {r : Loop} {W : World} (h : Held B r W) : B + 1 < W.heap.size := (Array.getElem?_eq_some_iff.1 h.loop).1
theorem Held.walks {B : Nat} {r : Loop} {W W' : World} {row : Option Nat} (h : Held B r W) (hg : W.grownBy W' row) (hr : ∀ k, row = some k → ∃ o : Obj, W.heap[k]? = some o ∧ o.isWalk = true) : Held B r W' :=
  ⟨(grownBy_keeps hg hr h.loop rfl).trans h.loop, (grownBy_keeps hg hr h.calls rfl).trans h.calls⟩
theorem Held.from {B : Nat} {r : Loop} {W W' : World} (h : Held B r W) (hk : KeepsFrom B W W') : Held B r W' := ⟨hk.same _ _ (by omega) h.loop rfl, hk.same _ _ (Nat.le_refl _) h.calls rfl⟩
theorem Held.put {B : Nat} {r : Loop} {W : World} (h : Held B r W) (r' : Loop) : Held B r' (W.putObj (B + 1) (.loop r')) :=
  ⟨World.putObj_heap_same h.lt, (World.putObj_heap_other (by omega)).trans h.calls⟩

variable {F : Fence} {n : Nat} {P : Program}

theorem wpIn_rangeFunc_ok {α : Type} {g : Operand} {ps : Array Tmp} {assign body : Code} {Q : Exit → Act → World → Prop} {a : Act} {w : World}
    (hro : F.round = none) (h1 : 1 ≤ n) {gf : Nat} {lb : Array Value} (hg : a.eval g = .func (.func gf) #[] lb) (hFg : F.fn gf) (eg : ∀ args w, (callFunc gf args).run P w = .ok (.enter gf args) w)
    {encs : α → Array Value} {Kp : World → World → Prop} {Ok S Sp : List α → Prop} {w0 : World} (hseq : SeqOk F (n - 1) P gf lb encs Kp Ok S Sp w0)
    (hKt : ∀ {A B C : World}, Kp A B → Kp B C → Kp A C) (hKb : ∀ (W : World) (l : Nat) (o o' : Obj), w.heap.size ≤ l → W.heap[l]? = some o → o.isCells = false → o.isWalk = false → Kp W (W.putObj l o')) (hb0 : Below w0.heap.size w0 w) (hps : ∀ x, (encs x).size = ps.size)
    (I : List α → World → Prop) (Ix : Code → List α → World → Prop) (hI : OwnFrom w.heap.size I) (hIx : ∀ c, OwnFrom w.heap.size (Ix c)) (h0 : I [] w) (Ax : α → Act → World → Prop) (hAx : ∀ x a', OwnFrom w.heap.size (fun (_ : Unit) W => Ax x a' W))
    (hassign : ∀ (l : Nat) (pre : List α) (x : α) (W : World) (K : Act → World → Prop), I pre W → Ok (pre ++ [x]) → (∀ a' W', KeepsFrom w.heap.size W W' → Kp W W' → I pre W' → Ax x a' W' → K a' W') →
      assign.wpIn (F.inRound l) (n - 1 - 1) P (Exit.then K (fun _ _ _ => False)) { tmps := (ps.zip (encs x)).foldl (fun t (p, v) => t.setIfInBounds p v) a.tmps, defers := [] } W)
    (hbody : ∀ (l : Nat) (pre : List α) (x : α) (a' : Act) (W : World), I pre W → Ok (pre ++ [x]) → Ax x a' W → body.wpIn (F.inRound l) (n - 1 - 1) P (ownPostG w.heap.size Kp I Ix (pre ++ [x]) W) a' W)
    (hdone : ∀ (D : Nat) (xs : List α) (W : World), w.heap.size ≤ D → S xs → I xs W → W.heap[D]? = some (.deferred (some [])) → Q .normal { a with defers := { target := .collected D, args := #[] } :: a.defers } W)
    (hstop : ∀ (D : Nat) (c : Code) (pre : List α) (W : World), w.heap.size ≤ D → Sp pre → Ix c pre W → W.heap[D]? = some (.deferred (some [])) → c.wpIn F n P Q { a with defers := { target := .collected D, args := #[] } :: a.defers } W) :
    (Code.rangeFunc g ps assign body).wpIn F n P Q a w := by
  refine wpIn_rangeFunc fun fn hfn => ?_
  rw [hro]
  obtain ⟨rc, hrc⟩ : ∃ rc : LoopState → Option Code → Loop, rc = fun st pe => { state := st, pending := pe, fn, tmps := a.tmps, params := ps, assign, body, defers := w.heap.size } := ⟨_, rfl⟩
  obtain ⟨V, hV⟩ : ∃ V, (w.alloc (.deferred (some []))).alloc (.loop (rc .ready none)) = V := ⟨_, rfl⟩
  have hVs : V.heap.size = w.heap.size + 2 := by rw [← hV]; simp
  have hheld : Held w.heap.size (rc .ready none) V := by
    rw [← hV]
    refine ⟨?_, (Below.heap_alloc _ _ _ (by simp)).trans (World.alloc_heap_new w _)⟩
    have := World.alloc_heap_new (w.alloc (.deferred (some []))) (.loop (rc .ready none))
    rwa [World.size_alloc] at this
  have hIV : I [] V := by rw [← hV]; exact hI.alloc _ (hI.alloc _ h0)
  have hbV : Below w0.heap.size w0 V := by rw [← hV]; exact hb0.trans ((((Below.refl _ w).alloc (Nat.le_refl _) _).alloc (by simp) _).mono hb0.size)
  refine ⟨w.heap.size + 1, [{ target := .collected w.heap.size, args := #[] }], V, { target := .fn (.func gf) lb, args := #[.func (.yield (w.heap.size + 1)) #[] #[]] }, V, gf,
    #[.func (.yield (w.heap.size + 1)) #[] #[]] ++ lb, V, ?_, ?_, ?_, ?_, fun _ => h1, ?_⟩
  · rw [← hV, hrc]; exact run_enterLoop_outer _ _ _ _ _
  · simp only [resolve, hg]
    simp [go_sem]
  · intro f' hf'; simp [Target.leads] at hf'; subst hf'; exact hFg
  · simp [invoke, go_sem, eg]
  have other : ∀ {A : World} {row : Option Nat}, (∀ r, row = some r → V.heap.size ≤ r ∧ ∃ o : Obj, A.heap[r]? = some o ∧ o.isWalk = true) → ∀ r, row = some r → w.heap.size ≤ r ∧ ∃ o : Obj, A.heap[r]? = some o ∧ o.isCells = false := fun hr r e => by
    obtain ⟨hB, o, ho, hw⟩ := hr r e
    exact ⟨by omega, o, ho, Obj.not_cells_of_walk hw⟩
  refine (hseq (w.heap.size + 1) (fun pre W => I pre W ∧ Held w.heap.size (rc .ready none) W) (fun pre W => ∃ c, Ix c pre W ∧ Held w.heap.size (rc .done (some c)) W) V hbV
    (fun s A B row hs hg' hr => ⟨hI s A B row hs.1 hg' (other hr), hs.2.walks hg' (fun r e => (hr r e).2)⟩)
    (fun s A B row hs hg' hr => by
      obtain ⟨c, hc, hh⟩ := hs
      exact ⟨c, hIx c s A B row hc hg' (other hr), hh.walks hg' (fun r e => (hr r e).2)⟩)
    ?_ ⟨hIV, hheld⟩).mono ?_
  · -- one round
    rintro pre x W ⟨hi, hh⟩ hok
    have hy := run_yield (P := P) (args := encs x) hh.loop (by rw [hrc]; exact hps x)
    rw [hrc] at hy
    refine ⟨fn, _, assign, body, hy, roundIn_of_wpIn hfn (hassign _ pre x W _ hi hok ?_)⟩
    intro a' U hku hkp hiu hax
    have hu := hh.from hku
    refine ⟨_, run_beginRound hu.loop (by rw [hrc]), ?_⟩
    have hbusy := hu.put { rc .ready none with state := .busy }
    have hkb : Kp U (U.putObj (w.heap.size + 1) (.loop { rc .ready none with state := .busy })) := hKb _ _ _ _ (by omega) hu.loop rfl rfl
    refine wpIn_mono (hbody _ pre x a' _ (hI.putObj _ hiu (by omega) hu.loop rfl) hok ((hAx x a').putObj (s := ()) _ hax (by omega) hu.loop rfl)) ?_
    have fin : ∀ (jump : Option Code) (Z : World), KeepsFrom w.heap.size (U.putObj (w.heap.size + 1) (.loop { rc .ready none with state := .busy })) Z →
        (Instr.endRound (w.heap.size + 1) jump).run P Z = .ok (.bool jump.isNone) (Z.putObj (w.heap.size + 1) (.loop (rc (if jump.isNone then .ready else .done) jump))) ∧
        Held w.heap.size { rc .ready none with state := .busy } Z ∧ Held w.heap.size (rc (if jump.isNone then .ready else .done) jump) (Z.putObj (w.heap.size + 1) (.loop (rc (if jump.isNone then .ready else .done) jump))) := fun jump Z hz => by
      have h3 := hbusy.from hz
      have h4 := run_endRound (P := P) jump h3.loop
      rw [hrc] at h4 ⊢
      rw [hrc] at h3
      exact ⟨h4, h3, h3.put _⟩
    rintro e a3 Z hp
    cases e with
    | normal =>
      obtain ⟨q1, q2, q3⟩ := hp
      obtain ⟨f1, f2, f3⟩ := fin none Z q1
      exact ⟨_, _, f1, .inl ⟨rfl, ⟨hI.putObj _ q3 (by omega) f2.loop rfl, f3⟩, hKt hkp (hKt (hKt hkb q2) (hKb _ _ _ _ (by omega) f2.loop rfl rfl))⟩⟩
    | ret =>
      obtain ⟨q1, q3⟩ := hp
      obtain ⟨f1, f2, f3⟩ := fin (some .ret) Z q1
      exact ⟨_, _, f1, .inr ⟨rfl, .ret, (hIx _).putObj _ q3 (by omega) f2.loop rfl, f3⟩⟩
    | exit id =>
      obtain ⟨q1, q3⟩ := hp
      obtain ⟨f1, f2, f3⟩ := fin (some (.exit id)) Z q1
      exact ⟨_, _, f1, .inr ⟨rfl, .exit id, (hIx _).putObj _ q3 (by omega) f2.loop rfl, f3⟩⟩
    | goto t =>
      obtain ⟨q1, q3⟩ := hp
      obtain ⟨f1, f2, f3⟩ := fin (some (.goto t)) Z q1
      exact ⟨_, _, f1, .inr ⟨rfl, .goto t, (hIx _).putObj _ q3 (by omega) f2.loop rfl, f3⟩⟩
    | panic ch => exact hp.elim
    | outgrown => exact hp.elim
  · -- behind the iterator
    rintro e W2 ⟨⟨v, rfl⟩, (⟨xs, hS, hi, hh⟩ | ⟨pre, hSp, c, hi, hh⟩)⟩
    · have h5 := run_endLoop (P := P) hh.loop (by rw [hrc]; simp)
      rw [hrc] at h5
      exact ⟨none, _, h5, hdone _ xs _ (Nat.le_refl _) hS (hI.putObj _ hi (by omega) hh.loop rfl) ((World.putObj_heap_other (by omega)).trans hh.calls)⟩
    · have h5 := run_endLoop (P := P) hh.loop (by rw [hrc]; simp)
      rw [hrc] at h5
      exact ⟨some c, _, h5, hstop _ c pre _ (Nat.le_refl _) hSp ((hIx c).putObj _ hi (by omega) hh.loop rfl) ((World.putObj_heap_other (by omega)).trans hh.calls)⟩

/-! ### what a round keeps: all rows of some types -/
def KpT (p : Nat → Prop) (W W' : World) : Prop := ∀ (k : Nat) cs (T : TypeId) fr, p T → W.heap[k]? = some (.cells cs T fr) → W'.heap[k]? = some (.cells cs T fr)
variable {p : Nat → Prop}
theorem KpT.refl (W : World) : KpT p W W := fun _ _ _ _ _ h => h
theorem KpT.trans {A B C : World} (h : KpT p A B) (k : KpT p B C) : KpT p A C := fun i cs T fr hT hi => k i cs T fr hT (h i cs T fr hT hi)
theorem KpT.of_below {W W' : World} (h : Below W.heap.size W W') : KpT p W W' := fun k _ _ _ _ hk => (h.block k (Array.getElem?_eq_some_iff.1 hk).1).trans hk
theorem KpT.alloc {A W : World} (h : KpT p A W) (o : Obj) : KpT p A (W.alloc o) := h.trans (.of_below ((Below.refl _ W).alloc (Nat.le_refl _) o))
theorem KpT.drew {A W : World} (h : KpT p A W) : KpT p A W.drew := h
theorem KpT.put (W : World) (l : Nat) (o o' : Obj) (h : W.heap[l]? = some o) (ho : o.isCells = false) : KpT p W (W.putObj l o') := fun k cs T fr _ hk => by
  by_cases e : k = l
  · subst e
    rw [h] at hk
    cases hk
    simp [Obj.isCells] at ho
  · exact (World.putObj_heap_other e).trans hk
theorem KpT.set {A W : World} (h : KpT p A W) {a : Addr} {cs : Array Value} {T : TypeId} {fr : Nat × Nat} (ha : W.heap[a.block]? = some (.cells cs T fr)) (hT : ¬ p T) (v : Value) : KpT p A (W.setCell a v) :=
  h.trans fun k cs' T' fr' hT' hk => by
    by_cases e : k = a.block
    · subst e
      rw [ha] at hk
      cases hk
      exact absurd hT' hT
    · exact (Below.heap_setCell W a v k e).trans hk
theorem KpT.grown {A W W' : World} (h : KpT p A W) {row : Option Nat} (hg : W.grownBy W' row) (hr : ∀ k cs (T : TypeId) fr, row = some k → W.heap[k]? = some (.cells cs T fr) → ¬ p T) : KpT p A W' :=
  h.trans fun k cs T fr hT hk => by
    refine (hg.block k (Array.getElem?_eq_some_iff.1 hk).1 ?_).trans hk
    intro e
    exact hr k cs T fr e.symm hk hT
theorem KpT.cell {W W' : World} (h : KpT p W W') {k o : Nat} {cs : Array Value} {T : TypeId} {fr : Nat × Nat} (hT : p T) (hk : W.heap[k]? = some (.cells cs T fr)) : W'.cell? ⟨k, o, none⟩ = W.cell? ⟨k, o, none⟩ :=
  World.cell?_of_block ((h k cs T fr hT hk).trans hk.symm)
end Go.Sq

/- The contracts of record.Data, and of the iterator that record.Names hands out. -/
namespace Go.Proofs.YtkpcmnckdappnaaGreat
open Go.RowKit Go.Shelf Go.Sq

attribute [local go_sem] Oper.semAt_some
set_option linter.unusedVariables false

set_option maxRecDepth 100000 in
set_option maxHeartbeats 2000000 in
theorem Data_any (t : Int) (s : ByteArray) (w : World) (hs : s.size ≤ maxLen) :
    Calls Tryz.prog 85 #[.int .i64 t, .string s] w fun e w' => e = .returned (.bool (Rc.dataB t (bl s))) ∧ Below w.heap.size w w' := by
  have hp := places_any t s w hs
  have htx := fun w => texts_any s w hs
  have hl := size_bl s
  have hd : Rc.dataB t (bl s) = if 1000 < (bl s).length then false else if t = 1 then decide ((bl s).length = 4) else if t = 28 then decide ((bl s).length = 16) else if t = 16 then Rc.textsB (bl s) else (Rc.placesP t (bl s)).2 := rfl
  rw [← hl] at hd
  generalize Rc.dataB t (bl s) = res at *
  generalize Rc.textsB (bl s) = tx at *
  generalize Rc.placesP t (bl s) = p at *
  obtain ⟨pl, pb⟩ := p
  simp only at hd
  have HP := Go.Lib.hid hp
  have HTX := Go.Lib.hid htx
  clear hp htx
  by_cases hbig : 1000 < s.size
  · rw [if_pos hbig] at hd
    have e1 : 1000 < (s.size : Int) := by omega
    have HD := Go.Lib.hid hd
    clear hd
    clear hs hl hbig
    go_enter Tryz.func85, Tryz.ntmps85
    go_wp2_with fail
    refine HP.out.mono ?_; rintro e w1 ⟨v, rfl, hst, hb⟩
    have HB := Go.Lib.hid hb
    clear hb
    clear hst
    go_wp2_with fail
    go_ret
    exact ⟨ret_bool HD.out.symm, HB.out⟩
  · rw [if_neg hbig] at hd
    have e1 : ¬ 1000 < (s.size : Int) := by omega
    by_cases h1 : t = 1
    · rw [if_pos h1] at hd
      subst h1
      by_cases h4 : s.size = 4
      · rw [decide_eq_true h4] at hd
        have e2 : ((s.size : Int) == 4) = true := by rw [beq_iff_eq]; omega
        have HD := Go.Lib.hid hd
        clear hd
        clear hs hl hbig h4
        go_enter Tryz.func85, Tryz.ntmps85
        go_wp2_with fail
        refine HP.out.mono ?_; rintro e w1 ⟨v, rfl, hst, hb⟩
        have HB := Go.Lib.hid hb
        clear hb
        clear hst
        go_wp2_with fail
        go_ret
        exact ⟨ret_bool HD.out.symm, HB.out⟩
      · rw [decide_eq_false h4] at hd
        have e2 : ((s.size : Int) == 4) = false := by rw [beq_eq_false_iff_ne]; omega
        have HD := Go.Lib.hid hd
        clear hd
        clear hs hl hbig h4
        go_enter Tryz.func85, Tryz.ntmps85
        go_wp2_with fail
        refine HP.out.mono ?_; rintro e w1 ⟨v, rfl, hst, hb⟩
        have HB := Go.Lib.hid hb
        clear hb
        clear hst
        go_wp2_with fail
        go_ret
        exact ⟨ret_bool HD.out.symm, HB.out⟩
    · rw [if_neg h1] at hd
      have e3 : (t == 1) = false := by rw [beq_eq_false_iff_ne]; exact h1
      by_cases h28 : t = 28
      · rw [if_pos h28] at hd
        subst h28
        clear h1 e3
        by_cases h4 : s.size = 16
        · rw [decide_eq_true h4] at hd
          have e2 : ((s.size : Int) == 16) = true := by rw [beq_iff_eq]; omega
          have HD := Go.Lib.hid hd
          clear hd
          clear hs hl hbig h4
          go_enter Tryz.func85, Tryz.ntmps85
          go_wp2_with fail
          refine HP.out.mono ?_; rintro e w1 ⟨v, rfl, hst, hb⟩
          have HB := Go.Lib.hid hb
          clear hb
          clear hst
          go_wp2_with fail
          go_ret
          exact ⟨ret_bool HD.out.symm, HB.out⟩
        · rw [decide_eq_false h4] at hd
          have e2 : ((s.size : Int) == 16) = false := by rw [beq_eq_false_iff_ne]; omega
          have HD := Go.Lib.hid hd
          clear hd
          clear hs hl hbig h4
          go_enter Tryz.func85, Tryz.ntmps85
          go_wp2_with fail
          refine HP.out.mono ?_; rintro e w1 ⟨v, rfl, hst, hb⟩
          have HB := Go.Lib.hid hb
          clear hb
          clear hst
          go_wp2_with fail
          go_ret
          exact ⟨ret_bool HD.out.symm, HB.out⟩
      · rw [if_neg h28] at hd
        have e4 : (t == 28) = false := by rw [beq_eq_false_iff_ne]; exact h28
        by_cases h16 : t = 16
        · rw [if_pos h16] at hd
          subst h16
          have HD := Go.Lib.hid hd
          clear hd
          clear hs hl hbig e3 e4 h1 h28
          go_enter Tryz.func85, Tryz.ntmps85
          go_wp2_with fail
          refine HP.out.mono ?_; rintro e w1 ⟨v, rfl, hst, hb⟩
          have HB := Go.Lib.hid hb
          clear hb
          clear hst
          go_wp2_with fail
          refine (HTX.out _).mono ?_; rintro e _ ⟨rfl, rfl⟩
          go_wp2_with fail
          go_ret
          exact ⟨ret_bool HD.out.symm, HB.out⟩
        · rw [if_neg h16] at hd
          have e5 : (t == 16) = false := by rw [beq_eq_false_iff_ne]; exact h16
          have HD := Go.Lib.hid hd
          clear hd
          clear hs hl hbig h1 h28 h16
          go_enter Tryz.func85, Tryz.ntmps85
          go_wp2_with fail
          refine HP.out.mono ?_; rintro e w1 ⟨v, rfl, hst, hb⟩
          have HB := Go.Lib.hid hb
          clear hb
          clear hst
          go_wp2_with fail
          go_ret
          exact ⟨ret_bool HD.out.symm, HB.out⟩

/-! ### Names -/
/-- record.Names(t, d): both are boxed; the function value captures the boxes -/
theorem Names_any (t : Int) (s : ByteArray) (w : World) :
    Calls Tryz.prog 74 #[.int .i64 t, .string s] w fun e w' => e = .returned (.func (.func 97) #[] #[.pointer (some ⟨w.heap.size, 0, none⟩), .pointer (some ⟨w.heap.size + 1, 0, none⟩)]) ∧
      w' = (w.alloc (.cells #[.int .i64 t] 3)).alloc (.cells #[.string s] 9) := by
  go_enter Tryz.func74, Tryz.ntmps74
  go_wp2
  go_ret
  exact ⟨rfl, rfl⟩

theorem abides_below {β : Type} {B : Nat} {J : β → World → Prop} (hJ : AbidesFrom B J) {s : β} {W W' : World} (h : J s W) (hb : Below W.heap.size W W') : J s W' :=
  hJ s W W' none h ⟨hb.os, hb.tape, hb.output, hb.size, fun k hk _ => hb.block k hk⟩ (fun r e => by cases e)

abbrev IsPlace (T : Nat) : Prop := T = 122
/-- the pairs as the iterator hands them out -/
def encPair (p : Nat × Nat) : Array Value := #[.int .i64 p.1, .int .i64 p.2]

theorem pair_cells {w : World} {B e k cap : Nat} {a : Option Addr} {L : List (Nat × Nat)} (h : w.ownsRow B e 2 (.slice a L.length cap) L.length (encP L)) (hk : k < L.length) :
    ∃ g cur, a = some ⟨g, 0, none⟩ ∧ w.heap[g]? = some (.cells cur e (0, 0)) ∧ w.cell? ⟨g, k * 2, none⟩ = some (.int .i64 (L.getD k (0, 0)).1) ∧ w.cell? ⟨g, k * 2 + 1, none⟩ = some (.int .i64 (L.getD k (0, 0)).2) := by
  have hP : Pairs w (.slice a L.length cap) L := SlC.of_owns h
  obtain ⟨b, off, ha, _, hc⟩ := Pairs.at hP (by omega)
  obtain ⟨h1, h2⟩ := h
  rcases h2 with ⟨hv, h0⟩ | ⟨g, cap', cur, hv, _, hg, _⟩
  · simp only [Value.slice.injEq] at hv
    omega
  · simp only [Value.slice.injEq] at hv
    obtain ⟨hv1, _, _⟩ := hv
    rw [hv1] at ha
    simp only [Option.some.injEq, Addr.mk.injEq] at ha
    obtain ⟨rfl, rfl, _⟩ := ha
    obtain ⟨c1, c2⟩ := hc k hk
    rw [Nat.zero_add, Nat.mul_comm] at c1 c2
    exact ⟨g, cur, hv1, hg, c1, c2⟩

set_option maxRecDepth 100000 in
set_option maxHeartbeats 2000000 in
theorem names_seq (n : Nat) (hn : 3 ≤ n) (Bt Bd : Nat) (t : Int) (s : ByteArray) (hs : s.size ≤ maxLen) (w : World) (hBt : Bt < w.heap.size) (hBd : Bd < w.heap.size)
    (hct : w.cell? ⟨Bt, 0, none⟩ = some (.int .i64 t)) (hcd : w.cell? ⟨Bd, 0, none⟩ = some (.string s)) :
    SeqOk Fence.wide n Tryz.prog 97 #[.pointer (some ⟨Bt, 0, none⟩), .pointer (some ⟨Bd, 0, none⟩)] encPair (KpT IsPlace)
      (fun xs => xs <+: (Rc.partsN t (bl s)).getD []) (fun xs => xs = (Rc.partsN t (bl s)).getD []) (fun xs => xs <+: (Rc.partsN t (bl s)).getD []) w := fun l J Jx W hW hJ hJx hY h0 => by
  have hct' := (hW.cell (p := ⟨Bt, 0, none⟩) hBt).trans hct
  have hcd' := (hW.cell (p := ⟨Bd, 0, none⟩) hBd).trans hcd
  have hd := fun w => Data_any t s w hs
  have hp := fun w => places_any t s w hs
  have hsz := hW.size
  clear hct hcd hs
  cases hdt : Rc.dataB t (bl s) with
  | false =>
    rw [hdt] at hd
    rw [Rc.partsN_none hdt] at hY ⊢
    have HD := Go.Lib.hid hd
    have HY := Go.Lib.hid hY
    have HJ := Go.Lib.hid hJ
    have HJX := Go.Lib.hid hJx
    have H0 := Go.Lib.hid h0
    have HW := Go.Lib.hid hW
    clear hd hY hJ hJx h0 hW
    clear hp hdt
    refine callsIn_of_wp Tryz.func97 rfl trivial ?_ rfl
    simp only [Tryz.ntmps97, List.size_toArray, List.length_cons, List.length_nil, Nat.reduceAdd, Nat.reduceSub, Array.replicate_succ, Array.replicate_zero, List.push_toArray, List.append_toArray, List.nil_append, List.cons_append]
    gi_wp2_with fail
    refine ⟨trivial, fun _ => by omega, (callsIn_wide.2 (HD.out _)).mono ?_⟩
    rintro e W1 ⟨rfl, hb⟩
    have hj := abides_below HJ.out H0.out hb
    have HJ1 := Go.Lib.hid hj
    have HB := Go.Lib.hid hb
    clear hj hb
    gi_wp2_with fail
    refine bodyPost_ret (results_none rfl _ _ _) rfl ?_
    exact ⟨⟨_, rfl⟩, .inl ⟨[], rfl, HJ1.out⟩⟩
  | true =>
    rw [hdt] at hd
    rw [Rc.partsN_some hdt] at hY ⊢
    simp only [Option.getD_some] at hY ⊢
    have HD := Go.Lib.hid hd
    have HY := Go.Lib.hid hY
    have HJ := Go.Lib.hid hJ
    have HJX := Go.Lib.hid hJx
    have H0 := Go.Lib.hid h0
    have HW := Go.Lib.hid hW
    have HP := Go.Lib.hid hp
    clear hd hY hJ hJx h0 hW hp
    have hL2 := (Rc.placesP_chain t (bl s)).2
    clear hdt
    generalize Rc.placesP t (bl s) = p at *
    obtain ⟨L, pb⟩ := p
    simp only at HY hL2
    refine callsIn_of_wp Tryz.func97 rfl trivial ?_ rfl
    simp only [Tryz.ntmps97, List.size_toArray, List.length_cons, List.length_nil, Nat.reduceAdd, Nat.reduceSub, Array.replicate_succ, Array.replicate_zero, List.push_toArray, List.append_toArray, List.nil_append, List.cons_append]
    gi_wp2_with fail
    refine ⟨trivial, fun _ => by omega, (callsIn_wide.2 (HD.out _)).mono ?_⟩
    rintro e W1 ⟨rfl, hb⟩
    have hj := abides_below HJ.out H0.out hb
    have hct2 := (hb.cell (p := ⟨Bt, 0, none⟩) (by show Bt < _; omega)).trans hct'
    have hcd2 := (hb.cell (p := ⟨Bd, 0, none⟩) (by show Bd < _; omega)).trans hcd'
    have hsz1 := hb.size
    have HJ1 := Go.Lib.hid hj
    have HB := Go.Lib.hid hb
    clear hj hb
    clear hct' hcd'
    gi_wp2_with fail
    refine ⟨trivial, fun _ => by omega, (callsIn_wide.2 (HP.out _)).mono ?_⟩
    rintro e W2 ⟨v, rfl, hown, hb2⟩
    have hj := abides_below HJ.out HJ1.out hb2
    have hsz2 := hb2.size
    obtain ⟨a, cap, rfl, hcap, hcm⟩ := (SlC.of_owns hown).slice
    have HJ2 := Go.Lib.hid hj
    have HB2 := Go.Lib.hid hb2
    have HO := Go.Lib.hid hown
    clear hj hb2 hown
    clear hct2 hcd2
    gi_wp2_with fail
    gi_loopw [20] (fun i wr => ∃ k : Nat, k ≤ L.length ∧ i = .int .i64 k ∧ J (L.take k) wr ∧ KpT IsPlace W2 wr)
      (fun i _ => L.length - (intOf i).toNat)
    case atStart => exact ⟨0, Nat.zero_le _, rfl, by simpa using HJ2.out, KpT.refl _⟩
    case round =>
      obtain ⟨k, hk, rfl, hj, hkp⟩ := hrel
      have HJS := Go.Lib.hid hj
      have HKP := Go.Lib.hid hkp
      clear hj hkp
      by_cases hlt : k < L.length
      · obtain ⟨g, cur, hga, hrow, hc1, hc2⟩ := pair_cells HO.out hlt
        cases hga
        have hr1 := (HKP.out.cell (o := k * 2) rfl hrow).trans hc1
        have hr2 := (HKP.out.cell (o := k * 2 + 1) rfl hrow).trans hc2
        have hsn : L.take (k + 1) = L.take k ++ [L.getD k (0, 0)] := by
          rw [List.take_succ_eq_append_getElem hlt]
          simp [hlt]
        have HSN := Go.Lib.hid hsn
        have HROW := Go.Lib.hid hrow
        clear hsn hrow
        clear hc1 hc2
        generalize L.getD k (0, 0) = q at *
        obtain ⟨qa, qn⟩ := q
        have hj3 := abides_below HJ.out HJS.out ((Below.refl _ wr).alloc (Nat.le_refl _) (.cells #[.int .i64 qa, .int .i64 qn] 122))
        have hpre : L.take k ++ [(qa, qn)] <+: L := by rw [← HSN.out]; exact List.take_prefix _ _
        obtain ⟨fn, tmps, assign, body, hy, hR⟩ := HY.out _ (qa, qn) _ hj3 hpre
        unfold encPair at hy
        have hkp3 := HKP.out.alloc (.cells #[.int .i64 qa, .int .i64 qn] 122)
        have HR := Go.Lib.hid hR
        have HJ3 := Go.Lib.hid hj3
        have HKP3 := Go.Lib.hid hkp3
        have HPRE := Go.Lib.hid hpre
        clear hR hj3 hkp3 hpre
        gi_wp2_with fail
        refine ⟨fun _ => by omega, HR.out.mono ?_⟩
        rintro e W3 (⟨rfl, hJ3, hk3⟩ | ⟨rfl, hJx3⟩)
        · have HJ4 := Go.Lib.hid hJ3
          have HK4 := Go.Lib.hid hk3
          clear hJ3 hk3
          clear hy
          gi_wp2_with fail
          go_roundw
          case rel => exact ⟨k + 1, by omega, by simp, by rw [HSN.out]; exact HJ4.out, HKP3.out.trans HK4.out⟩
          case measure => simp [intOf]; omega
        · have HJX4 := Go.Lib.hid hJx3
          clear hJx3
          clear hy
          gi_wp2_with fail
          refine bodyPost_ret (results_none rfl _ _ _) rfl ?_
          exact ⟨⟨_, rfl⟩, .inr ⟨_, HPRE.out, HJX4.out⟩⟩
      · obtain rfl : k = L.length := by omega
        gi_wp2_with fail
        go_end0
        exact ⟨⟨_, rfl⟩, .inl ⟨_, rfl, by have := HJS.out; rwa [List.take_length] at this⟩⟩
end Go.Proofs.YtkpcmnckdappnaaGreat

/- A region whose order is left open and whose last operation waits for all others, in a round of a range over a function: walked once, in the order of the text. No conditions beside. -/
namespace Go.Mix
open Go
section
variable {P : Program} {ops : Array Oper} {md : Region.Mode} {E : Nat → Bool} {C : World → Prop}

theorem operIn_of_wp {l n : Nat} {o : Oper} {a : Act} {w : World} {K K' : Act → World → Prop} {Q : Exit → Act → World → Prop} (hd : ∀ c, o.op ≠ .defer c) (h : ∀ a w, K a w → K' a w)
    (hh : o.wp P a w K NoExit) : o.wpIn (Fence.wide.inRound l) n P a w K' Q := by
  refine ⟨fun _ _ => trivial, ?_⟩
  rw [show (Fence.wide.inRound l).round = some l from rfl, Oper.semAt_some l _ _ hd]
  unfold Oper.wp at hh
  generalize (execOp a.eval o).run P w = r at *
  cases r with
  | ok x w' =>
    cases x <;> simp only [Oper.upon] at hh
    case value v => exact h _ _ hh
    case skip => exact h _ _ hh
    case defer d => exact h _ _ hh
    case enter f args =>
      refine ⟨(fun hx => by cases hx), CallsIn.inRound l (callsIn_wide.2 (hh.mono fun e w'' he => ?_))⟩
      cases e with
      | returned v => exact h _ _ he
      | panicked c => exact he.elim
      | outgrown => exact (letsOut_noExit he).elim
    case row r args =>
      refine ⟨(fun hx => by cases hx), fun c cs _ => ?_⟩
      obtain ⟨v, w'', hr, hs⟩ := hh c cs
      exact ⟨v, w'', h _ _ hr, stepsIn_wide.2 hs⟩
  | halt x w' => cases x <;> simp only [Oper.upon] at hh <;> exact hh.elim

def noDeferB (ops : Array Oper) : Bool := ops.all fun o => match o.op with | .defer _ => false | _ => true
theorem noDefer_spec (h : noDeferB ops = true) {i : Nat} {o : Oper} (hi : ops[i]? = some o) : ∀ c, o.op ≠ .defer c := by
  intro c e
  obtain ⟨hlt, rfl⟩ := Array.getElem?_eq_some_iff.1 hi
  have := Array.all_eq_true.1 h i hlt
  rw [e] at this
  cases this

theorem wpOpIn_of_mOp {l n i : Nat} {a : Act} {w : World} {K K' : Act → World → Prop} {Q : Exit → Act → World → Prop} (hnd : noDeferB ops = true) (hw : C w) (h : ∀ a w, C w → K a w → K' a w)
    (hh : mOp P ops E C i K a w) : wpOpIn (Fence.wide.inRound l) n P ops Q i K' a w := by
  unfold mOp at hh
  unfold wpOpIn
  split
  · rename_i ho; simp only [ho] at hh; exact h _ _ hw hh
  · rename_i o ho
    simp only [ho] at hh
    split
    · rename_i hwt
      simp only [hwt, if_true] at hh
      split at hh
      · exact operIn_of_wp (noDefer_spec hnd ho) (fun a w hk => h _ _ hk.1 hk.2) hh
      · obtain ⟨v, h1, h2⟩ := hh
        refine operIn_of_wp (K := fun a' w' => C w' ∧ K a' w') (noDefer_spec hnd ho) (fun a w hk => h _ _ hk.1 hk.2) ?_
        unfold Oper.wp
        rw [h1 w hw]
        exact ⟨hw, h2⟩
    · rename_i hwt
      simp only [hwt] at hh
      exact ⟨fun _ _ => trivial, h _ _ hw hh⟩

theorem wpOpIn_of_tOp {l n i : Nat} {a : Act} {w : World} {K K' : Act → World → Prop} {Q : Exit → Act → World → Prop} (hnd : noDeferB ops = true) (h : ∀ a w, K a w → K' a w)
    (hh : tOp P ops i K a w) : wpOpIn (Fence.wide.inRound l) n P ops Q i K' a w := by
  unfold tOp at hh
  unfold wpOpIn
  split
  · rename_i ho; simp only [ho] at hh; exact h _ _ hh
  · rename_i o ho
    simp only [ho] at hh
    split
    · rename_i hwt
      simp only [hwt, if_true] at hh
      exact operIn_of_wp (noDefer_spec hnd ho) h hh
    · rename_i hwt
      simp only [hwt] at hh
      exact ⟨fun _ _ => trivial, h _ _ hh⟩

theorem wpAnyIn_end {F : Fence} {n : Nat} {Q : Exit → Act → World → Prop} {listed : Array Bool} (h : Region.ready md ops listed = []) (fuel : Nat) {a : Act} {w : World} (hq : Q .normal a w) : wpAnyIn F n P md ops Q fuel listed a w := by
  cases fuel with
  | zero => exact ⟨h, hq⟩
  | succ n => exact ⟨fun _ => hq, fun i hi => (by rw [h] at hi; cases hi)⟩

theorem wpAnyIn_of_wpAnyT {l n : Nat} {Q : Act → World → Prop} {Q' : Exit → Act → World → Prop} {tl : Nat} (hnd : noDeferB ops = true) (hQ : ∀ a w, Q a w → Q' .normal a w) :
    ∀ (fuel : Nat) (listed : Array Bool) (a : Act) (w : World), C w → wpAnyT P md ops E C Q tl fuel listed a w → wpAnyIn (Fence.wide.inRound l) n P md ops Q' fuel listed a w
  | 0, _, _, _, _, h => ⟨h.1, hQ _ _ h.2⟩
  | fuel + 1, listed, a, w, hw, h => ⟨fun h0 => hQ _ _ (h.1 h0), fun i hi => by
      by_cases hit : i = tl
      · obtain ⟨h1, h2⟩ := (h.2 i hi).1 hit
        exact wpOpIn_of_tOp hnd (fun a' w' hq => wpAnyIn_end h1 fuel (hQ _ _ hq)) h2
      · exact wpOpIn_of_mOp hnd hw (fun a' w' hw' => wpAnyIn_of_wpAnyT hnd hQ fuel _ a' w' hw') ((h.2 i hi).2 hit)⟩

theorem wpIn_region_mixT {ro n : Nat} {id : Nat} {l : List Oper} {Es : List Nat} (tl : Nat) (C : World → Prop) {Q : Exit → Act → World → Prop} {a : Act} {w : World} (hm : P.follows .mixedOrders = true)
    (hB : (Region.lexB .any l.toArray && chainB .any l.toArray Es && tailB .any l.toArray tl && noDeferB l.toArray) = true) (hC : C w.drew)
    (h : MixT P l.toArray (fun k => Es.contains k) C (fun a' w' => Q .normal a' w') tl 0 l a w.drew) : (Code.region id l.toArray true).wpIn (Fence.wide.inRound ro) n P Q a w := by
  simp only [Region.lexB, Bool.and_eq_true] at hB
  obtain ⟨ht1, ht2⟩ := tail_of hB.1.2
  refine wpIn_region_any hm (wpAnyIn_of_wpAnyT (Q := fun a' w' => Q .normal a' w') (C := C) (E := fun k => Es.contains k) (tl := tl) hB.2 (fun _ _ h => h) _ _ _ _ hC ?_)
  have := wpAnyT_lex (P := P) (C := C) (Q := fun a' w' => Q .normal a' w') (md := .any) (chain_of hB.1.1.2) ht1 ht2 hB.1.1.1.1 l 0 (Array.replicate l.toArray.size false) a w.drew (by simp) (fun j hj => by omega) (Down.start _) hC (by simpa using hB.1.1.1.2) h.out
  simpa using this
end
end Go.Mix

/- The contracts of record.Fold and record.Same: data with its names folded, and whether two records are alike. -/
namespace Go.Proofs.YtkpcmnckdappnaaGreat
open Go.RowKit Go.Shelf Go.Sq
set_option linter.unusedVariables false

attribute [local go_sem] Oper.semAt_some

theorem BelowC.cell {W : World} {p : Addr} {v : Value} (h : W.cell? p = some v) (hp : p.block < W.heap.size) (w3 : Subtype (Below W.heap.size W)) : w3.1.cell? p = some v := (w3.2.cell hp).trans h
theorem foldD_run (t : Int) (d : List UInt8) : Rc.foldD t d = (Rc.runF d ((Rc.partsN t d).getD [])).1 ++ d.drop (Rc.runF d ((Rc.partsN t d).getD [])).2 := by
  unfold Rc.foldD
  cases h : Rc.partsN t d with
  | none => rfl
  | some l => exact (Rc.runF_fold (Rc.partsN_chain h).1).1
theorem parts_chain (t : Int) (d : List UInt8) : Rc.Chain d 0 ((Rc.partsN t d).getD []) := by
  cases h : Rc.partsN t d with
  | none => exact Nat.zero_le _
  | some l => exact (Rc.partsN_chain h).1

theorem keepsFrom_below {B : Nat} {W W' : World} (h : Below W.heap.size W W') : KeepsFrom B W W' := KeepsFrom.of_grownBy (row := none) ⟨h.os, h.tape, h.output, h.size, fun k hk _ => h.block k hk⟩ (fun j e => by cases e)

abbrev fr50 (t : Int) (s : ByteArray) (N : Nat) (x : Nat × Nat) : Act := { tmps := #[.int .i64 t, .string s, undef, .pointer (some ⟨N, 0, none⟩), .string ⟨#[]⟩, .pointer (some ⟨N + 1, 0, none⟩), .pointer (some ⟨N + 1 + 1, 0, none⟩), .int .i64 (x.1 : Int), .int .i64 (x.2 : Int), .int .i64 t, .string s,
  .func (.func 97) #[] #[.pointer (some ⟨N + 1 + 1 + 1, 0, none⟩), .pointer (some ⟨N + 1 + 1 + 1 + 1, 0, none⟩)], .int .i64 (x.1 : Int), .int .i64 (x.2 : Int), undef, undef, undef, undef, undef, undef, undef, undef, undef, undef, undef, undef, undef, undef, undef, undef, undef, undef, undef, undef, undef, undef], defers := [] }

/-- what the loop has laid by -/
def FoldI (w : World) (s : ByteArray) (t : Int) (pre : List (Nat × Nat)) (W : World) : Prop :=
  ((Boxed W w.heap.size 9 (.string s) ∧ Boxed W (w.heap.size + 1) 9 (.string (mk (Rc.runF (bl s) pre).1)) ∧ Boxed W (w.heap.size + 1 + 1) 3 (.int .i64 ((Rc.runF (bl s) pre).2 : Int))) ∧ Below w.heap.size w W) ∧ w.heap.size + 5 ≤ W.heap.size

set_option maxRecDepth 100000 in
set_option maxHeartbeats 4000000 in
theorem recFold_any (t : Int) (s : ByteArray) (w : World) (hs : s.size ≤ maxLen) :
    Calls Tryz.prog 104 #[.int .i64 t, .string s] w fun e w' => e = .returned (.string (mk (Rc.foldD t (bl s)))) ∧ Below w.heap.size w w' := by
  have hfin := Go.Lib.hid (foldD_run t (bl s))
  have hch := Go.Lib.hid (parts_chain t (bl s))
  have hnm := fun w => Names_any t s w
  have HNM := Go.Lib.hid hnm
  clear hnm
  refine (callsIn_wide (n := 6)).1 ?_
  refine callsIn_of_wp_marks Tryz.func104 rfl trivial ?_ rfl
  simp only [Tryz.ntmps104, List.size_toArray, List.length_cons, List.length_nil, Nat.reduceAdd, Nat.reduceSub, Array.replicate_succ, Array.replicate_zero, List.push_toArray, List.append_toArray, List.nil_append, List.cons_append]
  gi_wp2_with fail
  refine ⟨trivial, (callsIn_wide.2 (HNM.out _)).mono ?_⟩
  rintro e w2 ⟨rfl, hw2⟩
  have hsz2 : w2.heap.size = w.heap.size + 5 := by rw [hw2]; simp
  have hb2 : Below w.heap.size w w2 := by
    rw [hw2]
    exact ((((((Below.refl _ w).alloc (Nat.le_refl _) _).alloc (by simp) _).alloc (by simp; omega) _).alloc (by simp; omega) _).alloc (by simp; omega) _)
  have x1 : Boxed w2 w.heap.size 9 (.string s) := by
    rw [hw2]; exact ((((Boxed.new w _ _).alloc _).alloc _).alloc _).alloc _
  have x2 : Boxed w2 (w.heap.size + 1) 9 (.string ⟨#[]⟩) := by
    rw [hw2]
    have := Boxed.new (w.alloc (.cells #[.string s] 9)) 9 (.string ⟨#[]⟩)
    rw [World.size_alloc] at this
    exact ((this.alloc _).alloc _).alloc _
  have x3 : Boxed w2 (w.heap.size + 1 + 1) 3 (.int .i64 0) := by
    rw [hw2]
    have := Boxed.new ((w.alloc (.cells #[.string s] 9)).alloc (.cells #[.string ⟨#[]⟩] 9)) 3 (.int .i64 0)
    rw [World.size_alloc, World.size_alloc] at this
    exact (this.alloc _).alloc _
  have x4 : Boxed w2 (w.heap.size + 1 + 1 + 1) 3 (.int .i64 t) := by
    rw [hw2]
    have := Boxed.new (((w.alloc (.cells #[.string s] 9)).alloc (.cells #[.string ⟨#[]⟩] 9)).alloc (.cells #[.int .i64 0] 3)) 3 (.int .i64 t)
    rw [World.size_alloc, World.size_alloc, World.size_alloc] at this
    exact this.alloc _
  have x5 : Boxed w2 (w.heap.size + 1 + 1 + 1 + 1) 9 (.string s) := by
    rw [hw2]
    have := Boxed.new ((((w.alloc (.cells #[.string s] 9)).alloc (.cells #[.string ⟨#[]⟩] 9)).alloc (.cells #[.int .i64 0] 3)).alloc (.cells #[.int .i64 t] 3)) 9 (.string s)
    rw [World.size_alloc, World.size_alloc, World.size_alloc, World.size_alloc] at this
    exact this
  have hseq := names_seq 5 (by omega) _ _ t s hs w2 (by rw [hsz2]; omega) (by rw [hsz2]; omega) x4.cell x5.cell
  have h0 : FoldI w s t [] w2 := ⟨⟨⟨x1, x2, x3⟩, hb2⟩, by omega⟩
  have HSEQ := Go.Lib.hid hseq
  have H0 := Go.Lib.hid h0
  clear hseq h0
  clear x1 x2 x3 x4 x5 hw2
  have HSZ2 := Go.Lib.hid hsz2
  have HB2 := Go.Lib.hid hb2
  clear hsz2 hb2
  have HSM := Go.Lib.hid hs
  clear hs
  gi_wp2_with fail
  refine wpIn_rangeFunc_ok rfl (by omega) (gf := 97) (lb := #[.pointer (some ⟨w.heap.size + 1 + 1 + 1, 0, none⟩), .pointer (some ⟨w.heap.size + 1 + 1 + 1 + 1, 0, none⟩)]) rfl trivial (enters_of Tryz.func97 (by kernel_rfl) rfl)
    HSEQ.out KpT.trans (fun W l o o' _ h1 h2 _ => KpT.put W l o o' h1 h2) (Below.refl _ _) (fun _ => rfl)
    (FoldI w s t) (fun _ _ _ => False)
    (OwnFrom.and (OwnFrom.and (OwnFrom.and (Own.from (boxed_own _ _ (fun _ => _)) _) (OwnFrom.and (Own.from (boxed_own _ _ (fun pre => .string (mk (Rc.runF (bl s) pre).1))) _) (Own.from (boxed_own _ _ (fun pre => .int .i64 ((Rc.runF (bl s) pre).2 : Int))) _))) (ownFrom_below (Nat.le_refl _) (by rw [HSZ2.out]; omega))) (fun _ _ _ _ hs hg _ => Nat.le_trans hs hg.size))
    (fun _ _ _ _ _ h _ _ => h) H0.out (fun x a' _ => a' = fr50 t s w.heap.size x) (fun _ _ _ _ _ _ hs _ _ => hs) ?assign ?body ?done ?stop
  case assign =>
    intro l pre x W K hi hok hK
    have HK := Go.Lib.hid hK
    have HI := Go.Lib.hid hi
    clear hK hi
    unfold encPair
    gi_wp2
    exact HK.out _ _ (KeepsFrom.refl _ _) (KpT.refl _) HI.out rfl
  case body =>
    rintro l pre x a' W ⟨⟨⟨b1, b2, b3⟩, hb⟩, hz⟩ hok rfl
    have hnx := Rc.runF_next (d := bl s) (l := pre) (p := x) (by
      obtain ⟨m, hm⟩ := hok
      have := hch.out
      rw [← hm] at this
      exact Rc.chain_prefix _ _ _ this)
    obtain ⟨xa, xn⟩ := x
    simp only at hnx
    obtain ⟨n1, n2, n3⟩ := hnx
    have hrl := Rc.runF_fold (d := bl s) (l := pre) (by
      obtain ⟨m, hm⟩ := hok
      have := hch.out
      rw [← hm] at this
      exact Rc.chain_prefix _ _ _ (Rc.chain_prefix _ _ _ this))
    obtain ⟨_, r2, r3⟩ := hrl
    have hrun := Rc.runF_snoc (bl s) pre (xa, xn)
    generalize Rc.runF (bl s) pre = st at *
    obtain ⟨out, fr⟩ := st
    simp only at n1 r2 r3 b2 b3
    unfold Rc.runStep at hrun
    simp only at hrun
    have HB := Go.Lib.hid hb
    have HRUN := Go.Lib.hid hrun
    clear hb hrun
    clear hok
    have c1 := BelowC.cell (W := W) b1.cell b1.lt
    have c2 := BelowC.cell (W := W) b2.cell b2.lt
    have c3 := BelowC.cell (W := W) b3.cell b3.lt
    have k1 := b1.lt
    have k2 := b2.lt
    have hsz := size_bl s
    have hsm := HSM.out
    unfold maxLen at hsm
    have hx1 : s.extract fr xa = mk (((bl s).drop fr).take (xa - fr)) := by rw [← bl_extract, mk_bl]
    have hx2 : s.extract xa (xa + xn) = mk (((bl s).drop xa).take xn) := by
      have := bl_extract s xa (xa + xn)
      rw [show xa + xn - xa = xn by omega] at this
      rw [← this, mk_bl]
    have l1 : (((bl s).drop fr).take (xa - fr)).length = xa - fr := by rw [List.length_take, List.length_drop]; omega
    have l2 : (((bl s).drop xa).take xn).length = xn := by rw [List.length_take, List.length_drop]; omega
    have hfo := fun w => Fold_any (mk (((bl s).drop xa).take xn)) w (by rw [size_mk, l2]; unfold maxLen; omega)
    rw [bl_mk] at hfo
    have l3 : (Nm.foldN (((bl s).drop xa).take xn)).length = xn := by rw [Nm.foldN_length, l2]
    generalize ((bl s).drop fr).take (xa - fr) = p1 at *
    generalize ((bl s).drop xa).take xn = p2 at *
    generalize Nm.foldN p2 = p3 at *
    have s1 : (mk p1).size = xa - fr := by rw [size_mk, l1]
    have s3 : (mk p3).size = xn := by rw [size_mk, l3]
    have s4 : (mk (p1 ++ p3)).size = xa - fr + xn := by rw [size_mk, List.length_append, l1, l3]
    have s5 : (mk out).size = fr := by rw [size_mk, r2]
    have e1 : mk p1 ++ mk p3 = mk (p1 ++ p3) := by apply bl_inj; rw [bl_append, bl_mk, bl_mk, bl_mk]
    have e2 : mk out ++ mk (p1 ++ p3) = mk (out ++ (p1 ++ p3)) := by apply bl_inj; rw [bl_append, bl_mk, bl_mk, bl_mk]
    have q1 : ¬ 9223372036854775807 < xa - fr + xn := by omega
    have q2 : ¬ 9223372036854775807 < fr + (xa - fr + xn) := by omega
    have w1 : IntKind.i64.wrap ((xa : Int) + (xn : Int)) = (xa : Int) + (xn : Int) := by rw [IntKind.wrap_i64]; omega
    have w2' : ((xa : Int) + (xn : Int)).toNat = xa + xn := by omega
    have i1 : (fr : Int) ≤ (xa : Int) := by omega
    have i2 : (xa : Int) ≤ (s.size : Int) := by omega
    have i3 : (xa : Int) + (xn : Int) ≤ (s.size : Int) := by omega
    have i4 : (xa : Int) ≤ (xa : Int) + (xn : Int) := by omega
    have i5 : (0 : Int) ≤ (xa : Int) + (xn : Int) := by omega
    have i6 : xa + xn ≤ s.size := by omega
    have i7 : xa ≤ s.size := by omega
    have HFO := Go.Lib.hid hfo
    have HSZ := Go.Lib.hid hsz
    have HSM2 := Go.Lib.hid hsm
    have HR3 := Go.Lib.hid r3
    have HL1 := Go.Lib.hid l1
    have HL2 := Go.Lib.hid l2
    have HL3 := Go.Lib.hid l3
    have HN2 := Go.Lib.hid n2
    clear hfo hsz hsm r3 l1 l2 l3 n2
    have hne : Nonempty (Subtype (Below W.heap.size W)) := ⟨⟨W, Below.refl _ _⟩⟩
    gi_wp2_with fail
    refine Go.Mix.wpIn_region_mixT (Es := [11]) 14 (Below W.heap.size W) mixed (by kernel_rfl) (Below.refl _ _).drew ?_
    iterate 11 (refine Go.Mix.mixT_step rfl (fun K hK => ?_); have HKK := Go.Lib.hid hK; clear hK; go_simp; refine HKK.out _ _ ?_; clear HKK K)
    refine Go.Mix.mixT_eff rfl (fun K hK => ?_)
    have HKK := Go.Lib.hid hK
    clear hK
    go_simp
    refine (HFO.out _).mono ?_; rintro e W7 ⟨rfl, hx⟩
    have hb7 : Below W.heap.size W W7 := ((Below.refl W.heap.size W).drew).trans hx
    have y2 : Boxed W7 (w.heap.size + 1) 9 (.string (mk out)) := (hb7.block _ b2.lt).trans b2
    have y1 : Boxed W7 w.heap.size 9 (.string s) := (hb7.block _ b1.lt).trans b1
    have y3 : Boxed W7 (w.heap.size + 1 + 1) 3 (.int .i64 fr) := (hb7.block _ b3.lt).trans b3
    have hz7 := hb7.size
    have HX := Go.Lib.hid hx
    have HB7 := Go.Lib.hid hb7
    clear hx hb7
    go_simp
    refine HKK.out _ _ HB7.out ?_
    clear HKK K c1 c2 c3
    iterate 2 (refine Go.Mix.mixT_step rfl (fun K hK => ?_); have HKK := Go.Lib.hid hK; clear hK; go_simp; refine HKK.out _ _ ?_; clear HKK K)
    have z2 := y2.cell
    have z3 := y2.frozen
    refine Go.Mix.mixT_last rfl (fun K hK => ?_)
    have HKK := Go.Lib.hid hK
    clear hK
    go_simp
    refine HKK.out _ _ ?_
    clear HKK K z2 z3
    have u2 := y2.set (.string (mk (out ++ (p1 ++ p3))))
    have u1 := y1.other (B' := w.heap.size + 1) (by omega) (.string (mk (out ++ (p1 ++ p3))))
    have u3 := y3.other (B' := w.heap.size + 1) (by omega) (.string (mk (out ++ (p1 ++ p3))))
    have hk8 : KeepsFrom w2.heap.size W (W7.setCell ⟨w.heap.size + 1, 0, none⟩ (.string (mk (out ++ (p1 ++ p3))))) := (keepsFrom_below HB7.out).trans ((KeepsOthers.setCell _ _ _).from _)
    have hp8 : KpT IsPlace W (W7.setCell ⟨w.heap.size + 1, 0, none⟩ (.string (mk (out ++ (p1 ++ p3))))) := (KpT.of_below HB7.out).set (a := ⟨w.heap.size + 1, 0, none⟩) y2 (by decide) _
    have hb8 : Below w.heap.size w (W7.setCell ⟨w.heap.size + 1, 0, none⟩ (.string (mk (out ++ (p1 ++ p3))))) := (HB.out.trans (HB7.out.mono HB.out.size)).setCell (p := ⟨w.heap.size + 1, 0, none⟩) (by simp) _
    have hz8 : w.heap.size + 5 ≤ (W7.setCell ⟨w.heap.size + 1, 0, none⟩ (.string (mk (out ++ (p1 ++ p3))))).heap.size := by simp; omega
    clear y1 y2 y3
    generalize W7.setCell ⟨w.heap.size + 1, 0, none⟩ (.string (mk (out ++ (p1 ++ p3)))) = W8 at *
    have z4 := u3.cell
    have z5 := u3.frozen
    have z6 := u3.lt
    have HK8 := Go.Lib.hid hk8
    have HP8 := Go.Lib.hid hp8
    have HB8 := Go.Lib.hid hb8
    clear hk8 hp8 hb8
    gi_wp2_with fail
    refine ⟨HK8.out.trans ((KeepsOthers.setCell _ _ _).from _), HP8.out.set (a := ⟨w.heap.size + 1 + 1, 0, none⟩) u3 (by decide) _, ⟨⟨?_, ?_, ?_⟩, HB8.out.setCell (p := ⟨w.heap.size + 1 + 1, 0, none⟩) (by simp; omega) _⟩, ?_⟩
    · exact u1.other (by omega) _
    · rw [HRUN.out]; exact u2.other (by omega) _
    · rw [HRUN.out]
      have := u3.set (.int .i64 ((xa + xn : Nat) : Int))
      exact this
    · simp; omega
  case done =>
    rintro D ys W hD hys ⟨⟨⟨b1, b2, b3⟩, hb⟩, hz⟩ hK
    have hrl := Rc.runF_fold (d := bl s) (l := ys) (by rw [hys]; exact hch.out)
    have hres : Hid (Rc.foldD t (bl s) = (Rc.runF (bl s) ys).1 ++ (bl s).drop (Rc.runF (bl s) ys).2) := Go.Lib.hid (by rw [hys]; exact hfin.out)
    obtain ⟨_, r2, r3⟩ := hrl
    generalize Rc.runF (bl s) ys = st at *
    obtain ⟨out, fr⟩ := st
    simp only at r2 r3 b2 b3 hres
    have c1 := BelowC.cell (W := W) b1.cell b1.lt
    have c2 := BelowC.cell (W := W) b2.cell b2.lt
    have c3 := BelowC.cell (W := W) b3.cell b3.lt
    have hsz := size_bl s
    have hsm := HSM.out
    unfold maxLen at hsm
    have hx1 : s.extract fr s.size = mk ((bl s).drop fr) := by
      apply bl_inj
      rw [bl_extract, bl_mk]
      exact List.take_of_length_le (by rw [List.length_drop, hsz]; exact Nat.le_refl _)
    have l1 : ((bl s).drop fr).length = s.size - fr := by rw [List.length_drop, hsz]
    generalize (bl s).drop fr = p1 at *
    have s1 : (mk p1).size = s.size - fr := by rw [size_mk, l1]
    have s5 : (mk out).size = fr := by rw [size_mk, r2]
    have e2 : mk out ++ mk p1 = mk (out ++ p1) := by apply bl_inj; rw [bl_append, bl_mk, bl_mk, bl_mk]
    have q2 : ¬ 9223372036854775807 < fr + (s.size - fr) := by omega
    have q3 : ¬ 9223372036854775807 < s.size := by omega
    have i1 : (fr : Int) ≤ (s.size : Int) := by omega
    have i7 : fr ≤ s.size := by omega
    have HB := Go.Lib.hid hb
    have HK := Go.Lib.hid hK
    have HSZ := Go.Lib.hid hsz
    have HSM2 := Go.Lib.hid hsm
    have HR3 := Go.Lib.hid r3
    have HL1 := Go.Lib.hid l1
    have HYS := Go.Lib.hid hys
    have HDD := Go.Lib.hid hD
    clear hb hK hsz hsm r3 l1 hys hD
    clear b1 b2 b3
    gi_wp2_with fail
    refine wpIn_wide.2 (Go.Mix.wp_region_mix (Es := []) (Below W.heap.size W) mixed (by kernel_rfl) (Below.refl _ _).drew (fun _ => ?_))
    iterate 6 (refine Go.Mix.mix_step rfl (fun K hK => ?_); have HKK := Go.Lib.hid hK; clear hK; go_simp; refine HKK.out _ _ ?_; clear HKK K)
    refine Go.Mix.mix_nil ?_
    gi_wp2_with fail
    refine ⟨by simp, .inl ⟨_, _, rfl, run_takeDeferred HK.out, ?_⟩⟩
    refine ⟨_, results_tmp rfl _ _ _, ?_⟩
    refine ⟨by rw [hres.out]; rfl, HB.out.trans ((Below.refl _ W).drew.trans (belowK_b (w := w) (Nat.le_refl _) W.drew D _ _ (by have := HDD.out; rw [HSZ2.out] at this; omega) HK.out rfl rfl))⟩
  case stop => exact fun _ _ _ _ _ _ h _ => h.elim
end Go.Proofs.YtkpcmnckdappnaaGreat

/- The contract of record.Same: whether two records are alike. -/
namespace Go.Proofs.YtkpcmnckdappnaaGreat
open Go.RowKit Go.Shelf Go.Sq
set_option linter.unusedVariables false

/-- a record as a value, and as cells -/
def rrC (r : Rc.RR) : Array Value := #[.string (mk r.name), .int .i64 r.ty, .int .i64 r.cl, .int .i64 r.ttl, .string (mk r.data)]
abbrev rrV (r : Rc.RR) : Value := .agg #[.string (mk r.name), .int .i64 r.ty, .int .i64 r.cl, .int .i64 r.ttl, .string (mk r.data)]
/-- its texts are texts of a machine -/
def RROk (r : Rc.RR) : Prop := r.name.length ≤ maxLen ∧ r.data.length ≤ maxLen

theorem two_boxes (w : World) (x y : Array Value) (T : TypeId) :
    ((w.alloc (.cells x T)).alloc (.cells y T)).heap[w.heap.size]? = some (.cells x T (0, 0)) ∧ ((w.alloc (.cells x T)).alloc (.cells y T)).heap[w.heap.size + 1]? = some (.cells y T (0, 0)) := by
  constructor
  · exact (Below.heap_alloc _ _ _ (by simp)).trans (World.alloc_heap_new w _)
  · have := World.alloc_heap_new (w.alloc (.cells x T)) (.cells y T)
    rwa [World.size_alloc] at this
theorem cell_of_heap {W : World} {B : Nat} {cs : Array Value} {T : TypeId} (h : W.heap[B]? = some (.cells cs T (0, 0))) (j : Nat) : W.cell? ⟨B, j, none⟩ = cs[j]? := by
  simp [World.cell?, h]

set_option maxRecDepth 100000 in
set_option maxHeartbeats 4000000 in
theorem recSame_any (a b : Rc.RR) (w : World) (ha : RROk a) (hb : RROk b) :
    Calls Tryz.prog 90 #[rrV a, rrV b] w fun e w' => e = .returned (.bool (Rc.sameRR a b)) ∧ Below w.heap.size w w' := by
  obtain ⟨ha1, ha2⟩ := ha
  obtain ⟨hb1, hb2⟩ := hb
  have hn1 := fun w => Fold_any (mk a.name) w (by rw [size_mk]; exact ha1)
  have hn2 := fun w => Fold_any (mk b.name) w (by rw [size_mk]; exact hb1)
  have hd1 := fun w => recFold_any a.ty (mk a.data) w (by rw [size_mk]; exact ha2)
  have hd2 := fun w => recFold_any b.ty (mk b.data) w (by rw [size_mk]; exact hb2)
  rw [bl_mk] at hn1 hn2 hd1 hd2
  have hres : Rc.sameRR a b = ((Nm.foldN a.name == Nm.foldN b.name) && (a.ty == b.ty) && (a.cl == b.cl) && (Rc.foldD a.ty a.data == Rc.foldD b.ty b.data)) := rfl
  obtain ⟨h1, h2⟩ := two_boxes w (rrC a) (rrC b) 43
  have h0 : Below w.heap.size w ((w.alloc (.cells (rrC a) 43)).alloc (.cells (rrC b) 43)) := ((Below.refl _ w).alloc (Nat.le_refl _) _).alloc (by simp) _
  unfold rrC at h1 h2 h0
  obtain ⟨an, aty, acl, attl, ad⟩ := a
  obtain ⟨bn, bty, bcl, bttl, bd⟩ := b
  simp only at *
  generalize Rc.sameRR _ _ = res at *
  have hnn : ((mk (Nm.foldN an)).toList == (mk (Nm.foldN bn)).toList) = (Nm.foldN an == Nm.foldN bn) := eqs _ _
  have hdd : ((mk (Rc.foldD aty ad)).toList == (mk (Rc.foldD bty bd)).toList) = (Rc.foldD aty ad == Rc.foldD bty bd) := eqs _ _
  generalize mk (Nm.foldN an) = fan at *
  generalize mk (Nm.foldN bn) = fbn at *
  generalize mk (Rc.foldD aty ad) = fad at *
  generalize mk (Rc.foldD bty bd) = fbd at *
  generalize (Nm.foldN an == Nm.foldN bn) = q1 at *
  generalize (Rc.foldD aty ad == Rc.foldD bty bd) = q4 at *
  have HRES := Go.Lib.hid hres
  have HN1 := Go.Lib.hid hn1
  have HN2 := Go.Lib.hid hn2
  have HD1 := Go.Lib.hid hd1
  have HD2 := Go.Lib.hid hd2
  have H0 := Go.Lib.hid h0
  clear hres hn1 hn2 hd1 hd2 h0
  clear ha1 ha2 hb1 hb2
  have hg1 := cell_of_heap h1
  have hg2 := cell_of_heap h2
  have hlt1 := (Array.getElem?_eq_some_iff.1 h1).1
  have hlt2 := (Array.getElem?_eq_some_iff.1 h2).1
  have HX1 := Go.Lib.hid h1
  have HX2 := Go.Lib.hid h2
  clear h1 h2
  go_enter Tryz.func90, Tryz.ntmps90
  go_wp2_with fail
  generalize (w.alloc (.cells #[.string (mk an), .int .i64 aty, .int .i64 acl, .int .i64 attl, .string (mk ad)] 43)).alloc (.cells #[.string (mk bn), .int .i64 bty, .int .i64 bcl, .int .i64 bttl, .string (mk bd)] 43) = W at *
  have a0 : ∀ w3 : Subtype (Below W.heap.size W), w3.1.cell? ⟨w.heap.size, 0, none⟩ = some (.string (mk an)) := BelowC.cell (hg1 0) hlt1
  have a1 : ∀ w3 : Subtype (Below W.heap.size W), w3.1.cell? ⟨w.heap.size, 1, none⟩ = some (.int .i64 aty) := BelowC.cell (hg1 1) hlt1
  have a2 : ∀ w3 : Subtype (Below W.heap.size W), w3.1.cell? ⟨w.heap.size, 2, none⟩ = some (.int .i64 acl) := BelowC.cell (hg1 2) hlt1
  have a4 : ∀ w3 : Subtype (Below W.heap.size W), w3.1.cell? ⟨w.heap.size, 4, none⟩ = some (.string (mk ad)) := BelowC.cell (hg1 4) hlt1
  have b0 : ∀ w3 : Subtype (Below W.heap.size W), w3.1.cell? ⟨w.heap.size + 1, 0, none⟩ = some (.string (mk bn)) := BelowC.cell (hg2 0) hlt2
  have b1 : ∀ w3 : Subtype (Below W.heap.size W), w3.1.cell? ⟨w.heap.size + 1, 1, none⟩ = some (.int .i64 bty) := BelowC.cell (hg2 1) hlt2
  have b2 : ∀ w3 : Subtype (Below W.heap.size W), w3.1.cell? ⟨w.heap.size + 1, 2, none⟩ = some (.int .i64 bcl) := BelowC.cell (hg2 2) hlt2
  have b4 : ∀ w3 : Subtype (Below W.heap.size W), w3.1.cell? ⟨w.heap.size + 1, 4, none⟩ = some (.string (mk bd)) := BelowC.cell (hg2 4) hlt2
  have HBC := Go.Lib.hid (show Below W.heap.size W W.drew from (Below.refl W.heap.size W).drew)
  clear hg1 hg2
  cases q1 with
  | false =>
    have hr : res = false := by rw [HRES.out]; rfl
    have HR := Go.Lib.hid hr
    clear hr
    refine Go.Mix.wp_region_mix (Es := [2, 5, 26, 31]) (Below W.heap.size W) mixed (by kernel_rfl) (Below.refl _ _).drew (fun _ => ?_)
    iterate 2 (refine Go.Mix.mix_step rfl (fun K hK => ?_); have HKK := Go.Lib.hid hK; clear hK; go_simp; refine HKK.out _ _ ?_; clear HKK K)
    refine Go.Mix.mix_eff rfl (fun K hK => ?_)
    have HKK := Go.Lib.hid hK
    clear hK
    go_simp
    refine (HN1.out _).mono ?_; rintro e wb1 ⟨rfl, hx⟩
    have hb := HBC.out.trans (hx.mono HBC.out.size)
    clear HBC
    have HBC := Go.Lib.hid hb
    clear hx hb
    go_simp
    refine HKK.out _ _ HBC.out ?_
    clear HKK K
    iterate 2 (refine Go.Mix.mix_step rfl (fun K hK => ?_); have HKK := Go.Lib.hid hK; clear hK; go_simp; refine HKK.out _ _ ?_; clear HKK K)
    refine Go.Mix.mix_eff rfl (fun K hK => ?_)
    have HKK := Go.Lib.hid hK
    clear hK
    go_simp
    refine (HN2.out _).mono ?_; rintro e wb2 ⟨rfl, hx⟩
    have hb := HBC.out.trans (hx.mono HBC.out.size)
    clear HBC
    have HBC := Go.Lib.hid hb
    clear hx hb
    go_simp
    refine HKK.out _ _ HBC.out ?_
    clear HKK K
    iterate 20 (refine Go.Mix.mix_step rfl (fun K hK => ?_); have HKK := Go.Lib.hid hK; clear hK; go_simp; refine HKK.out _ _ ?_; clear HKK K)
    refine Go.Mix.mix_eff rfl (fun K hK => ?_)
    have HKK := Go.Lib.hid hK
    clear hK
    go_simp
    refine HKK.out _ _ HBC.out ?_
    clear HKK K
    iterate 4 (refine Go.Mix.mix_step rfl (fun K hK => ?_); have HKK := Go.Lib.hid hK; clear hK; go_simp; refine HKK.out _ _ ?_; clear HKK K)
    refine Go.Mix.mix_eff rfl (fun K hK => ?_)
    have HKK := Go.Lib.hid hK
    clear hK
    go_simp
    refine HKK.out _ _ HBC.out ?_
    clear HKK K
    iterate 3 (refine Go.Mix.mix_step rfl (fun K hK => ?_); have HKK := Go.Lib.hid hK; clear hK; go_simp; refine HKK.out _ _ ?_; clear HKK K)
    refine Go.Mix.mix_nil ?_
    go_wp2_with fail
    go_ret
    exact ⟨ret_bool HR.out.symm, H0.out.trans (HBC.out.mono H0.out.size)⟩
  | true =>
    by_cases ht : aty = bty
    · subst ht
      have e1 : (aty == aty) = true := beq_self_eq_true _
      by_cases hc : acl = bcl
      · subst hc
        have e2 : (acl == acl) = true := beq_self_eq_true _
        have hr : res = q4 := by rw [HRES.out, e1, e2]; simp
        have HR := Go.Lib.hid hr
        clear hr
        refine Go.Mix.wp_region_mix (Es := [2, 5, 26, 31]) (Below W.heap.size W) mixed (by kernel_rfl) (Below.refl _ _).drew (fun _ => ?_)
        iterate 2 (refine Go.Mix.mix_step rfl (fun K hK => ?_); have HKK := Go.Lib.hid hK; clear hK; go_simp; refine HKK.out _ _ ?_; clear HKK K)
        refine Go.Mix.mix_eff rfl (fun K hK => ?_)
        have HKK := Go.Lib.hid hK
        clear hK
        go_simp
        refine (HN1.out _).mono ?_; rintro e wb3 ⟨rfl, hx⟩
        have hb := HBC.out.trans (hx.mono HBC.out.size)
        clear HBC
        have HBC := Go.Lib.hid hb
        clear hx hb
        go_simp
        refine HKK.out _ _ HBC.out ?_
        clear HKK K
        iterate 2 (refine Go.Mix.mix_step rfl (fun K hK => ?_); have HKK := Go.Lib.hid hK; clear hK; go_simp; refine HKK.out _ _ ?_; clear HKK K)
        refine Go.Mix.mix_eff rfl (fun K hK => ?_)
        have HKK := Go.Lib.hid hK
        clear hK
        go_simp
        refine (HN2.out _).mono ?_; rintro e wb4 ⟨rfl, hx⟩
        have hb := HBC.out.trans (hx.mono HBC.out.size)
        clear HBC
        have HBC := Go.Lib.hid hb
        clear hx hb
        go_simp
        refine HKK.out _ _ HBC.out ?_
        clear HKK K
        iterate 20 (refine Go.Mix.mix_step rfl (fun K hK => ?_); have HKK := Go.Lib.hid hK; clear hK; go_simp; refine HKK.out _ _ ?_; clear HKK K)
        refine Go.Mix.mix_eff rfl (fun K hK => ?_)
        have HKK := Go.Lib.hid hK
        clear hK
        go_simp
        refine (HD1.out _).mono ?_; rintro e wb5 ⟨rfl, hx⟩
        have hb := HBC.out.trans (hx.mono HBC.out.size)
        clear HBC
        have HBC := Go.Lib.hid hb
        clear hx hb
        go_simp
        refine HKK.out _ _ HBC.out ?_
        clear HKK K
        iterate 4 (refine Go.Mix.mix_step rfl (fun K hK => ?_); have HKK := Go.Lib.hid hK; clear hK; go_simp; refine HKK.out _ _ ?_; clear HKK K)
        refine Go.Mix.mix_eff rfl (fun K hK => ?_)
        have HKK := Go.Lib.hid hK
        clear hK
        go_simp
        refine (HD2.out _).mono ?_; rintro e wb6 ⟨rfl, hx⟩
        have hb := HBC.out.trans (hx.mono HBC.out.size)
        clear HBC
        have HBC := Go.Lib.hid hb
        clear hx hb
        go_simp
        refine HKK.out _ _ HBC.out ?_
        clear HKK K
        iterate 3 (refine Go.Mix.mix_step rfl (fun K hK => ?_); have HKK := Go.Lib.hid hK; clear hK; go_simp; refine HKK.out _ _ ?_; clear HKK K)
        refine Go.Mix.mix_nil ?_
        go_wp2_with fail
        go_ret
        exact ⟨ret_bool HR.out.symm, H0.out.trans (HBC.out.mono H0.out.size)⟩
      · have e2 : (acl == bcl) = false := beq_eq_false_iff_ne.2 hc
        have hr : res = false := by rw [HRES.out, e1, e2]; simp
        have HR := Go.Lib.hid hr
        clear hr
        refine Go.Mix.wp_region_mix (Es := [2, 5, 26, 31]) (Below W.heap.size W) mixed (by kernel_rfl) (Below.refl _ _).drew (fun _ => ?_)
        iterate 2 (refine Go.Mix.mix_step rfl (fun K hK => ?_); have HKK := Go.Lib.hid hK; clear hK; go_simp; refine HKK.out _ _ ?_; clear HKK K)
        refine Go.Mix.mix_eff rfl (fun K hK => ?_)
        have HKK := Go.Lib.hid hK
        clear hK
        go_simp
        refine (HN1.out _).mono ?_; rintro e wb7 ⟨rfl, hx⟩
        have hb := HBC.out.trans (hx.mono HBC.out.size)
        clear HBC
        have HBC := Go.Lib.hid hb
        clear hx hb
        go_simp
        refine HKK.out _ _ HBC.out ?_
        clear HKK K
        iterate 2 (refine Go.Mix.mix_step rfl (fun K hK => ?_); have HKK := Go.Lib.hid hK; clear hK; go_simp; refine HKK.out _ _ ?_; clear HKK K)
        refine Go.Mix.mix_eff rfl (fun K hK => ?_)
        have HKK := Go.Lib.hid hK
        clear hK
        go_simp
        refine (HN2.out _).mono ?_; rintro e wb8 ⟨rfl, hx⟩
        have hb := HBC.out.trans (hx.mono HBC.out.size)
        clear HBC
        have HBC := Go.Lib.hid hb
        clear hx hb
        go_simp
        refine HKK.out _ _ HBC.out ?_
        clear HKK K
        iterate 20 (refine Go.Mix.mix_step rfl (fun K hK => ?_); have HKK := Go.Lib.hid hK; clear hK; go_simp; refine HKK.out _ _ ?_; clear HKK K)
        refine Go.Mix.mix_eff rfl (fun K hK => ?_)
        have HKK := Go.Lib.hid hK
        clear hK
        go_simp
        refine HKK.out _ _ HBC.out ?_
        clear HKK K
        iterate 4 (refine Go.Mix.mix_step rfl (fun K hK => ?_); have HKK := Go.Lib.hid hK; clear hK; go_simp; refine HKK.out _ _ ?_; clear HKK K)
        refine Go.Mix.mix_eff rfl (fun K hK => ?_)
        have HKK := Go.Lib.hid hK
        clear hK
        go_simp
        refine HKK.out _ _ HBC.out ?_
        clear HKK K
        iterate 3 (refine Go.Mix.mix_step rfl (fun K hK => ?_); have HKK := Go.Lib.hid hK; clear hK; go_simp; refine HKK.out _ _ ?_; clear HKK K)
        refine Go.Mix.mix_nil ?_
        go_wp2_with fail
        go_ret
        exact ⟨ret_bool HR.out.symm, H0.out.trans (HBC.out.mono H0.out.size)⟩
    · have e1 : (aty == bty) = false := beq_eq_false_iff_ne.2 ht
      have hr : res = false := by rw [HRES.out, e1]; simp
      have HR := Go.Lib.hid hr
      clear hr
      refine Go.Mix.wp_region_mix (Es := [2, 5, 26, 31]) (Below W.heap.size W) mixed (by kernel_rfl) (Below.refl _ _).drew (fun _ => ?_)
      iterate 2 (refine Go.Mix.mix_step rfl (fun K hK => ?_); have HKK := Go.Lib.hid hK; clear hK; go_simp; refine HKK.out _ _ ?_; clear HKK K)
      refine Go.Mix.mix_eff rfl (fun K hK => ?_)
      have HKK := Go.Lib.hid hK
      clear hK
      go_simp
      refine (HN1.out _).mono ?_; rintro e wb9 ⟨rfl, hx⟩
      have hb := HBC.out.trans (hx.mono HBC.out.size)
      clear HBC
      have HBC := Go.Lib.hid hb
      clear hx hb
      go_simp
      refine HKK.out _ _ HBC.out ?_
      clear HKK K
      iterate 2 (refine Go.Mix.mix_step rfl (fun K hK => ?_); have HKK := Go.Lib.hid hK; clear hK; go_simp; refine HKK.out _ _ ?_; clear HKK K)
      refine Go.Mix.mix_eff rfl (fun K hK => ?_)
      have HKK := Go.Lib.hid hK
      clear hK
      go_simp
      refine (HN2.out _).mono ?_; rintro e wb10 ⟨rfl, hx⟩
      have hb := HBC.out.trans (hx.mono HBC.out.size)
      clear HBC
      have HBC := Go.Lib.hid hb
      clear hx hb
      go_simp
      refine HKK.out _ _ HBC.out ?_
      clear HKK K
      iterate 20 (refine Go.Mix.mix_step rfl (fun K hK => ?_); have HKK := Go.Lib.hid hK; clear hK; go_simp; refine HKK.out _ _ ?_; clear HKK K)
      refine Go.Mix.mix_eff rfl (fun K hK => ?_)
      have HKK := Go.Lib.hid hK
      clear hK
      go_simp
      refine HKK.out _ _ HBC.out ?_
      clear HKK K
      iterate 4 (refine Go.Mix.mix_step rfl (fun K hK => ?_); have HKK := Go.Lib.hid hK; clear hK; go_simp; refine HKK.out _ _ ?_; clear HKK K)
      refine Go.Mix.mix_eff rfl (fun K hK => ?_)
      have HKK := Go.Lib.hid hK
      clear hK
      go_simp
      refine HKK.out _ _ HBC.out ?_
      clear HKK K
      iterate 3 (refine Go.Mix.mix_step rfl (fun K hK => ?_); have HKK := Go.Lib.hid hK; clear hK; go_simp; refine HKK.out _ _ ?_; clear HKK K)
      refine Go.Mix.mix_nil ?_
      go_wp2_with fail
      go_ret
      exact ⟨ret_bool HR.out.symm, H0.out.trans (HBC.out.mono H0.out.size)⟩
end Go.Proofs.YtkpcmnckdappnaaGreat

