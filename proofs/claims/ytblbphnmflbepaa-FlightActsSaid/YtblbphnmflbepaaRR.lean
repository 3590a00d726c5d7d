/- Slices of records in memory; slices.IndexFunc, ContainsFunc at records, for whatever closure has a contract. -/
import Derived.Test.YtblbphnmflbepaaRecD
namespace Go.Proofs.Ytblbphnmflbepaa
open Go.RowKit Go.Shelf Go.Sq
set_option linter.unusedVariables false

def encR (l : List Rc.RR) : List Value := l.flatMap fun r => [.string (mk r.name), .int .i64 r.ty, .int .i64 r.cl, .int .i64 r.ttl, .string (mk r.data)]
theorem encR_snoc (l : List Rc.RR) (r : Rc.RR) : encR (l ++ [r]) = encR l ++ [.string (mk r.name), .int .i64 r.ty, .int .i64 r.cl, .int .i64 r.ttl, .string (mk r.data)] := by simp [encR]
theorem encR_length (l : List Rc.RR) : (encR l).length = l.length * 5 := by
  induction l with
  | nil => rfl
  | cons r l ih =>
    have : encR (r :: l) = [.string (mk r.name), .int .i64 r.ty, .int .i64 r.cl, .int .i64 r.ttl, .string (mk r.data)] ++ encR l := rfl
    rw [this, List.length_append, ih]
    simp
    omega
theorem one_rr (r : Rc.RR) : ∀ u ∈ [Value.string (mk r.name), .int .i64 r.ty, .int .i64 r.cl, .int .i64 r.ttl, .string (mk r.data)], u.oneCell' = true := by
  intro u hu
  simp at hu
  rcases hu with rfl | rfl | rfl | rfl | rfl <;> rfl
theorem one_rrs (l : List Rc.RR) : ∀ u ∈ encR l, u.oneCell' = true := by
  intro u hu
  obtain ⟨r, _, h⟩ := List.mem_flatMap.1 hu
  exact one_rr r u h
def RRs (w : World) (v : Value) (l : List Rc.RR) : Prop := SlC w 5 v l.length (encR l)
theorem RRs.below {B : Nat} {w w' : World} {v : Value} {l : List Rc.RR} (h : RRs w v l) (hb : Below B w w') (hB : w.heap.size ≤ B) : RRs w' v l := SlC.below h hb hB
/-- nought -/
def r0 : Rc.RR := ⟨[], 0, 0, 0, []⟩
theorem encR_get : ∀ (l : List Rc.RR) (j : Nat), j < l.length → (encR l)[j * 5]? = some (.string (mk (l.getD j r0).name)) ∧ (encR l)[j * 5 + 1]? = some (.int .i64 (l.getD j r0).ty) ∧ (encR l)[j * 5 + 2]? = some (.int .i64 (l.getD j r0).cl) ∧
    (encR l)[j * 5 + 3]? = some (.int .i64 (l.getD j r0).ttl) ∧ (encR l)[j * 5 + 4]? = some (.string (mk (l.getD j r0).data))
  | [], j, h => by simp at h
  | p :: l, 0, _ => ⟨rfl, rfl, rfl, rfl, rfl⟩
  | p :: l, j + 1, h => by
    have := encR_get l j (by simpa using h)
    have e : encR (p :: l) = [.string (mk p.name), .int .i64 p.ty, .int .i64 p.cl, .int .i64 p.ttl, .string (mk p.data)] ++ encR l := rfl
    have key : ∀ i, (encR (p :: l))[(j + 1) * 5 + i]? = (encR l)[j * 5 + i]? := fun i => by
      rw [e, List.getElem?_append_right (by simp; omega)]
      congr 1
      simp
      omega
    have k0 := key 0
    simp only [Nat.add_zero] at k0
    rw [k0, key 1, key 2, key 3, key 4]
    simpa using this
/-- the five cells of an element -/
def RRAt (w : World) (b off : Nat) (r : Rc.RR) : Prop := w.cell? ⟨b, off, none⟩ = some (.string (mk r.name)) ∧ w.cell? ⟨b, off + 1, none⟩ = some (.int .i64 r.ty) ∧ w.cell? ⟨b, off + 2, none⟩ = some (.int .i64 r.cl) ∧
  w.cell? ⟨b, off + 3, none⟩ = some (.int .i64 r.ttl) ∧ w.cell? ⟨b, off + 4, none⟩ = some (.string (mk r.data))
theorem RRs.at {w : World} {a : Option Addr} {m cap : Nat} {l : List Rc.RR} (h : RRs w (.slice a m cap) l) (hn : 0 < l.length) :
    ∃ b off, a = some ⟨b, off, none⟩ ∧ b < w.heap.size ∧ ∀ j, j < l.length → RRAt w b (off + j * 5) (l.getD j r0) := by
  obtain ⟨_, b, off, ha, hlt, h4⟩ := SlC.at h hn
  refine ⟨b, off, ha, hlt, fun j hj => ?_⟩
  obtain ⟨e0, e1, e2, e3, e4⟩ := encR_get l j hj
  refine ⟨by rw [h4 (j * 5) (by omega), e0], ?_, ?_, ?_, ?_⟩
  · rw [Nat.add_assoc, h4 (j * 5 + 1) (by omega), e1]
  · rw [Nat.add_assoc, h4 (j * 5 + 2) (by omega), e2]
  · rw [Nat.add_assoc, h4 (j * 5 + 3) (by omega), e3]
  · rw [Nat.add_assoc, h4 (j * 5 + 4) (by omega), e4]
theorem RRAt.below {B : Nat} {w w' : World} {b off : Nat} {r : Rc.RR} (h : RRAt w b off r) (hb : Below B w w') (hB : b < B) : RRAt w' b off r := by
  obtain ⟨h0, h1, h2, h3, h4⟩ := h
  exact ⟨(hb.cell (p := ⟨b, off, none⟩) hB).trans h0, (hb.cell (p := ⟨b, off + 1, none⟩) hB).trans h1, (hb.cell (p := ⟨b, off + 2, none⟩) hB).trans h2, (hb.cell (p := ⟨b, off + 3, none⟩) hB).trans h3, (hb.cell (p := ⟨b, off + 4, none⟩) hB).trans h4⟩

/-- the first that is meant; below 0: none -/
def idx {α : Type} (p : α → Bool) : List α → Int
  | [] => -1
  | x :: l => if p x then 0 else if idx p l < 0 then -1 else idx p l + 1
theorem idx_lt {α : Type} (p : α → Bool) : ∀ l : List α, idx p l < l.length ∧ -1 ≤ idx p l
  | [] => by simp [idx]
  | x :: l => by
    have := idx_lt p l
    simp only [idx, List.length_cons]
    split
    · omega
    · split <;> omega
theorem idx_drop {α : Type} (p : α → Bool) : ∀ (l : List α) (k : Nat), (∀ x ∈ l.take k, p x = false) → idx p l = if idx p (l.drop k) < 0 then -1 else idx p (l.drop k) + k
  | l, 0, _ => by
    have := idx_lt p l
    rw [List.drop_zero]
    split <;> omega
  | [], k + 1, _ => by simp [idx]
  | x :: l, k + 1, h => by
    have hx : p x = false := h x (by simp)
    have := idx_drop p l k (fun y hy => h y (by simp [hy]))
    simp only [idx, hx, List.drop_succ_cons, Bool.false_eq_true, if_false]
    have h2 := idx_lt p (l.drop k)
    rw [this]
    by_cases hneg : idx p (l.drop k) < 0
    · rw [if_pos hneg, if_pos hneg, if_pos (by omega)]
    · rw [if_neg hneg, if_neg hneg, if_neg (by omega)]
      omega
theorem idx_any {α : Type} (p : α → Bool) : ∀ l : List α, (0 ≤ idx p l ↔ l.any p = true)
  | [] => by simp [idx]
  | x :: l => by
    have ih := idx_any p l
    simp only [idx, List.any_cons]
    cases hx : p x with
    | true => simp
    | false =>
      simp only [Bool.false_eq_true, if_false, Bool.false_or]
      rw [← ih]
      split <;> omega


end Go.Proofs.Ytblbphnmflbepaa

