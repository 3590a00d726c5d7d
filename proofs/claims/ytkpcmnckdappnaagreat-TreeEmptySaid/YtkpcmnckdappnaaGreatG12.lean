/- Merged texts of the seat, in their order: TrEm. -/
import Derived.Test.YtkpcmnckdappnaaGreatG9
/- Tree: the plain law of TreeEmpty. -/
namespace Go.Proofs.YtkpcmnckdappnaaGreat
open Go.Lib Go.Sort Go.RowKit
set_option maxRecDepth 100000
set_option linter.unusedVariables false

/-- d.d.d.a. of so many labels -/
def nN : Nat → List UInt8
  | 0 => [1, 97, 0]
  | m + 1 => [1, 100] ++ nN m
theorem nN_len : ∀ m, (nN m).length = 3 + 2 * m
  | 0 => rfl
  | m + 1 => by rw [nN, List.length_append, nN_len m]; simp; omega
theorem nN_parent : ∀ m, m < 6 → Nm.parentN (nN (m + 1)) = nN m := by decide +kernel
theorem nN_inj {i j : Nat} (h : nN i = nN j) : i = j := by
  have := congrArg List.length h
  rw [nN_len, nN_len] at this
  omega
def emZ (k m : Nat) : List Zp := (zonesZ k).set 1 { (zonesZ k).getD 1 z0 with rs := ((zonesZ k).getD 1 z0).rs ++ [adrP (nN m) 9] }
theorem em_new : ∀ k, k < 4 → ∀ m, m < 6 → 0 < m → newP (emZ k m) = some (emZ k m) := by decide +kernel
theorem em_ok : ∀ k, k < 4 → ∀ m, m < 6 → ∀ z ∈ emZ k m, okB z = true := by decide +kernel
theorem em_val : ∀ k, k < 4 → ∀ m, m < 6 → ∀ z ∈ emZ k m, Nm.valid z.nm = true := by decide +kernel
theorem em_nod : ∀ k, k < 4 → ∀ m, m < 6 → ((emZ k m).map fun z => Nm.foldN z.nm).Nodup := by decide +kernel
theorem em_len : ∀ k, k < 4 → ((zonesZ k).getD 1 z0).rs.length = 6 := by decide +kernel
def emB (k m j : Nat) : Bool :=
  let want := if j = m then 1 else 0
  let s := serveP (emZ k m) [1, 97, 0] (nN j) 1
  let o := serveP (emZ k m) [1, 97, 0] ([1, 101] ++ nN j) 1
  let x := lookP (emZ k m) (nN j) 1
  decide (s.code = 0) && (decide (s.an.length = want) && (decide (s.sv.length = 1 - want) && (decide (x.1 = 0) && (decide (x.2.length = want) && (decide (o.code = 3) && (decide (o.sv.length = 1) && (decide ((o.sv.getD 0 r0).ty = 6) && (s.auth && o.auth))))))))
def emC (k m j : Nat) : Bool := !(decide (0 < m) && (decide (0 < j) && decide (j ≤ m))) || emB k m j
theorem em_all0 : ∀ k, k < 4 → ∀ m, m < 6 → ∀ j, j < 6 → emC k m j = true := by decide +kernel
theorem em_all (k : Nat) (hk : k < 4) (m : Nat) (hm : m < 6) (j : Nat) (h0 : 0 < j) (hj : j ≤ m) : emB k m j = true := by
  have h := em_all0 k hk m hm j (by omega)
  unfold emC at h
  have e1 : decide (0 < m) = true := decide_eq_true (by omega)
  have e2 : decide (0 < j) = true := decide_eq_true h0
  have e3 : decide (j ≤ m) = true := decide_eq_true hj
  rw [e1, e2, e3] at h
  simpa using h
theorem em_parts {k m j want : Nat} (hw : want = if j = m then 1 else 0) (h : emB k m j = true) : (serveP (emZ k m) [1, 97, 0] (nN j) 1).code = 0 ∧ (serveP (emZ k m) [1, 97, 0] (nN j) 1).an.length = want ∧ (serveP (emZ k m) [1, 97, 0] (nN j) 1).sv.length = 1 - want ∧
    (lookP (emZ k m) (nN j) 1).1 = 0 ∧ (lookP (emZ k m) (nN j) 1).2.length = want ∧ (serveP (emZ k m) [1, 97, 0] ([1, 101] ++ nN j) 1).code = 3 ∧ (serveP (emZ k m) [1, 97, 0] ([1, 101] ++ nN j) 1).sv.length = 1 ∧ ((serveP (emZ k m) [1, 97, 0] ([1, 101] ++ nN j) 1).sv.getD 0 r0).ty = 6 ∧
    (serveP (emZ k m) [1, 97, 0] (nN j) 1).auth = true ∧ (serveP (emZ k m) [1, 97, 0] ([1, 101] ++ nN j) 1).auth = true := by
  unfold emB at h
  rw [← hw] at h
  simp only [Bool.and_eq_true, decide_eq_true_eq] at h
  exact h
section
variable {B g : Nat} {z0 z1 z2 z3 : Zn} {w : World}
theorem setR1e (h : Z4 B g z0 z1 z2 z3 w) (a : Option Addr) (c n : Nat) (rs : List Rc.RR) (hn : rs.length = n) (hr : SlT w 43 5 (.slice a n c) n (encR rs)) : Z4 B g z0 ⟨z1.nm, a, c, rs, z1.sa, z1.sc, z1.sv⟩ z2 z3 (w.setCell ⟨g, 4, none⟩ (.slice a n c)) := by
  subst hn
  exact ⟨heap_setCell_same w g 4 _ _ _ h.row, h.le, h.a0.setCell h.row, ⟨hr.setCell h.row (by decide), h.a1.sv.setCell h.row (by decide)⟩, h.a2.setCell h.row, h.a3.setCell h.row⟩
end
end Go.Proofs.YtkpcmnckdappnaaGreat

