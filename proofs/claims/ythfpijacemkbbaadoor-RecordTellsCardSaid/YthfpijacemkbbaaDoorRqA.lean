/- The contracts of record.Known, within, number, bytes; the reference's number, four, word, Known. -/
import Derived.Test.YthfpijacemkbbaaDoorRecD
import Derived.Test.YthfpijacemkbbaaDoorSm
import Derived.Test.YthfpijacemkbbaaDoorStr
import Derived.Test.YthfpijacemkbbaaDoorBitsF
import Derived.BigQuiet
namespace Go.Proofs.YthfpijacemkbbaaDoor
open Go.RowKit
set_option linter.unusedVariables false
set_option linter.unusedSimpArgs false

theorem run_conv_nw (w : World) (n : Nat) (cs : List Value) (l : List UInt8) (hn : cs.length = n) (h : cs = l.map fun b => .int .u8 b.toNat) (hm : n ≤ maxLen) :
    (convert 69 9 (.slice (some ⟨w.heap.size, 0, none⟩) n n)).run Tryd.prog (w.alloc (.cells cs.toArray 5)) = .ok (.string (mk l)) (w.alloc (.cells cs.toArray 5)) := by
  have hl : l.length = n := by rw [← hn, h]; simp
  refine run_conv_string ?_
  unfold Byts
  rw [hl, ← h]
  exact slc_new w 1 n _ cs (by rw [hn]; simp) hm
theorem four_vals (n : Int) : [Value.int IntKind.u8 (n / 16777216 % 256), Value.int IntKind.u8 (n / 65536 % 256), Value.int IntKind.u8 (n / 256 % 256), Value.int IntKind.u8 (n % 256)] = (four n).map fun b : UInt8 => Value.int .u8 b.toNat := by
  unfold four
  simp only [List.map_cons, List.map_nil, byteOf_nat, Int.ediv_one]
/-- is a type known? -/
def knownB (t : Int) : Bool := decide (t = 1 ∨ t = 2 ∨ t = 5 ∨ t = 6 ∨ t = 12 ∨ t = 15 ∨ t = 16 ∨ t = 28 ∨ t = 33)
set_option maxRecDepth 100000 in
set_option maxHeartbeats 2000000 in
theorem Known_any (t : Int) (w : World) : Calls Tryd.prog 15 #[.int .i64 t] w fun e w' => e = .returned (.bool (knownB t)) ∧ Below w.heap.size w w' := by
  by_cases h : t = 1 ∨ t = 2 ∨ t = 5 ∨ t = 6 ∨ t = 12 ∨ t = 15 ∨ t = 16 ∨ t = 28 ∨ t = 33
  · have hk : Hid (knownB t = true) := Go.Lib.hid (decide_eq_true h)
    rcases h with rfl | rfl | rfl | rfl | rfl | rfl | rfl | rfl | rfl
    all_goals
      go_enter Tryd.func15, Tryd.ntmps15
      go_wp2_with fail
      refine (Shape_any _ _).mono ?_; rintro e _ ⟨rfl, rfl⟩
      simp only [shapeV, Rc.shape]
      go_wp2_with fail
      go_ret
      exact ⟨ret_bool hk.out.symm, Below.refl _ _⟩
  · have hk : Hid (knownB t = false) := Go.Lib.hid (decide_eq_false h)
    have hs : shapeV t = .tuple #[.int .i64 0, .int .i64 0, .int .i64 0, .bool false] := by
      unfold shapeV Rc.shape
      rw [if_neg (by omega), if_neg (by omega), if_neg (by omega), if_neg (by omega)]
    have e1 : (t == 1) = false := by rw [beq_eq_false_iff_ne]; omega
    have e2 : (t == 16) = false := by rw [beq_eq_false_iff_ne]; omega
    have e3 : (t == 28) = false := by rw [beq_eq_false_iff_ne]; omega
    have hsh := Shape_any t
    rw [hs] at hsh
    have HSH := Go.Lib.hid hsh
    clear hsh
    clear h hs
    go_enter Tryd.func15, Tryd.ntmps15
    go_wp2_with fail
    refine (HSH.out _).mono ?_; rintro e _ ⟨rfl, rfl⟩
    go_wp2_with fail
    go_ret
    exact ⟨ret_bool hk.out.symm, Below.refl _ _⟩

theorem within_any (n lo hi : Int) (w : World) : Calls Tryd.prog 43 #[.int .i64 n, .int .i64 lo, .int .i64 hi] w fun e w' => e = .returned (.bool (decide (lo ≤ n ∧ n ≤ hi))) ∧ w = w' := by
  by_cases h1 : lo ≤ n
  · by_cases h2 : n ≤ hi
    · have hr : Hid (decide (lo ≤ n ∧ n ≤ hi) = true) := Go.Lib.hid (decide_eq_true ⟨h1, h2⟩)
      go_enter Tryd.func43, Tryd.ntmps43
      go_wp2_with fail
      go_ret
      exact ⟨ret_bool (by first | omega | (simp; omega)), rfl⟩
    · have hr : Hid (decide (lo ≤ n ∧ n ≤ hi) = false) := Go.Lib.hid (decide_eq_false fun h => h2 h.2)
      go_enter Tryd.func43, Tryd.ntmps43
      go_wp2_with fail
      go_ret
      exact ⟨ret_bool (by first | omega | (simp; omega)), rfl⟩
  · have hr : Hid (decide (lo ≤ n ∧ n ≤ hi) = false) := Go.Lib.hid (decide_eq_false fun h => h1 h.1)
    go_enter Tryd.func43, Tryd.ntmps43
    go_wp2_with fail
    go_ret
    exact ⟨ret_bool (by first | omega | (simp; omega)), rfl⟩

set_option maxRecDepth 100000 in
set_option maxHeartbeats 2000000 in
theorem record_number_any (a b c d : UInt8) (w : World) : Calls Tryd.prog 47 #[.string (mk [a, b, c, d])] w fun e w' => e = .returned (.int .i64 (num4 a b c d)) ∧ Below w.heap.size w w' := by
  have h4 := or4 a b c d
  have hs : (mk [a, b, c, d]).size = 4 := rfl
  have g0 : (mk [a, b, c, d])[0]'(by rw [hs]; decide) = a := rfl
  have g1 : (mk [a, b, c, d])[1]'(by rw [hs]; decide) = b := rfl
  have g2 : (mk [a, b, c, d])[2]'(by rw [hs]; decide) = c := rfl
  have g3 : (mk [a, b, c, d])[3]'(by rw [hs]; decide) = d := rfl
  have ha := a.toNat_lt
  have hb := b.toNat_lt
  have hc := c.toNat_lt
  have hd := d.toNat_lt
  have w0 : wrap64 (a.toNat : Int) = a.toNat := by unfold wrap64; omega
  have w1 : wrap64 (b.toNat : Int) = b.toNat := by unfold wrap64; omega
  have w2 : wrap64 (c.toNat : Int) = c.toNat := by unfold wrap64; omega
  have w3 : wrap64 (d.toNat : Int) = d.toNat := by unfold wrap64; omega
  have v0 : wrap64 ((a.toNat : Int) * 16777216) = a.toNat * 16777216 := by unfold wrap64; omega
  have v1 : wrap64 ((b.toNat : Int) * 65536) = b.toNat * 65536 := by unfold wrap64; omega
  have v2 : wrap64 ((c.toNat : Int) * 256) = c.toNat * 256 := by unfold wrap64; omega
  clear ha hb hc hd
  go_enter Tryd.func47, Tryd.ntmps47
  go_wp2_with fail
  go_quiet (fail)
  try simp only [g0, g1, g2, g3, w0, w1, w2, w3, v0, v1, v2, h4]
  clear g0 g1 g2 g3 w0 w1 w2 w3 v0 v1 v2 h4
  go_wp2_with fail
  go_ret
  exact ⟨rfl, below_drewN (Below.refl _ _) _⟩
set_option maxRecDepth 100000 in
set_option maxHeartbeats 2000000 in
theorem freshetref1_number_any (a b c d : UInt8) (w : World) : Calls Tryd.prog 48 #[.string (mk [a, b, c, d])] w fun e w' => e = .returned (.int .i64 (num4 a b c d)) ∧ Below w.heap.size w w' := by
  have h4 := or4 a b c d
  have hs : (mk [a, b, c, d]).size = 4 := rfl
  have g0 : (mk [a, b, c, d])[0]'(by rw [hs]; decide) = a := rfl
  have g1 : (mk [a, b, c, d])[1]'(by rw [hs]; decide) = b := rfl
  have g2 : (mk [a, b, c, d])[2]'(by rw [hs]; decide) = c := rfl
  have g3 : (mk [a, b, c, d])[3]'(by rw [hs]; decide) = d := rfl
  have ha := a.toNat_lt
  have hb := b.toNat_lt
  have hc := c.toNat_lt
  have hd := d.toNat_lt
  have w0 : wrap64 (a.toNat : Int) = a.toNat := by unfold wrap64; omega
  have w1 : wrap64 (b.toNat : Int) = b.toNat := by unfold wrap64; omega
  have w2 : wrap64 (c.toNat : Int) = c.toNat := by unfold wrap64; omega
  have w3 : wrap64 (d.toNat : Int) = d.toNat := by unfold wrap64; omega
  have v0 : wrap64 ((a.toNat : Int) * 16777216) = a.toNat * 16777216 := by unfold wrap64; omega
  have v1 : wrap64 ((b.toNat : Int) * 65536) = b.toNat * 65536 := by unfold wrap64; omega
  have v2 : wrap64 ((c.toNat : Int) * 256) = c.toNat * 256 := by unfold wrap64; omega
  clear ha hb hc hd
  go_enter Tryd.func48, Tryd.ntmps48
  go_wp2_with fail
  go_quiet (fail)
  try simp only [g0, g1, g2, g3, w0, w1, w2, w3, v0, v1, v2, h4]
  clear g0 g1 g2 g3 w0 w1 w2 w3 v0 v1 v2 h4
  go_wp2_with fail
  go_ret
  exact ⟨rfl, below_drewN (Below.refl _ _) _⟩
set_option maxRecDepth 100000 in
set_option maxHeartbeats 2000000 in
theorem record_bytes_any (n : Int) (w : World) : Calls Tryd.prog 55 #[.int .i64 n] w fun e w' => e = .returned (.string (mk (four n))) ∧ Below w.heap.size w w' := by
  have hconv := run_conv_nw w 4 _ _ rfl (four_vals n) (by decide)
  generalize four n = l at *
  go_enter Tryd.func55, Tryd.ntmps55
  go_wp2_with fail
  go_ret
  exact ⟨rfl, (Below.refl _ _).alloc (Nat.le_refl _) _⟩
set_option maxRecDepth 100000 in
set_option maxHeartbeats 2000000 in
theorem freshetref1_four_any (n : Int) (w : World) : Calls Tryd.prog 57 #[.int .i64 n] w fun e w' => e = .returned (.string (mk (four n))) ∧ Below w.heap.size w w' := by
  have hconv := run_conv_nw w 4 _ _ rfl (four_vals n) (by decide)
  generalize four n = l at *
  go_enter Tryd.func57, Tryd.ntmps57
  go_wp2_with fail
  go_ret
  exact ⟨rfl, (Below.refl _ _).alloc (Nat.le_refl _) _⟩
end Go.Proofs.YthfpijacemkbbaaDoor

