/- Merged texts of the seat, in their order: RqA, RqB, RqC, RqD, RdA, RdB, WgA, RdC, RdD, RdE, MkA, RdF, RdG. -/
import Derived.Test.YthfhmbooeemaaaaG1
import Derived.Test.YthfhmbooeemaaaaG2
import Derived.Test.YthfhmbooeemaaaaG3
import Derived.BigQuiet
import Derived.Laws.CopyOwn
import Derived.Laws.CopyRow
/- The contracts of record.Known, within, number, bytes; the reference's number, four, word, Known. -/
namespace Go.Proofs.Ythfhmbooeemaaaa
open Go.RowKit
set_option linter.unusedVariables false
set_option linter.unusedSimpArgs false

theorem run_conv_nw (w : World) (n : Nat) (cs : List Value) (l : List UInt8) (hn : cs.length = n) (h : cs = l.map fun b => .int .u8 b.toNat) (hm : n ≤ maxLen) :
    (convert 22 9 (.slice (some ⟨w.heap.size, 0, none⟩) n n)).run Try.prog (w.alloc (.cells cs.toArray 5)) = .ok (.string (mk l)) (w.alloc (.cells cs.toArray 5)) := by
  have hl : l.length = n := by rw [← hn, h]; simp
  refine run_conv_string ?_
  unfold Byts
  rw [hl, ← h]
  exact slc_new w 1 n _ cs (by rw [hn]; simp) hm
theorem four_vals (n : Int) : [Value.int IntKind.u8 (n / 16777216 % 256), Value.int IntKind.u8 (n / 65536 % 256), Value.int IntKind.u8 (n / 256 % 256), Value.int IntKind.u8 (n % 256)] = (four n).map fun b : UInt8 => Value.int .u8 b.toNat := by
  unfold four
  simp only [List.map_cons, List.map_nil, byteOf_nat, Int.ediv_one]
/-- is a type known? -/
def knownB (t : Int) : Bool := decide (t = 1 ∨ t = 2 ∨ t = 5 ∨ t = 6 ∨ t = 12 ∨ t = 15 ∨ t = 16 ∨ t = 28 ∨ t = 33)

theorem within_any (n lo hi : Int) (w : World) : Calls Try.prog 71 #[.int .i64 n, .int .i64 lo, .int .i64 hi] w fun e w' => e = .returned (.bool (decide (lo ≤ n ∧ n ≤ hi))) ∧ w = w' := by
  by_cases h1 : lo ≤ n
  · by_cases h2 : n ≤ hi
    · have hr : Hid (decide (lo ≤ n ∧ n ≤ hi) = true) := Go.Lib.hid (decide_eq_true ⟨h1, h2⟩)
      go_enter Try.func71, Try.ntmps71
      go_wp2_with fail
      go_ret
      exact ⟨ret_bool (by first | omega | (simp; omega)), rfl⟩
    · have hr : Hid (decide (lo ≤ n ∧ n ≤ hi) = false) := Go.Lib.hid (decide_eq_false fun h => h2 h.2)
      go_enter Try.func71, Try.ntmps71
      go_wp2_with fail
      go_ret
      exact ⟨ret_bool (by first | omega | (simp; omega)), rfl⟩
  · have hr : Hid (decide (lo ≤ n ∧ n ≤ hi) = false) := Go.Lib.hid (decide_eq_false fun h => h1 h.1)
    go_enter Try.func71, Try.ntmps71
    go_wp2_with fail
    go_ret
    exact ⟨ret_bool (by first | omega | (simp; omega)), rfl⟩

set_option maxRecDepth 100000 in
set_option maxHeartbeats 2000000 in
theorem freshetref1_number_any (a b c d : UInt8) (w : World) : Calls Try.prog 30 #[.string (mk [a, b, c, d])] w fun e w' => e = .returned (.int .i64 (num4 a b c d)) ∧ Below w.heap.size w w' := by
  have h4 := or4 a b c d
  have hs : (mk [a, b, c, d]).size = 4 := rfl
  have g0 : (mk [a, b, c, d])[0]'(by rw [hs]; decide) = a := rfl
  have g1 : (mk [a, b, c, d])[1]'(by rw [hs]; decide) = b := rfl
  have g2 : (mk [a, b, c, d])[2]'(by rw [hs]; decide) = c := rfl
  have g3 : (mk [a, b, c, d])[3]'(by rw [hs]; decide) = d := rfl
  have ha := a.toNat_lt
  have hb := b.toNat_lt
  have hc := c.toNat_lt
  have hd := d.toNat_lt
  have w0 : wrap64 (a.toNat : Int) = a.toNat := by unfold wrap64; omega
  have w1 : wrap64 (b.toNat : Int) = b.toNat := by unfold wrap64; omega
  have w2 : wrap64 (c.toNat : Int) = c.toNat := by unfold wrap64; omega
  have w3 : wrap64 (d.toNat : Int) = d.toNat := by unfold wrap64; omega
  have v0 : wrap64 ((a.toNat : Int) * 16777216) = a.toNat * 16777216 := by unfold wrap64; omega
  have v1 : wrap64 ((b.toNat : Int) * 65536) = b.toNat * 65536 := by unfold wrap64; omega
  have v2 : wrap64 ((c.toNat : Int) * 256) = c.toNat * 256 := by unfold wrap64; omega
  clear ha hb hc hd
  go_enter Try.func30, Try.ntmps30
  go_wp2_with fail
  go_quiet (fail)
  try simp only [g0, g1, g2, g3, w0, w1, w2, w3, v0, v1, v2, h4]
  clear g0 g1 g2 g3 w0 w1 w2 w3 v0 v1 v2 h4
  go_wp2_with fail
  go_ret
  exact ⟨rfl, below_drewN (Below.refl _ _) _⟩
set_option maxRecDepth 100000 in
set_option maxHeartbeats 2000000 in
theorem freshetref1_four_any (n : Int) (w : World) : Calls Try.prog 53 #[.int .i64 n] w fun e w' => e = .returned (.string (mk (four n))) ∧ Below w.heap.size w w' := by
  have hconv := run_conv_nw w 4 _ _ rfl (four_vals n) (by decide)
  generalize four n = l at *
  go_enter Try.func53, Try.ntmps53
  go_wp2_with fail
  go_ret
  exact ⟨rfl, (Below.refl _ _).alloc (Nat.le_refl _) _⟩
end Go.Proofs.Ythfhmbooeemaaaa

/- The contract of record.Check. -/
namespace Go.Proofs.Ythfhmbooeemaaaa
open Go.RowKit
set_option linter.unusedVariables false

/-- may a record be? -/
def checkB (r : Rc.RR) : Bool := Nm.valid r.name && decide (1 ≤ r.ty ∧ r.ty ≤ 65535) && (r.ty != 41) && decide (0 ≤ r.cl ∧ r.cl ≤ 65535) && decide (0 ≤ r.ttl ∧ r.ttl ≤ 2147483647) && Rc.dataB r.ty r.data
set_option maxRecDepth 100000 in
set_option maxHeartbeats 4000000 in
theorem Check_a (rn rd : List UInt8) (ty cl tl : Int) (w : World)
    (HV : Hid (∀ W, Calls Try.prog 44 #[.string (mk rn)] W fun e w' => e = .returned (.bool false) ∧ W = w')) :
    Calls Try.prog 45 #[.agg #[.string (mk rn), .int .i64 ty, .int .i64 cl, .int .i64 tl, .string (mk rd)]] w fun e w' => e = .returned (.bool false) ∧ Below w.heap.size w w' := by
  have hH := World.alloc_heap_new w (.cells #[.string (mk rn), .int .i64 ty, .int .i64 cl, .int .i64 tl, .string (mk rd)] 45)
  have h0 : Below w.heap.size w (w.alloc (.cells #[.string (mk rn), .int .i64 ty, .int .i64 cl, .int .i64 tl, .string (mk rd)] 45)) := (Below.refl _ w).alloc (Nat.le_refl _) _
  have HH := Go.Lib.hid hH
  have H0 := Go.Lib.hid h0
  clear hH h0
  go_enter Try.func45, Try.ntmps45
  go_wp2_with fail
  generalize (w.alloc (.cells #[.string (mk rn), .int .i64 ty, .int .i64 cl, .int .i64 tl, .string (mk rd)] 45)) = X at *
  have hg := cell_of_heap HH.out
  have hlt := (Array.getElem?_eq_some_iff.1 HH.out).1
  have a0 : X.cell? ⟨w.heap.size, 0, none⟩ = some (.string (mk rn)) := hg 0
  have a1 : X.cell? ⟨w.heap.size, 1, none⟩ = some (.int .i64 ty) := hg 1
  have a2 : X.cell? ⟨w.heap.size, 2, none⟩ = some (.int .i64 cl) := hg 2
  have a3 : X.cell? ⟨w.heap.size, 3, none⟩ = some (.int .i64 tl) := hg 3
  have a4 : X.cell? ⟨w.heap.size, 4, none⟩ = some (.string (mk rd)) := hg 4
  clear hg hlt
  refine (HV.out _).mono ?_; rintro e _ ⟨rfl, rfl⟩
  go_wp2_with fail
  go_ret
  exact ⟨rfl, H0.out⟩

set_option maxRecDepth 100000 in
set_option maxHeartbeats 4000000 in
theorem Check_b (rn rd : List UInt8) (ty cl tl : Int) (w : World)
    (HV : Hid (∀ W, Calls Try.prog 44 #[.string (mk rn)] W fun e w' => e = .returned (.bool true) ∧ W = w'))
    (HT : Hid (∀ W, Calls Try.prog 71 #[.int .i64 ty, .int .i64 1, .int .i64 65535] W fun e w' => e = .returned (.bool false) ∧ W = w')) :
    Calls Try.prog 45 #[.agg #[.string (mk rn), .int .i64 ty, .int .i64 cl, .int .i64 tl, .string (mk rd)]] w fun e w' => e = .returned (.bool false) ∧ Below w.heap.size w w' := by
  have hH := World.alloc_heap_new w (.cells #[.string (mk rn), .int .i64 ty, .int .i64 cl, .int .i64 tl, .string (mk rd)] 45)
  have h0 : Below w.heap.size w (w.alloc (.cells #[.string (mk rn), .int .i64 ty, .int .i64 cl, .int .i64 tl, .string (mk rd)] 45)) := (Below.refl _ w).alloc (Nat.le_refl _) _
  have HH := Go.Lib.hid hH
  have H0 := Go.Lib.hid h0
  clear hH h0
  go_enter Try.func45, Try.ntmps45
  go_wp2_with fail
  generalize (w.alloc (.cells #[.string (mk rn), .int .i64 ty, .int .i64 cl, .int .i64 tl, .string (mk rd)] 45)) = X at *
  have hg := cell_of_heap HH.out
  have hlt := (Array.getElem?_eq_some_iff.1 HH.out).1
  have a0 : X.cell? ⟨w.heap.size, 0, none⟩ = some (.string (mk rn)) := hg 0
  have a1 : X.cell? ⟨w.heap.size, 1, none⟩ = some (.int .i64 ty) := hg 1
  have a2 : X.cell? ⟨w.heap.size, 2, none⟩ = some (.int .i64 cl) := hg 2
  have a3 : X.cell? ⟨w.heap.size, 3, none⟩ = some (.int .i64 tl) := hg 3
  have a4 : X.cell? ⟨w.heap.size, 4, none⟩ = some (.string (mk rd)) := hg 4
  clear hg hlt
  refine (HV.out _).mono ?_; rintro e _ ⟨rfl, rfl⟩
  go_wp2_with fail
  refine (HT.out _).mono ?_; rintro e _ ⟨rfl, rfl⟩
  go_wp2_with fail
  go_ret
  exact ⟨rfl, H0.out⟩

set_option maxRecDepth 100000 in
set_option maxHeartbeats 4000000 in
theorem Check_c (rn rd : List UInt8) (ty cl tl : Int) (w : World)
    (HV : Hid (∀ W, Calls Try.prog 44 #[.string (mk rn)] W fun e w' => e = .returned (.bool true) ∧ W = w'))
    (HT : Hid (∀ W, Calls Try.prog 71 #[.int .i64 ty, .int .i64 1, .int .i64 65535] W fun e w' => e = .returned (.bool true) ∧ W = w'))
    (h41 : (ty != 41) = false) :
    Calls Try.prog 45 #[.agg #[.string (mk rn), .int .i64 ty, .int .i64 cl, .int .i64 tl, .string (mk rd)]] w fun e w' => e = .returned (.bool false) ∧ Below w.heap.size w w' := by
  have hH := World.alloc_heap_new w (.cells #[.string (mk rn), .int .i64 ty, .int .i64 cl, .int .i64 tl, .string (mk rd)] 45)
  have h0 : Below w.heap.size w (w.alloc (.cells #[.string (mk rn), .int .i64 ty, .int .i64 cl, .int .i64 tl, .string (mk rd)] 45)) := (Below.refl _ w).alloc (Nat.le_refl _) _
  have HH := Go.Lib.hid hH
  have H0 := Go.Lib.hid h0
  clear hH h0
  go_enter Try.func45, Try.ntmps45
  go_wp2_with fail
  generalize (w.alloc (.cells #[.string (mk rn), .int .i64 ty, .int .i64 cl, .int .i64 tl, .string (mk rd)] 45)) = X at *
  have hg := cell_of_heap HH.out
  have hlt := (Array.getElem?_eq_some_iff.1 HH.out).1
  have a0 : X.cell? ⟨w.heap.size, 0, none⟩ = some (.string (mk rn)) := hg 0
  have a1 : X.cell? ⟨w.heap.size, 1, none⟩ = some (.int .i64 ty) := hg 1
  have a2 : X.cell? ⟨w.heap.size, 2, none⟩ = some (.int .i64 cl) := hg 2
  have a3 : X.cell? ⟨w.heap.size, 3, none⟩ = some (.int .i64 tl) := hg 3
  have a4 : X.cell? ⟨w.heap.size, 4, none⟩ = some (.string (mk rd)) := hg 4
  clear hg hlt
  refine (HV.out _).mono ?_; rintro e _ ⟨rfl, rfl⟩
  go_wp2_with fail
  refine (HT.out _).mono ?_; rintro e _ ⟨rfl, rfl⟩
  go_wp2_with fail
  go_ret
  exact ⟨rfl, H0.out⟩

set_option maxRecDepth 100000 in
set_option maxHeartbeats 4000000 in
theorem Check_d (rn rd : List UInt8) (ty cl tl : Int) (w : World)
    (HV : Hid (∀ W, Calls Try.prog 44 #[.string (mk rn)] W fun e w' => e = .returned (.bool true) ∧ W = w'))
    (HT : Hid (∀ W, Calls Try.prog 71 #[.int .i64 ty, .int .i64 1, .int .i64 65535] W fun e w' => e = .returned (.bool true) ∧ W = w'))
    (HC : Hid (∀ W, Calls Try.prog 71 #[.int .i64 cl, .int .i64 0, .int .i64 65535] W fun e w' => e = .returned (.bool false) ∧ W = w'))
    (h41 : (ty != 41) = true) :
    Calls Try.prog 45 #[.agg #[.string (mk rn), .int .i64 ty, .int .i64 cl, .int .i64 tl, .string (mk rd)]] w fun e w' => e = .returned (.bool false) ∧ Below w.heap.size w w' := by
  have hH := World.alloc_heap_new w (.cells #[.string (mk rn), .int .i64 ty, .int .i64 cl, .int .i64 tl, .string (mk rd)] 45)
  have h0 : Below w.heap.size w (w.alloc (.cells #[.string (mk rn), .int .i64 ty, .int .i64 cl, .int .i64 tl, .string (mk rd)] 45)) := (Below.refl _ w).alloc (Nat.le_refl _) _
  have HH := Go.Lib.hid hH
  have H0 := Go.Lib.hid h0
  clear hH h0
  go_enter Try.func45, Try.ntmps45
  go_wp2_with fail
  generalize (w.alloc (.cells #[.string (mk rn), .int .i64 ty, .int .i64 cl, .int .i64 tl, .string (mk rd)] 45)) = X at *
  have hg := cell_of_heap HH.out
  have hlt := (Array.getElem?_eq_some_iff.1 HH.out).1
  have a0 : X.cell? ⟨w.heap.size, 0, none⟩ = some (.string (mk rn)) := hg 0
  have a1 : X.cell? ⟨w.heap.size, 1, none⟩ = some (.int .i64 ty) := hg 1
  have a2 : X.cell? ⟨w.heap.size, 2, none⟩ = some (.int .i64 cl) := hg 2
  have a3 : X.cell? ⟨w.heap.size, 3, none⟩ = some (.int .i64 tl) := hg 3
  have a4 : X.cell? ⟨w.heap.size, 4, none⟩ = some (.string (mk rd)) := hg 4
  clear hg hlt
  refine (HV.out _).mono ?_; rintro e _ ⟨rfl, rfl⟩
  go_wp2_with fail
  refine (HT.out _).mono ?_; rintro e _ ⟨rfl, rfl⟩
  go_wp2_with fail
  refine (HC.out _).mono ?_; rintro e _ ⟨rfl, rfl⟩
  go_wp2_with fail
  go_ret
  exact ⟨rfl, H0.out⟩

set_option maxRecDepth 100000 in
set_option maxHeartbeats 4000000 in
theorem Check_e (rn rd : List UInt8) (ty cl tl : Int) (w : World)
    (HV : Hid (∀ W, Calls Try.prog 44 #[.string (mk rn)] W fun e w' => e = .returned (.bool true) ∧ W = w'))
    (HT : Hid (∀ W, Calls Try.prog 71 #[.int .i64 ty, .int .i64 1, .int .i64 65535] W fun e w' => e = .returned (.bool true) ∧ W = w'))
    (HC : Hid (∀ W, Calls Try.prog 71 #[.int .i64 cl, .int .i64 0, .int .i64 65535] W fun e w' => e = .returned (.bool true) ∧ W = w'))
    (HL : Hid (∀ W, Calls Try.prog 71 #[.int .i64 tl, .int .i64 0, .int .i64 2147483647] W fun e w' => e = .returned (.bool false) ∧ W = w'))
    (h41 : (ty != 41) = true) :
    Calls Try.prog 45 #[.agg #[.string (mk rn), .int .i64 ty, .int .i64 cl, .int .i64 tl, .string (mk rd)]] w fun e w' => e = .returned (.bool false) ∧ Below w.heap.size w w' := by
  have hH := World.alloc_heap_new w (.cells #[.string (mk rn), .int .i64 ty, .int .i64 cl, .int .i64 tl, .string (mk rd)] 45)
  have h0 : Below w.heap.size w (w.alloc (.cells #[.string (mk rn), .int .i64 ty, .int .i64 cl, .int .i64 tl, .string (mk rd)] 45)) := (Below.refl _ w).alloc (Nat.le_refl _) _
  have HH := Go.Lib.hid hH
  have H0 := Go.Lib.hid h0
  clear hH h0
  go_enter Try.func45, Try.ntmps45
  go_wp2_with fail
  generalize (w.alloc (.cells #[.string (mk rn), .int .i64 ty, .int .i64 cl, .int .i64 tl, .string (mk rd)] 45)) = X at *
  have hg := cell_of_heap HH.out
  have hlt := (Array.getElem?_eq_some_iff.1 HH.out).1
  have a0 : X.cell? ⟨w.heap.size, 0, none⟩ = some (.string (mk rn)) := hg 0
  have a1 : X.cell? ⟨w.heap.size, 1, none⟩ = some (.int .i64 ty) := hg 1
  have a2 : X.cell? ⟨w.heap.size, 2, none⟩ = some (.int .i64 cl) := hg 2
  have a3 : X.cell? ⟨w.heap.size, 3, none⟩ = some (.int .i64 tl) := hg 3
  have a4 : X.cell? ⟨w.heap.size, 4, none⟩ = some (.string (mk rd)) := hg 4
  clear hg hlt
  refine (HV.out _).mono ?_; rintro e _ ⟨rfl, rfl⟩
  go_wp2_with fail
  refine (HT.out _).mono ?_; rintro e _ ⟨rfl, rfl⟩
  go_wp2_with fail
  refine (HC.out _).mono ?_; rintro e _ ⟨rfl, rfl⟩
  go_wp2_with fail
  refine (HL.out _).mono ?_; rintro e _ ⟨rfl, rfl⟩
  go_wp2_with fail
  go_ret
  exact ⟨rfl, H0.out⟩

set_option maxRecDepth 100000 in
set_option maxHeartbeats 4000000 in
theorem Check_f (rn rd : List UInt8) (ty cl tl : Int) (res : Bool) (w : World)
    (HV : Hid (∀ W, Calls Try.prog 44 #[.string (mk rn)] W fun e w' => e = .returned (.bool true) ∧ W = w'))
    (HT : Hid (∀ W, Calls Try.prog 71 #[.int .i64 ty, .int .i64 1, .int .i64 65535] W fun e w' => e = .returned (.bool true) ∧ W = w'))
    (HC : Hid (∀ W, Calls Try.prog 71 #[.int .i64 cl, .int .i64 0, .int .i64 65535] W fun e w' => e = .returned (.bool true) ∧ W = w'))
    (HL : Hid (∀ W, Calls Try.prog 71 #[.int .i64 tl, .int .i64 0, .int .i64 2147483647] W fun e w' => e = .returned (.bool true) ∧ W = w'))
    (HD : Hid (∀ W, Calls Try.prog 72 #[.int .i64 ty, .string (mk rd)] W fun e w' => e = .returned (.bool res) ∧ Below W.heap.size W w'))
    (h41 : (ty != 41) = true) :
    Calls Try.prog 45 #[.agg #[.string (mk rn), .int .i64 ty, .int .i64 cl, .int .i64 tl, .string (mk rd)]] w fun e w' => e = .returned (.bool res) ∧ Below w.heap.size w w' := by
  have hH := World.alloc_heap_new w (.cells #[.string (mk rn), .int .i64 ty, .int .i64 cl, .int .i64 tl, .string (mk rd)] 45)
  have h0 : Below w.heap.size w (w.alloc (.cells #[.string (mk rn), .int .i64 ty, .int .i64 cl, .int .i64 tl, .string (mk rd)] 45)) := (Below.refl _ w).alloc (Nat.le_refl _) _
  have HH := Go.Lib.hid hH
  have H0 := Go.Lib.hid h0
  clear hH h0
  go_enter Try.func45, Try.ntmps45
  go_wp2_with fail
  generalize (w.alloc (.cells #[.string (mk rn), .int .i64 ty, .int .i64 cl, .int .i64 tl, .string (mk rd)] 45)) = X at *
  have hg := cell_of_heap HH.out
  have hlt := (Array.getElem?_eq_some_iff.1 HH.out).1
  have a0 : X.cell? ⟨w.heap.size, 0, none⟩ = some (.string (mk rn)) := hg 0
  have a1 : X.cell? ⟨w.heap.size, 1, none⟩ = some (.int .i64 ty) := hg 1
  have a2 : X.cell? ⟨w.heap.size, 2, none⟩ = some (.int .i64 cl) := hg 2
  have a3 : X.cell? ⟨w.heap.size, 3, none⟩ = some (.int .i64 tl) := hg 3
  have a4 : X.cell? ⟨w.heap.size, 4, none⟩ = some (.string (mk rd)) := hg 4
  clear hg hlt
  refine (HV.out _).mono ?_; rintro e _ ⟨rfl, rfl⟩
  go_wp2_with fail
  refine (HT.out _).mono ?_; rintro e _ ⟨rfl, rfl⟩
  go_wp2_with fail
  refine (HC.out _).mono ?_; rintro e _ ⟨rfl, rfl⟩
  go_wp2_with fail
  refine (HL.out _).mono ?_; rintro e _ ⟨rfl, rfl⟩
  go_wp2_with fail
  refine (HD.out _).mono ?_; rintro e X2 ⟨rfl, hx⟩
  have HX2 := Go.Lib.hid hx
  clear hx
  go_wp2_with fail
  go_ret
  exact ⟨rfl, H0.out.trans (HX2.out.mono H0.out.size)⟩

theorem Check_any (r : Rc.RR) (w : World) (hr : RROk r) : Calls Try.prog 45 #[rrV r] w fun e w' => e = .returned (.bool (checkB r)) ∧ Below w.heap.size w w' := by
  obtain ⟨rn, ty, cl, tl, rd⟩ := r
  obtain ⟨h1, h2⟩ := hr
  simp only at h1 h2
  have hv := fun (b : Bool) (h : Nm.valid rn = b) => Go.Lib.hid fun (W : World) => (valid_any (mk rn) W (by rw [size_mk]; exact h1)).mono fun e w' hh => (⟨hh.1.trans (by rw [bl_mk, h]), hh.2⟩ : e = .returned (.bool b) ∧ W = w')
  have hw := fun (n lo hi : Int) (b : Bool) (h : decide (lo ≤ n ∧ n ≤ hi) = b) => Go.Lib.hid fun (W : World) => (within_any n lo hi W).mono fun e w' hh => (⟨hh.1.trans (by rw [h]), hh.2⟩ : e = .returned (.bool b) ∧ W = w')
  have hd := Go.Lib.hid fun (W : World) => Data_any ty (mk rd) W (by rw [size_mk]; exact h2)
  rw [bl_mk] at hd
  have hc : checkB ⟨rn, ty, cl, tl, rd⟩ = (Nm.valid rn && decide (1 ≤ ty ∧ ty ≤ 65535) && (ty != 41) && decide (0 ≤ cl ∧ cl ≤ 65535) && decide (0 ≤ tl ∧ tl ≤ 2147483647) && Rc.dataB ty rd) := rfl
  rw [hc]
  cases e1 : Nm.valid rn with
  | false => exact Check_a rn rd ty cl tl w (hv _ e1)
  | true =>
    cases e2 : decide (1 ≤ ty ∧ ty ≤ 65535) with
    | false => exact Check_b rn rd ty cl tl w (hv _ e1) (hw _ _ _ _ e2)
    | true =>
      cases e3 : (ty != 41) with
      | false => exact Check_c rn rd ty cl tl w (hv _ e1) (hw _ _ _ _ e2) e3
      | true =>
        cases e4 : decide (0 ≤ cl ∧ cl ≤ 65535) with
        | false => exact Check_d rn rd ty cl tl w (hv _ e1) (hw _ _ _ _ e2) (hw _ _ _ _ e4) e3
        | true =>
          cases e5 : decide (0 ≤ tl ∧ tl ≤ 2147483647) with
          | false => exact Check_e rn rd ty cl tl w (hv _ e1) (hw _ _ _ _ e2) (hw _ _ _ _ e4) (hw _ _ _ _ e5) e3
          | true => exact Check_f rn rd ty cl tl _ w (hv _ e1) (hw _ _ _ _ e2) (hw _ _ _ _ e4) (hw _ _ _ _ e5) hd e3
end Go.Proofs.Ythfhmbooeemaaaa

/- The contracts of record.Addr. -/
namespace Go.Proofs.Ythfhmbooeemaaaa
open Go.RowKit
set_option linter.unusedVariables false

/-- what an address is told as -/
def addrV (ty : Int) (d : List UInt8) : Value := if ty = 1 ∧ d.length = 4 then .tuple #[.int .i64 (num4 (d.getD 0 0) (d.getD 1 0) (d.getD 2 0) (d.getD 3 0)), .bool true] else .tuple #[.int .i64 0, .bool false]
theorem four_of {d : List UInt8} (h : d.length = 4) : ∃ a b c e, d = [a, b, c, e] := by
  match d, h with
  | [a, b, c, e], _ => exact ⟨a, b, c, e, rfl⟩
end Go.Proofs.Ythfhmbooeemaaaa

/- The contracts of record.made, MakeA. -/
namespace Go.Proofs.Ythfhmbooeemaaaa
open Go.RowKit
set_option linter.unusedVariables false

/-- no record -/
def rZ : Rc.RR := ⟨[], 0, 0, 0, []⟩
theorem undRR : ∃ fs, Try.prog.underlying 45 = some (.struct fs) := ⟨_, Try.underlying45⟩
theorem infoR5 : (Try.prog.info? 45).map (·.size) = some 5 := by kernel_rfl
theorem ret_rr {fn : Func} {p : Tmp} {a : Act} {W : World} {R : Ending → World → Prop} {r : Rc.RR} {g : Nat} (hr : fn.results = #[.cell p 45]) (hp : a.tmps.getD p undef = .pointer (some ⟨g, 0, none⟩)) (hd : a.defers = [])
    (hg : W.heap[g]? = some (.cells (rrC r) 45 (0, 0))) (h : R (.returned (rrV r)) W) : bodyPost Try.prog fn R Exit.ret a W := by
  obtain ⟨fs, hu⟩ := undRR
  exact bodyPost_ret (results_cell_row hr _ _ g _ _ (0, 0) _ hp hg hu rfl infoR5) hd h
def madeN (r : Rc.RR) : Rc.RR := if checkB r then r else rZ
end Go.Proofs.Ythfhmbooeemaaaa

/- Message: the reader: need, two. -/
namespace Go.Proofs.Ythfhmbooeemaaaa
open Go.RowKit
set_option maxRecDepth 100000
set_option linter.unusedVariables false

/-- a block's cells, as a class of worlds -/
def RowC (g : Nat) (cs : Array Value) (T : TypeId) (W : World) : Prop := W.heap[g]? = some (.cells cs T (0, 0))
theorem RowC.cell {g : Nat} {cs : Array Value} {T : TypeId} (i : Nat) (v : Value) (h : cs[i]? = some v) (w3 : Subtype (RowC g cs T)) : w3.1.cell? ⟨g, i, none⟩ = some v := by
  have := w3.2
  unfold RowC at this
  simp [World.cell?, this, h]
theorem row_cell {W : World} {g : Nat} {cs : Array Value} {T : TypeId} {fr : Nat × Nat} (hr : W.heap[g]? = some (.cells cs T fr)) (i : Nat) (v : Value) (h : cs[i]? = some v) : W.cell? ⟨g, i, none⟩ = some v := by
  simp [World.cell?, hr, h]
theorem row_frozen {w : World} {g : Nat} {cur : Array Value} {e : TypeId} (h : w.heap[g]? = some (.cells cur e (0, 0))) (j : Nat) : w.frozen? ⟨g, j, none⟩ = false := by simp [World.frozen?, h]
/-- all but one block lies as it lay -/
def KeepsR (c : Nat) (w w' : World) : Prop := w.heap.size ≤ w'.heap.size ∧ ∀ k, k < w.heap.size → k ≠ c → w'.heap[k]? = w.heap[k]?
theorem KeepsR.refl (c : Nat) (w : World) : KeepsR c w w := ⟨Nat.le_refl _, fun _ _ _ => rfl⟩
theorem KeepsR.trans {c : Nat} {w w1 w2 : World} (h : KeepsR c w w1) (h2 : KeepsR c w1 w2) : KeepsR c w w2 := ⟨Nat.le_trans h.1 h2.1, fun k hk hc => (h2.2 k (Nat.lt_of_lt_of_le hk h.1) hc).trans (h.2 k hk hc)⟩
theorem KeepsR.below {c : Nat} {w w' : World} (h : Below w.heap.size w w') : KeepsR c w w' := ⟨h.size, fun k hk _ => h.block k hk⟩
theorem KeepsR.row {c k : Nat} {w w' : World} {o : Obj} (h : KeepsR c w w') (hk : w.heap[k]? = some o) (hne : k ≠ c) : w'.heap[k]? = some o := (h.2 k (Array.getElem?_eq_some_iff.1 hk).1 hne).trans hk
theorem KeepsR.setCell {r o : Nat} {v : Value} {cs : Array Value} {T : TypeId} {fr : Nat × Nat} {w w' : World} (h : KeepsR r w w') (hg : w'.heap[r]? = some (.cells cs T fr)) : KeepsR r w (w'.setCell ⟨r, o, none⟩ v) := by
  rw [setCell_eq_setRow w' r o _ _ fr v hg]
  exact ⟨by rw [setRow_size]; exact h.1, fun k hk hc => by rw [setRow_other _ _ _ _ hc]; exact h.2 k hk hc⟩

/-- the reader's block: its bytes, where it is, and whether something was wrong -/
abbrev rdA (v : Value) (at' : Int) (bad : Bool) : Array Value := #[v, .int .i64 at', .bool bad]
def Rd (r : Nat) (v : Value) (at' : Int) (bad : Bool) (w : World) : Prop := w.heap[r]? = some (.cells (rdA v at' bad) 60 (0, 0))
theorem Rd.lt {r : Nat} {v : Value} {a : Int} {bad : Bool} {w : World} (h : Rd r v a bad w) : r < w.heap.size := (Array.getElem?_eq_some_iff.1 h).1
theorem Rd.below {r : Nat} {v : Value} {a : Int} {bad : Bool} {w w' : World} (h : Rd r v a bad w) (hb : Below w.heap.size w w') : Rd r v a bad w' := (hb.block r h.lt).trans h
theorem Rd.set_bad {r : Nat} {v : Value} {a : Int} {bad : Bool} {w : World} (h : Rd r v a bad w) (x : Bool) : Rd r v a x (w.setCell ⟨r, 2, none⟩ (.bool x)) := by
  have e := setCell_eq_setRow w r 2 _ _ (0, 0) (.bool x) h
  unfold Rd
  rw [e]
  exact setRow_heap w r _ _ _ (0, 0) h
theorem Rd.set_at {r : Nat} {v : Value} {a : Int} {bad : Bool} {w : World} (h : Rd r v a bad w) (x : Int) : Rd r v x bad (w.setCell ⟨r, 1, none⟩ (.int .i64 x)) := by
  have e := setCell_eq_setRow w r 1 _ _ (0, 0) (.int .i64 x) h
  unfold Rd
  rw [e]
  exact setRow_heap w r _ _ _ (0, 0) h

/-- are so many bytes lacking? -/
def lackB (len : Nat) (at' : Nat) (bad : Bool) (n : Int) : Bool := bad || (decide (n < 0) || decide ((len : Int) - at' < n))
set_option maxHeartbeats 2000000 in
theorem need_any (r : Nat) (sa : Option Addr) (len cap : Nat) (k : Nat) (bad : Bool) (n : Int) (base : Nat) (w : World) (hr : Rd r (.slice sa len cap) k bad w) (hk : k ≤ len) (hl : len ≤ 1099511627776) (hb : base ≤ r) (hbw : base ≤ w.heap.size) :
    Calls Try.prog 75 #[.pointer (some ⟨r, 0, none⟩), .int .i64 n] w fun e w' =>
      e = .returned (.bool (!lackB len k bad n)) ∧ Rd r (.slice sa len cap) k (lackB len k bad n) w' ∧ Below base w w' ∧ KeepsR r w w' := by
  have mixed : Try.prog.follows .mixedOrders = true := by kernel_rfl
  have hw1 : IntKind.i64.wrap ((len : Int) - (k : Int)) = (len : Int) - k := wrapi (by omega) (by omega)
  have hres : ∃ x, x = lackB len k bad n := ⟨_, rfl⟩
  obtain ⟨x, hx⟩ := hres
  rw [← hx]
  have hlt := hr.lt
  have hne : Nonempty (Subtype (RowC r (rdA (.slice sa len cap) k bad) 60)) := ⟨⟨w, hr⟩⟩
  have C0 := fun w3 => RowC.cell (g := r) (cs := rdA (.slice sa len cap) k bad) (T := 60) 0 _ rfl w3
  have C1 := fun w3 => RowC.cell (g := r) (cs := rdA (.slice sa len cap) k bad) (T := 60) 1 _ rfl w3
  have C2 := fun w3 => RowC.cell (g := r) (cs := rdA (.slice sa len cap) k bad) (T := 60) 2 _ rfl w3
  have c2 : w.cell? ⟨r, 2, none⟩ = some (.bool bad) := row_cell hr 2 _ rfl
  have f2 : w.frozen? ⟨r, 2, none⟩ = false := row_frozen hr 2
  have hset := Rd.set_bad (w := w.drew) hr x
  have hbx := ((Below.refl w.heap.size w).mono hbw).drew.setCell (p := ⟨r, 2, none⟩) hb (.bool x)
  have hkp : KeepsR r w (w.drew.setCell ⟨r, 2, none⟩ (.bool x)) := KeepsR.setCell (w' := w.drew) (cs := rdA (.slice sa len cap) k bad) ⟨Nat.le_refl _, fun _ _ _ => rfl⟩ hr
  have d2 : (w.drew.setCell ⟨r, 2, none⟩ (.bool x)).cell? ⟨r, 2, none⟩ = some (.bool x) := row_cell hset 2 _ rfl
  have hr0 : RowC r (rdA (.slice sa len cap) k bad) 60 w.drew := hr
  have HSET := Go.Lib.hid hset
  have HBX := Go.Lib.hid hbx
  have HKP := Go.Lib.hid hkp
  have HR := Go.Lib.hid hr0
  clear hset hbx hkp hr0
  clear hr hlt
  cases bad with
  | true =>
    have hxx : x = true := hx
    clear hx
    subst hxx
    go_enter Try.func75, Try.ntmps75
    go_wp2_with fail
    refine Go.Mix.wp_region_mixT (Es := []) 25 (RowC r (rdA (.slice sa len cap) k true) 60) mixed (by kernel_rfl) HR.out ?_
    iterate 25 (refine Go.Mix.mixT_step rfl (fun K hK => ?_); have HKK := Go.Lib.hid hK; clear hK; go_simp; refine HKK.out _ _ ?_; clear HKK K)
    refine Go.Mix.mixT_last rfl (fun K hK => ?_)
    have HKK := Go.Lib.hid hK
    clear hK
    go_simp
    refine HKK.out _ _ ?_
    clear HKK K hne C0 C1 C2
    go_wp2_with fail
    go_ret
    exact ⟨rfl, HSET.out, HBX.out, HKP.out⟩
  | false =>
    by_cases h1 : n < 0
    · have hxx : x = true := by rw [hx]; unfold lackB; rw [decide_eq_true h1]; rfl
      clear hx
      subst hxx
      go_enter Try.func75, Try.ntmps75
      go_wp2_with fail
      refine Go.Mix.wp_region_mixT (Es := []) 25 (RowC r (rdA (.slice sa len cap) k false) 60) mixed (by kernel_rfl) HR.out ?_
      iterate 25 (refine Go.Mix.mixT_step rfl (fun K hK => ?_); have HKK := Go.Lib.hid hK; clear hK; go_simp; refine HKK.out _ _ ?_; clear HKK K)
      refine Go.Mix.mixT_last rfl (fun K hK => ?_)
      have HKK := Go.Lib.hid hK
      clear hK
      go_simp
      refine HKK.out _ _ ?_
      clear HKK K hne C0 C1 C2
      go_wp2_with fail
      go_ret
      exact ⟨rfl, HSET.out, HBX.out, HKP.out⟩
    · have hxx : x = decide ((len : Int) - k < n) := by rw [hx]; unfold lackB; rw [decide_eq_false h1]; rfl
      have HXX := Go.Lib.hid hxx
      clear hx hxx
      go_enter Try.func75, Try.ntmps75
      go_wp2_with fail
      refine Go.Mix.wp_region_mixT (Es := []) 25 (RowC r (rdA (.slice sa len cap) k false) 60) mixed (by kernel_rfl) HR.out ?_
      iterate 25 (refine Go.Mix.mixT_step rfl (fun K hK => ?_); have HKK := Go.Lib.hid hK; clear hK; go_simp; refine HKK.out _ _ ?_; clear HKK K)
      rw [← HXX.out]
      simp only [decide_eq_false (show ¬ n < 0 by omega), Bool.false_or]
      refine Go.Mix.mixT_last rfl (fun K hK => ?_)
      have HKK := Go.Lib.hid hK
      clear hK
      go_simp
      refine HKK.out _ _ ?_
      clear HKK K hne C0 C1 C2
      go_wp2_with fail
      go_ret
      exact ⟨rfl, HSET.out, HBX.out, HKP.out⟩
end Go.Proofs.Ythfhmbooeemaaaa

/- Message: the reader: two. -/
namespace Go.Proofs.Ythfhmbooeemaaaa
open Go.RowKit
set_option maxRecDepth 100000
set_option linter.unusedVariables false

theorem or2 (a b : UInt8) : bits .or .i64 ((a.toNat : Int) * 256) (b.toNat : Int) = ((a.toNat * 256 + b.toNat : Nat) : Int) := by
  have ha := a.toNat_lt
  have hb := b.toNat_lt
  have e := or_low a.toNat b.toNat 8 (by omega) (by omega)
  rw [show ((a.toNat : Int) * 256) = ((2 ^ 8 * a.toNat : Nat) : Int) by omega, e]
  omega
/-- a list of bytes lies as it lay where another block is changed -/
theorem Byts.keepsR {r : Nat} {w w' : World} {a : Option Addr} {m cap : Nat} {ls : List UInt8} (h : Byts w (.slice a m cap) ls) (hk : KeepsR r w w') (hne : ∀ x, a = some x → x.block ≠ r) : Byts w' (.slice a m cap) ls := by
  obtain ⟨h1, a', cap', e, h2, h3, h4, h5⟩ := h
  refine ⟨h1, a', cap', e, h2, h3, h4, ?_⟩
  cases e
  rcases h5 with h5 | ⟨b, off, e, hlt, hc⟩
  · exact .inl h5
  · refine .inr ⟨b, off, e, Nat.lt_of_lt_of_le hlt hk.1, fun j hj => ?_⟩
    rw [← hc j hj]
    have := hk.2 b hlt (hne _ e)
    simp [World.cell?, this]
/-- a number of two bytes: what is told, where it is then, and whether something was wrong -/
def rdTwo (zs : List UInt8) (k : Nat) (bad : Bool) : Int × Nat × Bool := if lackB zs.length k bad 2 then (0, k, true) else ((((zs.getD k 0).toNat * 256 + (zs.getD (k + 1) 0).toNat : Nat) : Int), k + 2, false)
theorem lack_two {len k : Nat} {bad : Bool} (h : lackB len k bad 2 = false) : bad = false ∧ k + 2 ≤ len := by
  unfold lackB at h
  simp at h
  obtain ⟨h1, h2⟩ := h
  exact ⟨h1, by omega⟩
set_option maxHeartbeats 2000000 in
theorem two_any (r : Nat) (sa : Option Addr) (cap : Nat) (zs : List UInt8) (k : Nat) (bad : Bool) (base : Nat) (w : World) (hr : Rd r (.slice sa zs.length cap) k bad w) (hz : Byts w (.slice sa zs.length cap) zs) (hsa : ∀ x, sa = some x → x.block ≠ r)
    (hk : k ≤ zs.length) (hl : zs.length ≤ 1099511627776) (hb : base ≤ r) (hbw : base ≤ w.heap.size) :
    Calls Try.prog 60 #[.pointer (some ⟨r, 0, none⟩)] w fun e w' =>
      e = .returned (.int .i64 (rdTwo zs k bad).1) ∧ Rd r (.slice sa zs.length cap) (rdTwo zs k bad).2.1 (rdTwo zs k bad).2.2 w' ∧ Below base w w' ∧ KeepsR r w w' := by
  have mixed : Try.prog.follows .mixedOrders = true := by kernel_rfl
  have hneed := need_any r sa zs.length cap k bad 2 base w hr hk hl hb hbw
  cases hlk : lackB zs.length k bad 2 with
  | true =>
    have hres : rdTwo zs k bad = (0, k, true) := by unfold rdTwo; rw [hlk]; rfl
    rw [hlk] at hneed
    rw [hres]
    have HNEED := Go.Lib.hid hneed
    clear hneed
    clear hr hz
    go_enter Try.func60, Try.ntmps60
    go_wp2_with fail
    refine HNEED.out.mono ?_; rintro e w1 ⟨rfl, h1, h2, h3⟩
    have H1 := Go.Lib.hid h1
    have H2 := Go.Lib.hid h2
    have H3 := Go.Lib.hid h3
    clear h1 h2 h3
    go_wp2_with fail
    go_ret
    exact ⟨rfl, H1.out, H2.out, H3.out⟩
  | false =>
    obtain ⟨hbad, hk2⟩ := lack_two hlk
    have hres : rdTwo zs k bad = ((((zs.getD k 0).toNat * 256 + (zs.getD (k + 1) 0).toNat : Nat) : Int), k + 2, false) := by unfold rdTwo; rw [hlk]; rfl
    rw [hlk] at hneed
    rw [hres]
    obtain ⟨gb, off, rfl, hgw, hcell⟩ := Byts.at hz (by omega)
    have hgr : gb ≠ r := hsa _ rfl
    have q1 : IntKind.i64.wrap ((k : Int) + 2) = (k : Int) + 2 := wrapi (by omega) (by omega)
    have q2 : IntKind.i64.wrap ((k : Int) + 2 - 2) = (k : Int) := by rw [wrapi (by omega) (by omega)]; omega
    have q3 : IntKind.i64.wrap ((k : Int) + 2 - 1) = (k : Int) + 1 := by rw [wrapi (by omega) (by omega)]; omega
    have q7 : IntKind.i64.wrap (k : Int) = (k : Int) := wrapi (by omega) (by omega)
    have q8 : IntKind.i64.wrap ((k : Int) + 1) = (k : Int) + 1 := wrapi (by omega) (by omega)
    have p1 : (0 : Int) ≤ (k : Int) := by omega
    have p2 : (0 : Int) ≤ (k : Int) + 1 := by omega
    have p3 : (k : Int) < (zs.length : Int) := by omega
    have p4 : (k : Int) + 1 < (zs.length : Int) := by omega
    have qn : ((k : Int) + 1).toNat = k + 1 := by omega
    have hx0 := hcell k (by omega)
    have hx1 := hcell (k + 1) (by omega)
    have hor := or2 (zs.getD k 0) (zs.getD (k + 1) 0)
    have hlo := (zs.getD k 0).toNat_lt
    have hhi := (zs.getD (k + 1) 0).toNat_lt
    generalize zs.getD k 0 = ya at *
    generalize zs.getD (k + 1) 0 = yb at *
    have q4 : IntKind.i64.wrap ((ya.toNat : Int) * 256) = (ya.toNat : Int) * 256 := wrapi (by omega) (by omega)
    have q5 : IntKind.i64.wrap (ya.toNat : Int) = (ya.toNat : Int) := wrapi (by omega) (by omega)
    have q6 : IntKind.i64.wrap (yb.toNat : Int) = (yb.toNat : Int) := wrapi (by omega) (by omega)
    generalize hN : zs.length = N at *
    have HNEED := Go.Lib.hid hneed
    clear hneed
    clear hr hz hcell hsa hres hlk
    go_enter Try.func60, Try.ntmps60
    go_wp2_with fail
    refine HNEED.out.mono ?_; rintro e w1 ⟨rfl, h1, h2, h3⟩
    have c1 : w1.cell? ⟨r, 1, none⟩ = some (.int .i64 k) := row_cell h1 1 _ rfl
    have f1 : w1.frozen? ⟨r, 1, none⟩ = false := row_frozen h1 1
    have hs := h1.set_at ((k : Int) + 2)
    have hkp := h3.setCell h1 (o := 1) (v := .int .i64 ((k : Int) + 2))
    have hbs := h2.setCell (p := ⟨r, 1, none⟩) hb (.int .i64 ((k : Int) + 2))
    obtain ⟨W, hW⟩ : ∃ W, w1.setCell ⟨r, 1, none⟩ (.int .i64 ((k : Int) + 2)) = W := ⟨_, rfl⟩
    rw [hW] at hs hkp hbs
    have hrow := hkp.2 gb hgw hgr
    have y0 : W.cell? ⟨gb, off + k, none⟩ = some (.int .u8 ya.toNat) := by rw [← hx0]; simp [World.cell?, hrow]
    have y1 : W.cell? ⟨gb, off + (k + 1), none⟩ = some (.int .u8 yb.toNat) := by rw [← hx1]; simp [World.cell?, hrow]
    have hgl : gb < W.heap.size := Nat.lt_of_lt_of_le hgw hkp.1
    have Y0 := BelowC.cell (W := W) y0 hgl
    have Y1 := BelowC.cell (W := W) y1 hgl
    have R0 := BelowC.cell (W := W) (row_cell hs 0 _ rfl) hs.lt
    have R1 := BelowC.cell (W := W) (row_cell hs 1 _ rfl) hs.lt
    have hne : Nonempty (Subtype (Below W.heap.size W)) := ⟨⟨W, Below.refl _ _⟩⟩
    have HS := Go.Lib.hid hs
    have HKP := Go.Lib.hid hkp
    have HBS := Go.Lib.hid hbs
    clear hs hkp hbs
    clear h1 h2 h3 hrow hx0 hx1 y0 y1 HNEED
    go_wp2_with fail
    clear hW c1 f1
    refine Go.Mix.wp_region_mixT (Es := []) 26 (Below W.heap.size W) mixed (by kernel_rfl) (Below.refl _ _).drew ?_
    iterate 26 (refine Go.Mix.mixT_step rfl (fun K hK => ?_); have HKK := Go.Lib.hid hK; clear hK; go_simp; refine HKK.out _ _ ?_; clear HKK K)
    refine Go.Mix.mixT_last rfl (fun K hK => ?_)
    have HKK := Go.Lib.hid hK
    clear hK
    go_simp
    refine HKK.out _ _ ?_
    clear HKK K hne Y0 Y1 R0 R1
    go_wp2_with fail
    go_ret
    exact ⟨rfl, HS.out, HBS.out.drew, HKP.out⟩
end Go.Proofs.Ythfhmbooeemaaaa

/- Message: wname.Get: the name that begins at a place. -/
namespace Go.Proofs.Ythfhmbooeemaaaa
open Go.RowKit
set_option maxRecDepth 100000
set_option linter.unusedVariables false

theorem byteEi : EI Try.prog 22 5 1 1 := ei_of Try.underlying22 (z := .int .u8 0) (by kernel_rfl) rfl (by decide)
/-- a name read on from a place: 'bg' where it was jumped to last, 'e' the place behind it, once known -/
def getF (zs : List UInt8) : Nat → Nat → Nat → Int → List UInt8 → Option (List UInt8 × Int)
  | 0, _, _, _, _ => none
  | f + 1, k, bg, e, out =>
    if k < zs.length then
      if (zs.getD k 0).toNat = 0 then (if 255 < out.length + 1 then none else some (out ++ [0], if e < 0 then (k : Int) + 1 else e))
      else if (zs.getD k 0).toNat ≤ 63 then (if zs.length < k + 1 + (zs.getD k 0).toNat ∨ 255 < out.length then none else getF zs f (k + 1 + (zs.getD k 0).toNat) bg e (out ++ (zs.drop k).take (1 + (zs.getD k 0).toNat)))
      else if (zs.getD k 0).toNat < 192 ∨ zs.length ≤ k + 1 then none
      else if bg ≤ ((zs.getD k 0).toNat - 192) * 256 + (zs.getD (k + 1) 0).toNat then none
      else getF zs f (((zs.getD k 0).toNat - 192) * 256 + (zs.getD (k + 1) 0).toNat) (((zs.getD k 0).toNat - 192) * 256 + (zs.getD (k + 1) 0).toNat) (if e < 0 then (k : Int) + 2 else e) out
    else none
def getR : Option (List UInt8 × Int) → List UInt8 × Int × Int
  | none => ([], 0, 2)
  | some (n, e) => (n, e, 0)
/-- the name at a place, the place behind it, and what is told -/
def getN (zs : List UInt8) (k : Nat) : List UInt8 × Int × Int := getR (getF zs (k * (zs.length + 1) + (zs.length - k) + 1) k k (-1) [])
theorem andNot192 (c : UInt8) (h : 192 ≤ c.toNat) : bits .andNot .i64 (c.toNat : Int) 192 = ((c.toNat - 192 : Nat) : Int) := by
  have : ∀ n : Fin 256, 192 ≤ n.val → bits .andNot .i64 (n.val : Int) 192 = ((n.val - 192 : Nat) : Int) := by decide +kernel
  exact this ⟨c.toNat, c.toNat_lt⟩ h
def GetEnd (w : World) (x : List UInt8 × Int × Int) (e : Ending) (w' : World) : Prop := e = .returned (.tuple #[.string (mk x.1), .int .i64 x.2.1, .int .i64 x.2.2]) ∧ Below w.heap.size w w'
set_option maxHeartbeats 4000000 in
theorem Get_any (sa : Option Addr) (cap : Nat) (zs : List UInt8) (k0 : Nat) (w : World) (hz : Byts w (.slice sa zs.length cap) zs) (hk0 : k0 ≤ zs.length) (hl : zs.length ≤ 1099511627776) :
    Calls Try.prog 84 #[.slice sa zs.length cap, .int .i64 k0] w (GetEnd w (getN zs k0)) := by
  obtain ⟨R, hR⟩ : ∃ R, R = getF zs (k0 * (zs.length + 1) + (zs.length - k0) + 1) k0 k0 (-1) [] := ⟨_, rfl⟩
  have hRR : getN zs k0 = getR R := by rw [hR]; rfl
  rw [hRR]
  generalize hN : zs.length = N at *
  have HZ := Go.Lib.hid hz
  have HN := Go.Lib.hid hN
  have HR := Go.Lib.hid hR
  clear hz hN hR
  clear hRR
  go_enter Try.func84, Try.ntmps84
  go_wp2_with fail
  go_loopw [1, 7, 8, 9] (fun va vo vb ve wr => ∃ (f k bg : Nat) (e : Int) (out : List UInt8), va = .int .i64 k ∧ vb = .int .i64 bg ∧ ve = .int .i64 e ∧ R = getF zs f k bg e out ∧ bg * (N + 1) + (N - k) < f ∧ k ≤ N ∧ bg ≤ N ∧ -1 ≤ e ∧ e ≤ N ∧ out.length ≤ 400 ∧ wr.ownsRow w.heap.size 5 1 vo out.length (encB out) ∧ Below w.heap.size w wr) (fun va _ vb _ _ => (intOf vb).toNat * (N + 1) + (N - (intOf va).toNat))
  case atStart => exact ⟨_, k0, k0, -1, [], rfl, rfl, rfl, HR.out, by omega, hk0, hk0, by omega, by omega, by simp, World.ownsRow_nil _ _ _ _, Below.refl _ _⟩
  case round =>
    obtain ⟨f, k, bg, e, out, rfl, rfl, rfl, hRf, hm, hk, hbg, he1, he2, hol, hown, hb⟩ := hrel
    obtain ⟨f, rfl⟩ : ∃ f', f = f' + 1 := ⟨f - 1, by omega⟩
    obtain ⟨a9, c9, rfl, _, _⟩ := (SlC.of_owns hown).slice
    have hge := hb.size
    rw [getF, HN.out] at hRf
    by_cases hlt : k < N
    · rw [if_pos hlt] at hRf
      obtain ⟨b, off, rfl, hbw, hcell⟩ := Byts.at (show Byts wr (.slice sa N cap) zs by have h := HZ.out.below hb (Nat.le_refl _); exact h) (by rw [HN.out]; omega)
      have x0 := hcell k (by rw [HN.out]; exact hlt)
      have hc256 := (zs.getD k 0).toNat_lt
      have p1 : (0 : Int) ≤ (k : Int) := by omega
      have p2 : (k : Int) < (N : Int) := by omega
      have q1 : IntKind.i64.wrap ((zs.getD k 0).toNat : Int) = ((zs.getD k 0).toNat : Int) := wrapi (by omega) (by omega)
      have q2 : IntKind.i64.wrap ((k : Int) + 1) = (k : Int) + 1 := wrapi (by omega) (by omega)
      have q3 : IntKind.i64.wrap ((k : Int) + 2) = (k : Int) + 2 := wrapi (by omega) (by omega)
      generalize hcc : zs.getD k 0 = c at *
      have HO := Go.Lib.hid hown
      have HB := Go.Lib.hid hb
      have HRF := Go.Lib.hid hRf
      have HC := Go.Lib.hid hcell
      have HCC := Go.Lib.hid hcc
      clear hown hb hRf hcell hcc
      by_cases h0 : c.toNat = 0
      · have e1 : ((c.toNat : Int) == 0) = true := by rw [h0]; rfl
        have hstep := HRF.out
        rw [if_pos h0] at hstep
        have HST := Go.Lib.hid hstep
        clear hstep HRF HC HCC
        go_wp2_with (at_builtin; refine wpList_app byteEi (.tmp 57) (.tmp 58) rfl rfl w.heap.size rfl rfl (HO.out.alloc _) (slc_new _ 1 1 5 [.int .u8 0] rfl (by decide)) ?a1 ?a2 ?a3 ?a4 ?a5)
        case a1 => intro u hu; simp at hu; subst hu; rfl
        case a2 => unfold maxLen; omega
        case a3 => omega
        case a4 => simp; omega
        intro v1 w1 hown1 hg1
        have hown2 : w1.ownsRow w.heap.size 5 1 v1 (out ++ [0]).length (encB (out ++ [0])) := by
          rw [List.length_append]; simpa [encB] using hown1
        have hb2 := below_app (HB.out.alloc hge _) (HO.out.alloc _) hg1 (Nat.le_refl _) (by simp; omega)
        obtain ⟨a1, c1, rfl, _, _⟩ := (SlC.of_owns hown1).slice
        have hconv : (convert 22 9 (.slice a1 (out.length + 1) c1)).run Try.prog w1 = .ok (.string (mk (out ++ [0]))) w1 := run_conv_string (SlC.of_owns hown2)
        have HB2 := Go.Lib.hid hb2
        clear hb2
        clear hown1 hown2 hg1 HO HB x0
        by_cases he : e < 0
        · by_cases hlen : 255 < out.length + 1
          · have hR2 : Hid (R = none) := Go.Lib.hid (by rw [HST.out, if_pos hlen])
            have t1 : (255 : Int) < (out.length : Int) + 1 := by omega
            go_wp2_with fail
            go_ret3
            exact ⟨by rw [hR2.out]; rfl, HB2.out⟩
          · have hR2 : Hid (R = some (out ++ [0], (k : Int) + 1)) := Go.Lib.hid (by rw [HST.out, if_neg hlen, if_pos he])
            have t1 : ¬ (255 : Int) < (out.length : Int) + 1 := by omega
            go_wp2_with fail
            go_ret3
            exact ⟨by rw [hR2.out]; rfl, HB2.out⟩
        · by_cases hlen : 255 < out.length + 1
          · have hR2 : Hid (R = none) := Go.Lib.hid (by rw [HST.out, if_pos hlen])
            have t1 : (255 : Int) < (out.length : Int) + 1 := by omega
            go_wp2_with fail
            go_ret3
            exact ⟨by rw [hR2.out]; rfl, HB2.out⟩
          · have hR2 : Hid (R = some (out ++ [0], e)) := Go.Lib.hid (by rw [HST.out, if_neg hlen, if_neg he])
            have t1 : ¬ (255 : Int) < (out.length : Int) + 1 := by omega
            go_wp2_with fail
            go_ret3
            exact ⟨by rw [hR2.out]; rfl, HB2.out⟩
      · have e1 : ((c.toNat : Int) == 0) = false := by rw [beq_eq_false_iff_ne]; omega
        by_cases h63 : c.toNat ≤ 63
        · have t0 : (c.toNat : Int) ≤ 63 := by omega
          have hstep := HRF.out
          rw [if_neg h0, if_pos h63] at hstep
          have HST := Go.Lib.hid hstep
          have q4 : IntKind.i64.wrap ((k : Int) + 1 + (c.toNat : Int)) = (k : Int) + 1 + c.toNat := wrapi (by omega) (by omega)
          have q5 : IntKind.i64.wrap (1 + (c.toNat : Int)) = 1 + (c.toNat : Int) := wrapi (by omega) (by omega)
          have q6 : IntKind.i64.wrap ((k : Int) + (1 + (c.toNat : Int))) = (k : Int) + (1 + (c.toNat : Int)) := wrapi (by omega) (by omega)
          clear hstep HRF HC
          by_cases hA : N < k + 1 + c.toNat
          · have hR2 : Hid (R = none) := Go.Lib.hid (by rw [HST.out, if_pos (.inl hA)])
            have t1 : (N : Int) < (k : Int) + 1 + (c.toNat : Int) := by omega
            clear hA
            go_wp2_with fail
            go_ret3
            exact ⟨by rw [hR2.out]; rfl, HB.out⟩
          · have t1 : ¬ (N : Int) < (k : Int) + 1 + (c.toNat : Int) := by omega
            by_cases hlen : 255 < out.length
            · have hR2 : Hid (R = none) := Go.Lib.hid (by rw [HST.out, if_pos (.inr hlen)])
              have t2 : (255 : Int) < (out.length : Int) := by omega
              clear hA
              go_wp2_with fail
              go_ret3
              exact ⟨by rw [hR2.out]; rfl, HB.out⟩
            · have t2 : ¬ (255 : Int) < (out.length : Int) := by omega
              have hR2 := HST.out
              rw [if_neg (by omega)] at hR2
              have HR2 := Go.Lib.hid hR2
              clear hR2
              clear HST
              have hl1 : ((zs.drop k).take (1 + c.toNat)).length = 1 + c.toNat := by rw [List.length_take, List.length_drop, HN.out]; omega
              have t3 : (k : Int) ≤ (k : Int) + 1 + (c.toNat : Int) := by omega
              have hcapN : N ≤ cap := by
                have h := HZ.out
                obtain ⟨_, _, _, e, h2, _⟩ := h
                cases e
                exact h2
              have t4 : (k : Int) + 1 + (c.toNat : Int) ≤ (cap : Int) := by omega
              have t5 : (0 : Int) ≤ (k : Int) + 1 + (c.toNat : Int) := by omega
              have t6 : ((k : Int) + 1 + (c.toNat : Int)).toNat = k + 1 + c.toNat := by omega
              have t7 : ((k : Int) + 1 + (c.toNat : Int) - (k : Int)).toNat = 1 + c.toNat := by omega
              have t8 : ((k : Int) + (1 + (c.toNat : Int))).toNat = k + 1 + c.toNat := by omega
              go_wp2_with (at_builtin; refine wpList_app byteEi (.tmp 85) (.tmp 92) rfl rfl w.heap.size rfl rfl HO.out (m := 1 + c.toNat) (news := encB ((zs.drop k).take (1 + c.toNat))) ?b0 ?b1 ?b2 ?b3 ?b4 ?b5)
              case b0 =>
                have hbz : Byts wr (.slice (some ⟨b, off, none⟩) N cap) zs := HZ.out.below HB.out (Nat.le_refl _)
                have hsub := Byts.sub hbz HN.out (i := k) (j := k + 1 + c.toNat) (by omega) (by omega) (a' := some ⟨b, off + k, none⟩) (fun _ => rfl) (fun h => by cases h)
                have e9 : k + 1 + c.toNat - k = 1 + c.toNat := by omega
                rw [e9] at hsub ⊢
                unfold Byts at hsub
                rw [hl1] at hsub
                exact hsub
              case b1 => intro u hu; unfold encB at hu; obtain ⟨_, _, rfl⟩ := List.mem_map.1 hu; rfl
              case b2 => unfold maxLen; omega
              case b3 => omega
              intro v1 w1 hown1 hg1
              have hown2 : w1.ownsRow w.heap.size 5 1 v1 (out ++ (zs.drop k).take (1 + c.toNat)).length (encB (out ++ (zs.drop k).take (1 + c.toNat))) := by
                rw [List.length_append, hl1]; simpa [encB] using hown1
              have hb2 := below_app HB.out HO.out hg1 (Nat.le_refl _) (by omega)
              have hol2 : (out ++ (zs.drop k).take (1 + c.toNat)).length ≤ 400 := by rw [List.length_append, hl1]; omega
              have HB2 := Go.Lib.hid hb2
              have HO2 := Go.Lib.hid hown2
              have HOL2 := Go.Lib.hid hol2
              clear hb2 hown2 hol2
              clear hown1 hg1 HO HB x0
              go_wp2_with fail
              go_roundw
              case rel => exact ⟨f, k + 1 + c.toNat, bg, e, _, by go_num, rfl, rfl, HR2.out, by omega, by omega, hbg, he1, he2, HOL2.out, HO2.out, HB2.out⟩
              case measure => simp [intOf]; omega
        · have t0 : ¬ (c.toNat : Int) ≤ 63 := by omega
          have hstep := HRF.out
          rw [if_neg h0, if_neg h63] at hstep
          have HST := Go.Lib.hid hstep
          clear hstep HRF
          by_cases hA : c.toNat < 192
          · have hR2 : Hid (R = none) := Go.Lib.hid (by rw [HST.out, if_pos (.inl hA)])
            have t1 : (c.toNat : Int) < 192 := by omega
            clear hA
            go_wp2_with fail
            go_ret3
            exact ⟨by rw [hR2.out]; rfl, HB.out⟩
          · have t1 : ¬ (c.toNat : Int) < 192 := by omega
            by_cases hlen : N ≤ k + 1
            · have hR2 : Hid (R = none) := Go.Lib.hid (by rw [HST.out, if_pos (.inr hlen)])
              have t2 : (N : Int) ≤ (k : Int) + 1 := by omega
              clear hA
              go_wp2_with fail
              go_ret3
              exact ⟨by rw [hR2.out]; rfl, HB.out⟩
            · have t2 : ¬ (N : Int) ≤ (k : Int) + 1 := by omega
              have hR2 := HST.out
              rw [if_neg (by omega)] at hR2
              have x1 := HC.out (k + 1) (by rw [HN.out]; omega)
              have hd256 := (zs.getD (k + 1) 0).toNat_lt
              generalize zs.getD (k + 1) 0 = d at *
              have an := andNot192 c (by omega)
              have hor := or_low (c.toNat - 192) d.toNat 8 (by omega) (by omega)
              have hto : (2 ^ 8 * (c.toNat - 192) + d.toNat) = (c.toNat - 192) * 256 + d.toNat := by omega
              rw [hto] at hor
              have hor2 : bits .or .i64 (((c.toNat - 192 : Nat) : Int) * 256) (d.toNat : Int) = (((c.toNat - 192) * 256 + d.toNat : Nat) : Int) := by
                rw [← hor]; congr 1; omega
              generalize hT : (c.toNat - 192) * 256 + d.toNat = T at *
              generalize hT2 : c.toNat - 192 = c2 at *
              have q4 : IntKind.i64.wrap (c2 : Int) = (c2 : Int) := wrapi (by omega) (by omega)
              have q5 : IntKind.i64.wrap ((c2 : Int) * 256) = (c2 : Int) * 256 := wrapi (by omega) (by omega)
              have q6 : IntKind.i64.wrap (d.toNat : Int) = (d.toNat : Int) := wrapi (by omega) (by omega)
              have p3 : (0 : Int) ≤ (k : Int) + 1 := by omega
              have p4 : (k : Int) + 1 < (N : Int) := by omega
              have p5 : ((k : Int) + 1).toNat = k + 1 := by omega
              clear hor hto
              have HR2 := Go.Lib.hid hR2
              have HT := Go.Lib.hid hT
              have HT2 := Go.Lib.hid hT2
              clear hR2 hT hT2
              clear HST
              by_cases hbt : bg ≤ T
              · have hR3 : Hid (R = none) := Go.Lib.hid (by rw [HR2.out, if_pos hbt])
                have t3 : (bg : Int) ≤ (T : Int) := by omega
                clear hA hlen
                go_wp2_with fail
                go_ret3
                exact ⟨by rw [hR3.out]; rfl, HB.out⟩
              · have t3 : ¬ (bg : Int) ≤ (T : Int) := by omega
                have hR3 := HR2.out
                rw [if_neg hbt] at hR3
                have hmul : T * (N + 1) + (N + 1) ≤ bg * (N + 1) := by
                  have := Nat.mul_le_mul_right (N + 1) (show T + 1 ≤ bg by omega)
                  rw [Nat.add_mul, Nat.one_mul] at this
                  exact this
                by_cases he : e < 0
                · rw [if_pos he] at hR3
                  have HR3 := Go.Lib.hid hR3
                  have HMUL := Go.Lib.hid hmul
                  clear hR3 hmul
                  clear hA hlen
                  go_wp2_with fail
                  go_roundw
                  case rel => exact ⟨f, T, T, (k : Int) + 2, out, rfl, rfl, rfl, HR3.out, by have := HMUL.out; omega, by omega, by omega, by omega, by omega, hol, HO.out, HB.out⟩
                  case measure => have := HMUL.out; simp [intOf]; omega
                · rw [if_neg he] at hR3
                  have HR3 := Go.Lib.hid hR3
                  have HMUL := Go.Lib.hid hmul
                  clear hR3 hmul
                  clear hA hlen
                  go_wp2_with fail
                  go_roundw
                  case rel => exact ⟨f, T, T, e, out, rfl, rfl, rfl, HR3.out, by have := HMUL.out; omega, by omega, by omega, by omega, by omega, hol, HO.out, HB.out⟩
                  case measure => have := HMUL.out; simp [intOf]; omega
    · rw [if_neg hlt] at hRf
      have t1 : ¬ (k : Int) < (N : Int) := by omega
      have HO := Go.Lib.hid hown
      have HB := Go.Lib.hid hb
      have HRF := Go.Lib.hid hRf
      clear hown hb hRf
      go_wp2_with fail
      go_ret3
      exact ⟨by rw [HRF.out]; rfl, HB.out⟩
end Go.Proofs.Ythfhmbooeemaaaa

/- Message: the reader: name, bytes. -/
namespace Go.Proofs.Ythfhmbooeemaaaa
open Go.RowKit
set_option maxRecDepth 100000
set_option linter.unusedVariables false

theorem getF_end (zs : List UInt8) : ∀ (f k bg : Nat) (e : Int) (out n : List UInt8) (e2 : Int), -1 ≤ e → e ≤ zs.length → getF zs f k bg e out = some (n, e2) → 0 ≤ e2 ∧ e2 ≤ zs.length
  | 0, _, _, _, _, _, _, _, _, h => by simp [getF] at h
  | f + 1, k, bg, e, out, n, e2, h1, h2, h => by
    rw [getF] at h
    split at h
    · split at h
      · split at h
        · cases h
        · simp only [Option.some.injEq, Prod.mk.injEq] at h
          obtain ⟨_, rfl⟩ := h
          split <;> omega
      · split at h
        · split at h
          · cases h
          · exact getF_end zs f _ _ _ _ _ _ h1 h2 h
        · split at h
          · cases h
          · split at h
            · cases h
            · refine getF_end zs f _ _ _ _ _ _ ?_ ?_ h
              · split <;> omega
              · split <;> omega
    · cases h
/-- a name: what is told, where it is then, and whether something was wrong -/
def rdName (zs : List UInt8) (k : Nat) (bad : Bool) : List UInt8 × Nat × Bool := if bad then ([], k, true) else if (getN zs k).2.2 = 0 then ((getN zs k).1, (getN zs k).2.1.toNat, false) else ([], k, true)
theorem getN_end {zs : List UInt8} {k : Nat} (h : (getN zs k).2.2 = 0) : 0 ≤ (getN zs k).2.1 ∧ (getN zs k).2.1 ≤ zs.length := by
  unfold getN at *
  cases hg : getF zs (k * (zs.length + 1) + (zs.length - k) + 1) k k (-1) [] with
  | none => rw [hg] at h; simp [getR] at h
  | some p =>
    obtain ⟨n, e⟩ := p
    exact getF_end zs _ _ _ _ _ _ _ (by omega) (by omega) hg
theorem getN_err (zs : List UInt8) (k : Nat) : (getN zs k).2.2 = 0 ∨ (getN zs k).2.2 = 2 := by
  unfold getN
  cases getF zs (k * (zs.length + 1) + (zs.length - k) + 1) k k (-1) [] with
  | none => exact .inr rfl
  | some p => exact .inl rfl
set_option maxHeartbeats 2000000 in
theorem name_any (r : Nat) (sa : Option Addr) (cap : Nat) (zs : List UInt8) (k : Nat) (bad : Bool) (base : Nat) (w : World) (hr : Rd r (.slice sa zs.length cap) k bad w) (hz : Byts w (.slice sa zs.length cap) zs)
    (hk : k ≤ zs.length) (hl : zs.length ≤ 1099511627776) (hb : base ≤ r) (hbw : base ≤ w.heap.size) :
    Calls Try.prog 76 #[.pointer (some ⟨r, 0, none⟩)] w fun e w' =>
      e = .returned (.string (mk (rdName zs k bad).1)) ∧ Rd r (.slice sa zs.length cap) (rdName zs k bad).2.1 (rdName zs k bad).2.2 w' ∧ Below base w w' ∧ KeepsR r w w' := by
  have mixed : Try.prog.follows .mixedOrders = true := by kernel_rfl
  have c0 : w.cell? ⟨r, 0, none⟩ = some (.slice sa zs.length cap) := row_cell hr 0 _ rfl
  have c1 : w.cell? ⟨r, 1, none⟩ = some (.int .i64 k) := row_cell hr 1 _ rfl
  have c2 : w.cell? ⟨r, 2, none⟩ = some (.bool bad) := row_cell hr 2 _ rfl
  cases bad with
  | true =>
    have HR := Go.Lib.hid hr
    clear hr hz
    go_enter Try.func76, Try.ntmps76
    go_wp2_with fail
    go_ret
    exact ⟨rfl, HR.out, (Below.refl _ w).mono hbw, KeepsR.refl _ _⟩
  | false =>
    have hget := Get_any sa cap zs k w.drew hz hk hl
    have hend := getN_end (zs := zs) (k := k)
    have herr := getN_err zs k
    have hrn : rdName zs k false = if (getN zs k).2.2 = 0 then ((getN zs k).1, (getN zs k).2.1.toNat, false) else ([], k, true) := rfl
    rw [hrn]
    generalize getN zs k = g at *
    obtain ⟨gn, ge, gf⟩ := g
    simp only at hend herr
    have hlt := hr.lt
    have C0 := BelowC.cell (W := w) c0 hlt
    have C1 := BelowC.cell (W := w) c1 hlt
    have hne : Nonempty (Subtype (Below w.heap.size w)) := ⟨⟨w, Below.refl _ _⟩⟩
    generalize hN : zs.length = N at *
    unfold GetEnd at hget
    have HGET := Go.Lib.hid hget
    have HR := Go.Lib.hid hr
    have HEND := Go.Lib.hid hend
    have HERR := Go.Lib.hid herr
    clear hget hr hend herr
    clear hz hrn c0 c1
    go_enter Try.func76, Try.ntmps76
    go_wp2_with fail
    refine Go.Mix.wp_region_mixT (Es := [8]) 15 (Below w.heap.size w) mixed (by kernel_rfl) (Below.refl _ _).drew ?_
    iterate 8 (refine Go.Mix.mixT_step rfl (fun K hK => ?_); have HKK := Go.Lib.hid hK; clear hK; go_simp; refine HKK.out _ _ ?_; clear HKK K)
    refine Go.Mix.mixT_eff rfl (fun K hK => ?_)
    have HKK := Go.Lib.hid hK
    clear hK
    go_simp
    refine HGET.out.mono ?_; rintro e wf ⟨rfl, hxf⟩
    have hbf : Below w.heap.size w wf := ((Below.refl w.heap.size w).drew).trans hxf
    have HBF := Go.Lib.hid hbf
    clear hbf
    clear hxf
    go_simp
    refine HKK.out _ _ HBF.out ?_
    clear HKK K
    iterate 6 (refine Go.Mix.mixT_step rfl (fun K hK => ?_); have HKK := Go.Lib.hid hK; clear hK; go_simp; refine HKK.out _ _ ?_; clear HKK K)
    refine Go.Mix.mixT_last rfl (fun K hK => ?_)
    have HKK := Go.Lib.hid hK
    clear hK
    go_simp
    refine HKK.out _ _ ?_
    clear HKK K hne C0 C1 HGET
    have hrf := HR.out.below HBF.out
    have hkf : KeepsR r w wf := KeepsR.below HBF.out
    have hbb : Below base w wf := HBF.out.mono hbw
    have b2 : wf.cell? ⟨r, 2, none⟩ = some (.bool false) := row_cell hrf 2 _ rfl
    have f2 : wf.frozen? ⟨r, 2, none⟩ = false := row_frozen hrf 2
    by_cases h0 : gf = 0
    · subst h0
      obtain ⟨j1, j2⟩ := HEND.out rfl
      obtain ⟨q, rfl⟩ : ∃ q : Nat, ge = (q : Int) := ⟨ge.toNat, by omega⟩
      have hs := hrf.set_bad false
      have hks := hkf.setCell hrf (o := 2) (v := .bool false)
      have hbs := hbb.setCell (p := ⟨r, 2, none⟩) hb (.bool false)
      obtain ⟨W, hW⟩ : ∃ W, wf.setCell ⟨r, 2, none⟩ (.bool false) = W := ⟨_, rfl⟩
      rw [hW] at hs hks hbs
      have d2 : W.cell? ⟨r, 2, none⟩ = some (.bool false) := row_cell hs 2 _ rfl
      have d1 : W.cell? ⟨r, 1, none⟩ = some (.int .i64 k) := row_cell hs 1 _ rfl
      have g1 : W.frozen? ⟨r, 1, none⟩ = false := row_frozen hs 1
      have hs2 := hs.set_at (q : Int)
      have hks2 := hks.setCell hs (o := 1) (v := .int .i64 (q : Int))
      have hbs2 := hbs.setCell (p := ⟨r, 1, none⟩) hb (.int .i64 (q : Int))
      have HS := Go.Lib.hid hs2
      have HKS := Go.Lib.hid hks2
      have HBS := Go.Lib.hid hbs2
      clear hs2 hks2 hbs2
      clear hs hks hbs hrf hkf hbb HBF HR HEND HERR
      go_wp2_with fail
      go_ret
      exact ⟨rfl, HS.out, HBS.out, HKS.out⟩
    · obtain rfl : gf = 2 := by rcases HERR.out with h | h; exact absurd h h0; exact h
      have hs := hrf.set_bad true
      have hks := hkf.setCell hrf (o := 2) (v := .bool true)
      have hbs := hbb.setCell (p := ⟨r, 2, none⟩) hb (.bool true)
      have d2 : (wf.setCell ⟨r, 2, none⟩ (.bool true)).cell? ⟨r, 2, none⟩ = some (.bool true) := row_cell hs 2 _ rfl
      have HS := Go.Lib.hid hs
      have HKS := Go.Lib.hid hks
      have HBS := Go.Lib.hid hbs
      clear hs hks hbs
      clear h0 hrf hkf hbb HBF HR HEND HERR
      go_wp2_with fail
      go_ret
      exact ⟨rfl, HS.out, HBS.out, HKS.out⟩
end Go.Proofs.Ythfhmbooeemaaaa

/- Message: the reader: bytes. -/
namespace Go.Proofs.Ythfhmbooeemaaaa
open Go.RowKit
set_option maxRecDepth 100000
set_option linter.unusedVariables false

/-- bytes: what is told, where it is then, and whether something was wrong -/
def rdBytes (zs : List UInt8) (k : Nat) (bad : Bool) (n : Int) : List UInt8 × Nat × Bool := if lackB zs.length k bad n then ([], k, true) else ((zs.drop k).take n.toNat, k + n.toNat, false)
theorem lack_n {len k : Nat} {bad : Bool} {n : Int} (h : lackB len k bad n = false) : bad = false ∧ 0 ≤ n ∧ (k : Int) + n ≤ len := by
  unfold lackB at h
  simp at h
  obtain ⟨h1, h2, h3⟩ := h
  exact ⟨h1, by omega, by omega⟩
set_option maxHeartbeats 2000000 in
theorem bytes_any (r gb off cap : Nat) (zs : List UInt8) (k : Nat) (bad : Bool) (n : Int) (base : Nat) (w : World) (hr : Rd r (.slice (some ⟨gb, off, none⟩) zs.length cap) k bad w) (hz : Byts w (.slice (some ⟨gb, off, none⟩) zs.length cap) zs) (hgr : gb ≠ r)
    (hk : k ≤ zs.length) (hl : zs.length ≤ 1099511627776) (hb : base ≤ r) (hbw : base ≤ w.heap.size) :
    Calls Try.prog 87 #[.pointer (some ⟨r, 0, none⟩), .int .i64 n] w fun e w' =>
      e = .returned (.string (mk (rdBytes zs k bad n).1)) ∧ Rd r (.slice (some ⟨gb, off, none⟩) zs.length cap) (rdBytes zs k bad n).2.1 (rdBytes zs k bad n).2.2 w' ∧ Below base w w' ∧ KeepsR r w w' := by
  have mixed : Try.prog.follows .mixedOrders = true := by kernel_rfl
  have hneed := need_any r (some ⟨gb, off, none⟩) zs.length cap k bad n base w hr hk hl hb hbw
  cases hlk : lackB zs.length k bad n with
  | true =>
    have hres : rdBytes zs k bad n = ([], k, true) := by unfold rdBytes; rw [hlk]; rfl
    rw [hlk] at hneed
    rw [hres]
    have HNEED := Go.Lib.hid hneed
    clear hneed
    clear hr hz
    go_enter Try.func87, Try.ntmps87
    go_wp2_with fail
    refine HNEED.out.mono ?_; rintro e w1 ⟨rfl, h1, h2, h3⟩
    have H1 := Go.Lib.hid h1
    have H2 := Go.Lib.hid h2
    have H3 := Go.Lib.hid h3
    clear h1 h2 h3
    go_wp2_with fail
    go_ret
    exact ⟨rfl, H1.out, H2.out, H3.out⟩
  | false =>
    obtain ⟨hbad, hn0, hkn⟩ := lack_n hlk
    obtain ⟨m, rfl⟩ : ∃ m : Nat, n = (m : Int) := ⟨n.toNat, by omega⟩
    have hres : rdBytes zs k bad m = ((zs.drop k).take m, k + m, false) := by unfold rdBytes; rw [hlk]; rfl
    rw [hlk] at hneed
    rw [hres]
    have hcapN : zs.length ≤ cap := by
      obtain ⟨_, _, _, e, h2, _⟩ := hz
      cases e
      exact h2
    have hsub : ∀ W, Byts W (.slice (some ⟨gb, off, none⟩) zs.length cap) zs → ∀ a', (0 < m → a' = some ⟨gb, off + k, none⟩) → (a' = none → cap - k = 0) → Byts W (.slice a' m (cap - k)) ((zs.drop k).take m) := fun W h a' h1 h2 => by
      have := Byts.sub h rfl (i := k) (j := k + m) (by omega) (by omega) (a' := a') (fun h => h1 (by omega)) h2
      rwa [Nat.add_sub_cancel_left] at this
    have q1 : IntKind.i64.wrap ((k : Int) + (m : Int)) = (k : Int) + m := wrapi (by omega) (by omega)
    have q2 : IntKind.i64.wrap (k : Int) = (k : Int) := wrapi (by omega) (by omega)
    have p1 : (0 : Int) ≤ (k : Int) := by omega
    have p2 : (k : Int) ≤ (k : Int) + (m : Int) := by omega
    have p3 : (k : Int) + (m : Int) ≤ (cap : Int) := by omega
    have p4 : ((k : Int) + (m : Int)).toNat = k + m := by omega
    have p5 : (0 : Int) ≤ (k : Int) + (m : Int) := by omega
    generalize hN : zs.length = N at *
    have HNEED := Go.Lib.hid hneed
    have HZ := Go.Lib.hid hz
    have HSUB := Go.Lib.hid hsub
    have HN := Go.Lib.hid hN
    clear hneed hz hsub hN
    clear hr hres hlk
    go_enter Try.func87, Try.ntmps87
    go_wp2_with fail
    refine HNEED.out.mono ?_; rintro e w1 ⟨rfl, h1, h2, h3⟩
    have c1 : w1.cell? ⟨r, 1, none⟩ = some (.int .i64 k) := row_cell h1 1 _ rfl
    have f1 : w1.frozen? ⟨r, 1, none⟩ = false := row_frozen h1 1
    have hs := h1.set_at ((k : Int) + (m : Int))
    have hkp := h3.setCell h1 (o := 1) (v := .int .i64 ((k : Int) + (m : Int)))
    have hbs := h2.setCell (p := ⟨r, 1, none⟩) hb (.int .i64 ((k : Int) + (m : Int)))
    obtain ⟨W, hW⟩ : ∃ W, w1.setCell ⟨r, 1, none⟩ (.int .i64 ((k : Int) + (m : Int))) = W := ⟨_, rfl⟩
    rw [hW] at hs hkp hbs
    have hzW : Byts W (.slice (some ⟨gb, off, none⟩) N cap) zs := HZ.out.keepsR hkp (fun x hx => by cases hx; exact hgr)
    have hconv : ∀ w3 : Subtype (Below W.heap.size W), (convert 22 9 (.slice (if cap = k then some ⟨gb, off, none⟩ else some ⟨gb, off + k, none⟩) m (cap - k))).run Try.prog w3.1 = .ok (.string (mk ((zs.drop k).take m))) w3.1 :=
      fun w3 => run_conv_string (HSUB.out w3.1 (hzW.below w3.2 (Nat.le_refl _)) _ (fun h => if_neg (by omega)) (fun h => by split at h <;> cases h))
    have R0 := BelowC.cell (W := W) (row_cell hs 0 _ rfl) hs.lt
    have R1 := BelowC.cell (W := W) (row_cell hs 1 _ rfl) hs.lt
    have hne : Nonempty (Subtype (Below W.heap.size W)) := ⟨⟨W, Below.refl _ _⟩⟩
    have HS := Go.Lib.hid hs
    have HKP := Go.Lib.hid hkp
    have HBS := Go.Lib.hid hbs
    clear hs hkp hbs
    clear h1 h2 h3 HNEED hzW
    go_wp2_with fail
    clear hW c1 f1
    refine Go.Mix.wp_region_mixT (Es := []) 16 (Below W.heap.size W) mixed (by kernel_rfl) (Below.refl _ _).drew ?_
    iterate 16 (refine Go.Mix.mixT_step rfl (fun K hK => ?_); have HKK := Go.Lib.hid hK; clear hK; go_simp; refine HKK.out _ _ ?_; clear HKK K)
    refine Go.Mix.mixT_last rfl (fun K hK => ?_)
    have HKK := Go.Lib.hid hK
    clear hK
    go_simp
    refine HKK.out _ _ ?_
    clear HKK K hne R0 R1 hconv
    generalize (if cap = k then (some ⟨gb, off, none⟩ : Option Addr) else some ⟨gb, off + k, none⟩) = sl
    go_wp2_with fail
    go_ret
    exact ⟨rfl, HS.out, HBS.out.drew, HKP.out⟩
end Go.Proofs.Ythfhmbooeemaaaa

/- Message: the reader: a question. -/
namespace Go.Proofs.Ythfhmbooeemaaaa
open Go.RowKit
set_option maxRecDepth 100000
set_option linter.unusedVariables false

theorem heap_set {w : World} {g i : Nat} {cs : Array Value} {T : TypeId} {fr : Nat × Nat} {v : Value} (h : w.heap[g]? = some (.cells cs T fr)) : (w.setCell ⟨g, i, none⟩ v).heap[g]? = some (.cells (cs.setIfInBounds i v) T fr) := by
  rw [setCell_eq_setRow w g i _ _ fr v h]
  exact setRow_heap w g _ _ _ fr h
theorem heap_set_other {w : World} {g i k : Nat} {cs : Array Value} {T : TypeId} {fr : Nat × Nat} {v : Value} (h : w.heap[g]? = some (.cells cs T fr)) (hk : k ≠ g) : (w.setCell ⟨g, i, none⟩ v).heap[k]? = w.heap[k]? := by
  rw [setCell_eq_setRow w g i _ _ fr v h]
  exact setRow_other _ _ _ _ hk
theorem rdTwo_le {zs : List UInt8} {k : Nat} {bad : Bool} (hk : k ≤ zs.length) : (rdTwo zs k bad).2.1 ≤ zs.length := by
  unfold rdTwo
  cases h : lackB zs.length k bad 2 with
  | true => exact hk
  | false => have := (lack_two h).2; exact this
theorem rdName_le {zs : List UInt8} {k : Nat} {bad : Bool} (hk : k ≤ zs.length) : (rdName zs k bad).2.1 ≤ zs.length := by
  unfold rdName
  cases bad with
  | true => exact hk
  | false =>
    by_cases h : (getN zs k).2.2 = 0
    · have := getN_end h
      simp only [h, if_true]
      show (getN zs k).2.1.toNat ≤ _
      omega
    · simp only [h, if_false]
      exact hk
theorem qn_size : (Try.prog.info? 47).map (·.size) = some 3 := by kernel_rfl
theorem ret_qn {fn : Func} {p : Tmp} {a : Act} {W : World} {R : Ending → World → Prop} {x y z : Value} {g : Nat} (hr : fn.results = #[.cell p 47]) (hp : a.tmps.getD p undef = .pointer (some ⟨g, 0, none⟩)) (hd : a.defers = [])
    (hg : W.heap[g]? = some (.cells #[x, y, z] 47 (0, 0))) (h : R (.returned (.agg #[x, y, z])) W) : bodyPost Try.prog fn R Exit.ret a W := by
  obtain ⟨fs, hu⟩ : ∃ fs, Try.prog.underlying 47 = some (.struct fs) := ⟨_, Try.underlying47⟩
  exact bodyPost_ret (results_cell_row hr _ _ g _ _ (0, 0) _ hp hg hu rfl qn_size) hd h
/-- a question: what is told, where it is then, and whether something was wrong -/
def rdQ (zs : List UInt8) (k : Nat) (bad : Bool) : (List UInt8 × Int × Int) × Nat × Bool :=
  let a := rdName zs k bad
  let b := rdTwo zs a.2.1 a.2.2
  let c := rdTwo zs b.2.1 b.2.2
  ((a.1, b.1, c.1), c.2.1, c.2.2)
set_option maxHeartbeats 2000000 in
theorem question_any (r : Nat) (sa : Option Addr) (cap : Nat) (zs : List UInt8) (k : Nat) (bad : Bool) (base : Nat) (w : World) (hr : Rd r (.slice sa zs.length cap) k bad w) (hz : Byts w (.slice sa zs.length cap) zs) (hsa : ∀ x, sa = some x → x.block ≠ r)
    (hk : k ≤ zs.length) (hl : zs.length ≤ 1099511627776) (hb : base ≤ r) (hbw : base ≤ w.heap.size) :
    Calls Try.prog 61 #[.pointer (some ⟨r, 0, none⟩)] w fun e w' =>
      e = .returned (.agg #[.string (mk (rdQ zs k bad).1.1), .int .i64 (rdQ zs k bad).1.2.1, .int .i64 (rdQ zs k bad).1.2.2]) ∧ Rd r (.slice sa zs.length cap) (rdQ zs k bad).2.1 (rdQ zs k bad).2.2 w' ∧ Below base w w' ∧ KeepsR r w w' := by
  have hlt := hr.lt
  obtain ⟨X, hX⟩ : ∃ X, w.alloc (.cells #[.string ⟨#[]⟩, .int .i64 0, .int .i64 0] 47) = X := ⟨_, rfl⟩
  have hwX : Below w.heap.size w X := by rw [← hX]; exact (Below.refl _ _).alloc (Nat.le_refl _) _
  have hXh : X.heap[w.heap.size]? = some (.cells #[.string ⟨#[]⟩, .int .i64 0, .int .i64 0] 47 (0, 0)) := by rw [← hX]; exact heap_alloc_new _ _
  have hrX := hr.below hwX
  have hzX := hz.below hwX (Nat.le_refl _)
  have hkX : KeepsR r w X := KeepsR.below hwX
  have hbX : Below base w X := hwX.mono hbw
  have hne : w.heap.size ≠ r := by omega
  have hn1 := name_any r sa cap zs k bad base X hrX hzX hk hl hb (Nat.le_trans hbw hbX.size)
  have hle1 := rdName_le (bad := bad) hk
  have hq : rdQ zs k bad = (((rdName zs k bad).1, (rdTwo zs (rdName zs k bad).2.1 (rdName zs k bad).2.2).1, (rdTwo zs (rdTwo zs (rdName zs k bad).2.1 (rdName zs k bad).2.2).2.1 (rdTwo zs (rdName zs k bad).2.1 (rdName zs k bad).2.2).2.2).1), (rdTwo zs (rdTwo zs (rdName zs k bad).2.1 (rdName zs k bad).2.2).2.1 (rdTwo zs (rdName zs k bad).2.1 (rdName zs k bad).2.2).2.2).2.1, (rdTwo zs (rdTwo zs (rdName zs k bad).2.1 (rdName zs k bad).2.2).2.1 (rdTwo zs (rdName zs k bad).2.1 (rdName zs k bad).2.2).2.2).2.2) := rfl
  rw [hq]
  clear hq
  generalize rdName zs k bad = A at *
  obtain ⟨an, ak, ab⟩ := A
  simp only at hle1
  have hle2 := rdTwo_le (bad := ab) hle1
  have ht1 := fun W h1 h2 h3 => two_any r sa cap zs ak ab base W h1 h2 hsa hle1 hl hb h3
  generalize rdTwo zs ak ab = B at *
  obtain ⟨bt, bk, bb⟩ := B
  simp only at hle2
  have ht2 := fun W h1 h2 h3 => two_any r sa cap zs bk bb base W h1 h2 hsa hle2 hl hb h3
  generalize rdTwo zs bk bb = C at *
  obtain ⟨ct, ck, cb⟩ := C
  generalize zs.length = N at *
  have HN1 := Go.Lib.hid hn1
  have HT1 := Go.Lib.hid ht1
  have HT2 := Go.Lib.hid ht2
  have HXH := Go.Lib.hid hXh
  have HZ := Go.Lib.hid hz
  have HKX := Go.Lib.hid hkX
  have HBX := Go.Lib.hid hbX
  clear hn1 ht1 ht2 hXh hz hkX hbX
  clear hr hzX hrX hwX
  go_enter Try.func61, Try.ntmps61
  go_wp2_with fail
  clear hX
  refine HN1.out.mono ?_; rintro e w1 ⟨rfl, h1, h2, h3⟩
  have g1 := h3.row HXH.out hne
  have k1 := HKX.out.trans h3
  have b1 := HBX.out.trans h2
  obtain ⟨W1, hW1⟩ : ∃ W, w1.setCell ⟨w.heap.size, 0, none⟩ (.string (mk an)) = W := ⟨_, rfl⟩
  have a0 : w1.cell? ⟨w.heap.size, 0, none⟩ = some (.string ⟨#[]⟩) := row_cell g1 0 _ rfl
  have f0 : w1.frozen? ⟨w.heap.size, 0, none⟩ = false := row_frozen g1 0
  have r1 : Rd r (.slice sa N cap) ak ab W1 := by rw [← hW1]; exact (heap_set_other g1 (Ne.symm hne)).trans h1
  have g2 : W1.heap[w.heap.size]? = some (.cells #[.string (mk an), .int .i64 0, .int .i64 0] 47 (0, 0)) := by rw [← hW1]; exact heap_set g1
  have bb1 : Below base w W1 := by rw [← hW1]; exact b1.setCell (p := ⟨w.heap.size, 0, none⟩) hbw _
  have kk1 : KeepsR r w W1 := by
    refine ⟨by rw [← hW1]; simpa using k1.1, fun j hj hjr => ?_⟩
    rw [← hW1, heap_set_other g1 (by omega)]; exact k1.2 j hj hjr
  have hz1 := HZ.out.keepsR kk1 hsa
  have hc1 := HT1.out W1 r1 hz1 (Nat.le_trans hbw bb1.size)
  have G2 := Go.Lib.hid g2
  have BB1 := Go.Lib.hid bb1
  have KK1 := Go.Lib.hid kk1
  have HC1 := Go.Lib.hid hc1
  clear g2 bb1 kk1 hc1
  clear h1 h2 h3 g1 k1 b1 r1 hz1 HN1 HT1 HXH
  go_wp2_with fail
  clear hW1 a0 f0
  refine HC1.out.mono ?_; rintro e w2 ⟨rfl, h4, h5, h6⟩
  have kk2 := KK1.out.trans h6
  have bb2 := BB1.out.trans h5
  have g3 := h6.row G2.out hne
  have hc2 := HT2.out w2 h4 (HZ.out.keepsR kk2 hsa) (Nat.le_trans hbw bb2.size)
  have G3 := Go.Lib.hid g3
  have BB2 := Go.Lib.hid bb2
  have KK2 := Go.Lib.hid kk2
  have HC2 := Go.Lib.hid hc2
  clear g3 bb2 kk2 hc2
  clear h4 h5 h6 HC1 HT2
  go_wp2_with fail
  refine HC2.out.mono ?_; rintro e w3 ⟨rfl, h7, h8, h9⟩
  have g4 := h9.row G3.out hne
  have k3 := KK2.out.trans h9
  have b3 := BB2.out.trans h8
  have a1 : w3.cell? ⟨w.heap.size, 1, none⟩ = some (.int .i64 0) := row_cell g4 1 _ rfl
  have a2 : w3.cell? ⟨w.heap.size, 2, none⟩ = some (.int .i64 0) := row_cell g4 2 _ rfl
  have f1 : w3.frozen? ⟨w.heap.size, 1, none⟩ = false := row_frozen g4 1
  have f2 : w3.frozen? ⟨w.heap.size, 2, none⟩ = false := row_frozen g4 2
  have g5 := heap_set (i := 1) (v := .int .i64 bt) g4
  have g6 := heap_set (i := 2) (v := .int .i64 ct) g5
  obtain ⟨W4, hW4⟩ : ∃ W, (w3.setCell ⟨w.heap.size, 1, none⟩ (.int .i64 bt)).setCell ⟨w.heap.size, 2, none⟩ (.int .i64 ct) = W := ⟨_, rfl⟩
  have r4 : Rd r (.slice sa N cap) ck cb W4 := by rw [← hW4]; exact (heap_set_other g5 (Ne.symm hne)).trans ((heap_set_other g4 (Ne.symm hne)).trans h7)
  have bb4 : Below base w W4 := by rw [← hW4]; exact (b3.setCell (p := ⟨w.heap.size, 1, none⟩) hbw _).setCell (p := ⟨w.heap.size, 2, none⟩) hbw _
  have kk4 : KeepsR r w W4 := by
    refine ⟨by rw [← hW4]; simpa using k3.1, fun j hj hjr => ?_⟩
    rw [← hW4, heap_set_other g5 (by omega), heap_set_other g4 (by omega)]; exact k3.2 j hj hjr
  rw [hW4] at g6
  have g7 : W4.heap[w.heap.size]? = some (.cells #[.string (mk an), .int .i64 bt, .int .i64 ct] 47 (0, 0)) := g6
  have e0 : W4.cell? ⟨w.heap.size, 0, none⟩ = some (.string (mk an)) := row_cell g7 0 _ rfl
  have e1 : W4.cell? ⟨w.heap.size, 1, none⟩ = some (.int .i64 bt) := row_cell g7 1 _ rfl
  have e2 : W4.cell? ⟨w.heap.size, 2, none⟩ = some (.int .i64 ct) := row_cell g7 2 _ rfl
  have d0 : W4.frozen? ⟨w.heap.size, 0, none⟩ = false := row_frozen g7 0
  have d1 : W4.frozen? ⟨w.heap.size, 1, none⟩ = false := row_frozen g7 1
  have d2 : W4.frozen? ⟨w.heap.size, 2, none⟩ = false := row_frozen g7 2
  have G7 := Go.Lib.hid g7
  have R4 := Go.Lib.hid r4
  have BB4 := Go.Lib.hid bb4
  have KK4 := Go.Lib.hid kk4
  clear g7 r4 bb4 kk4
  clear h7 h8 h9 g4 g5 g6 k3 b3 HC2 G2 G3
  go_wp2_with fail
  clear hW4
  have w0 := heap_set (i := 0) (v := .string (mk an)) G7.out
  have v1 := heap_set (i := 1) (v := .int .i64 bt) w0
  have v2 := heap_set (i := 2) (v := .int .i64 ct) v1
  refine ret_qn rfl rfl rfl v2 ⟨rfl, ?_, ?_, ?_⟩
  · exact (heap_set_other v1 (Ne.symm hne)).trans ((heap_set_other w0 (Ne.symm hne)).trans ((heap_set_other G7.out (Ne.symm hne)).trans R4.out))
  · exact ((BB4.out.setCell (p := ⟨w.heap.size, 0, none⟩) hbw _).setCell (p := ⟨w.heap.size, 1, none⟩) hbw _).setCell (p := ⟨w.heap.size, 2, none⟩) hbw _
  · refine ⟨by simpa using KK4.out.1, fun j hj hjr => ?_⟩
    rw [heap_set_other v1 (by omega), heap_set_other w0 (by omega), heap_set_other G7.out (by omega)]; exact KK4.out.2 j hj hjr
end Go.Proofs.Ythfhmbooeemaaaa

/- Message: flag, within. -/
namespace Go.Proofs.Ythfhmbooeemaaaa
open Go.RowKit
set_option maxRecDepth 100000
set_option linter.unusedVariables false

def flagN (b : Bool) (p : Nat) : Int := if b then 2 ^ p else 0
theorem flag_any (b : Bool) (p : Nat) (hp : p ≤ 15) (w : World) : Calls Try.prog 36 #[.bool b, .int .i64 p] w fun e w' => e = .returned (.int .i64 (flagN b p)) ∧ w' = w := by
  have q1 : IntKind.i64.wrap (1 * 2 ^ p) = 2 ^ p := by
    have : ∀ q : Fin 16, IntKind.i64.wrap (1 * 2 ^ q.val) = 2 ^ q.val := by decide +kernel
    exact this ⟨p, by omega⟩
  have q2 : IntKind.i64.wrap (2 ^ p) = 2 ^ p := by
    have : ∀ q : Fin 16, IntKind.i64.wrap (2 ^ q.val) = 2 ^ q.val := by decide +kernel
    exact this ⟨p, by omega⟩
  have p1 : (0 : Int) ≤ (p : Int) := by omega
  have p2 : (p : Int) ≤ 64 := by omega
  cases b with
  | true =>
    go_enter Try.func36, Try.ntmps36
    go_wp2_with fail
    go_ret
    exact ⟨rfl, rfl⟩
  | false =>
    go_enter Try.func36, Try.ntmps36
    go_wp2_with fail
    go_ret
    exact ⟨rfl, rfl⟩
def withinN (n most : Int) : Bool := decide (0 ≤ n) && decide (n ≤ most)
theorem mwithin_any (n most : Int) (w : World) : Calls Try.prog 43 #[.int .i64 n, .int .i64 most] w fun e w' => e = .returned (.bool (withinN n most)) ∧ w' = w := by
  by_cases h : 0 ≤ n
  · have hr : withinN n most = decide (n ≤ most) := by unfold withinN; rw [decide_eq_true h]; rfl
    rw [hr]
    clear hr
    go_enter Try.func43, Try.ntmps43
    go_wp2_with fail
    go_ret
    exact ⟨rfl, rfl⟩
  · have hr : withinN n most = false := by unfold withinN; rw [decide_eq_false h]; rfl
    rw [hr]
    clear hr
    go_enter Try.func43, Try.ntmps43
    go_wp2_with fail
    go_ret
    exact ⟨rfl, rfl⟩
end Go.Proofs.Ythfhmbooeemaaaa

/- Message: the reader: data. -/
namespace Go.Proofs.Ythfhmbooeemaaaa
open Go.RowKit
set_option maxRecDepth 100000
set_option linter.unusedVariables false

/-- where a reader lies, and what it reads -/
structure RCtx (r gb off cap : Nat) (zs : List UInt8) (base : Nat) (w0 : World) : Prop where
  hz : Byts w0 (.slice (some ⟨gb, off, none⟩) zs.length cap) zs
  hgr : gb ≠ r
  hl : zs.length ≤ 1099511627776
  hb : base ≤ r
  hbw : base ≤ w0.heap.size
/-- a reader in a world behind w0 -/
def RS (r gb off cap : Nat) (zs : List UInt8) (base : Nat) (w0 : World) (k : Nat) (bad : Bool) (w : World) : Prop := Rd r (.slice (some ⟨gb, off, none⟩) zs.length cap) k bad w ∧ Below base w0 w ∧ KeepsR r w0 w
theorem RS.byts {r gb off cap : Nat} {zs : List UInt8} {base : Nat} {w0 w : World} {k : Nat} {bad : Bool} (h : RS r gb off cap zs base w0 k bad w) (c : RCtx r gb off cap zs base w0) : Byts w (.slice (some ⟨gb, off, none⟩) zs.length cap) zs :=
  c.hz.keepsR h.2.2 (fun x hx => by cases hx; exact c.hgr)
theorem RS.size {r gb off cap : Nat} {zs : List UInt8} {base : Nat} {w0 w : World} {k : Nat} {bad : Bool} (h : RS r gb off cap zs base w0 k bad w) (c : RCtx r gb off cap zs base w0) : base ≤ w.heap.size := Nat.le_trans c.hbw h.2.1.size
theorem RS.below {r gb off cap : Nat} {zs : List UInt8} {base : Nat} {w0 w w' : World} {k : Nat} {bad : Bool} (h : RS r gb off cap zs base w0 k bad w) (c : RCtx r gb off cap zs base w0) (hb : Below w.heap.size w w') : RS r gb off cap zs base w0 k bad w' :=
  ⟨h.1.below hb, h.2.1.trans (hb.mono (h.size c)), h.2.2.trans (KeepsR.below hb)⟩
theorem RS.set_bad {r gb off cap : Nat} {zs : List UInt8} {base : Nat} {w0 w : World} {k : Nat} {bad : Bool} (h : RS r gb off cap zs base w0 k bad w) (c : RCtx r gb off cap zs base w0) (x : Bool) : RS r gb off cap zs base w0 k x (w.setCell ⟨r, 2, none⟩ (.bool x)) :=
  ⟨h.1.set_bad x, h.2.1.setCell (p := ⟨r, 2, none⟩) c.hb _, h.2.2.setCell h.1⟩
theorem RS.set_at {r gb off cap : Nat} {zs : List UInt8} {base : Nat} {w0 w : World} {k : Nat} {bad : Bool} (h : RS r gb off cap zs base w0 k bad w) (c : RCtx r gb off cap zs base w0) (x : Nat) : RS r gb off cap zs base w0 x bad (w.setCell ⟨r, 1, none⟩ (.int .i64 x)) :=
  ⟨h.1.set_at x, h.2.1.setCell (p := ⟨r, 1, none⟩) c.hb _, h.2.2.setCell h.1⟩
theorem RS.start {r gb off cap : Nat} {zs : List UInt8} {base : Nat} {w : World} {k : Nat} {bad : Bool} (h : Rd r (.slice (some ⟨gb, off, none⟩) zs.length cap) k bad w) (c : RCtx r gb off cap zs base w) : RS r gb off cap zs base w k bad w := ⟨h, (Below.refl _ w).mono c.hbw, KeepsR.refl _ _⟩
theorem RS.join {r gb off cap : Nat} {zs : List UInt8} {base : Nat} {w0 w w' : World} {k k' : Nat} {bad bad' : Bool} (h : RS r gb off cap zs base w0 k bad w) (c : RCtx r gb off cap zs base w0) (h1 : Rd r (.slice (some ⟨gb, off, none⟩) zs.length cap) k' bad' w') (h2 : Below base w w') (h3 : KeepsR r w w') : RS r gb off cap zs base w0 k' bad' w' :=
  ⟨h1, h.2.1.trans h2, h.2.2.trans h3⟩

section
variable {r gb off cap : Nat} {zs : List UInt8} {base : Nat} {w0 : World}
theorem need_rs (c : RCtx r gb off cap zs base w0) {k : Nat} {bad : Bool} {w : World} (h : RS r gb off cap zs base w0 k bad w) (hk : k ≤ zs.length) (n : Int) :
    Calls Try.prog 75 #[.pointer (some ⟨r, 0, none⟩), .int .i64 n] w fun e w' => e = .returned (.bool (!lackB zs.length k bad n)) ∧ RS r gb off cap zs base w0 k (lackB zs.length k bad n) w' := by
  refine (need_any r _ zs.length cap k bad n base w h.1 hk c.hl c.hb (h.size c)).mono ?_
  rintro e w' ⟨rfl, h1, h2, h3⟩
  exact ⟨rfl, h.join c h1 h2 h3⟩
theorem two_rs (c : RCtx r gb off cap zs base w0) {k : Nat} {bad : Bool} {w : World} (h : RS r gb off cap zs base w0 k bad w) (hk : k ≤ zs.length) :
    Calls Try.prog 60 #[.pointer (some ⟨r, 0, none⟩)] w fun e w' => e = .returned (.int .i64 (rdTwo zs k bad).1) ∧ RS r gb off cap zs base w0 (rdTwo zs k bad).2.1 (rdTwo zs k bad).2.2 w' := by
  refine (two_any r _ cap zs k bad base w h.1 (h.byts c) (fun x hx => by cases hx; exact c.hgr) hk c.hl c.hb (h.size c)).mono ?_
  rintro e w' ⟨rfl, h1, h2, h3⟩
  exact ⟨rfl, h.join c h1 h2 h3⟩
theorem name_rs (c : RCtx r gb off cap zs base w0) {k : Nat} {bad : Bool} {w : World} (h : RS r gb off cap zs base w0 k bad w) (hk : k ≤ zs.length) :
    Calls Try.prog 76 #[.pointer (some ⟨r, 0, none⟩)] w fun e w' => e = .returned (.string (mk (rdName zs k bad).1)) ∧ RS r gb off cap zs base w0 (rdName zs k bad).2.1 (rdName zs k bad).2.2 w' := by
  refine (name_any r _ cap zs k bad base w h.1 (h.byts c) hk c.hl c.hb (h.size c)).mono ?_
  rintro e w' ⟨rfl, h1, h2, h3⟩
  exact ⟨rfl, h.join c h1 h2 h3⟩
theorem bytes_rs (c : RCtx r gb off cap zs base w0) {k : Nat} {bad : Bool} {w : World} (h : RS r gb off cap zs base w0 k bad w) (hk : k ≤ zs.length) (n : Int) :
    Calls Try.prog 87 #[.pointer (some ⟨r, 0, none⟩), .int .i64 n] w fun e w' => e = .returned (.string (mk (rdBytes zs k bad n).1)) ∧ RS r gb off cap zs base w0 (rdBytes zs k bad n).2.1 (rdBytes zs k bad n).2.2 w' := by
  refine (bytes_any r gb off cap zs k bad n base w h.1 (h.byts c) c.hgr hk c.hl c.hb (h.size c)).mono ?_
  rintro e w' ⟨rfl, h1, h2, h3⟩
  exact ⟨rfl, h.join c h1 h2 h3⟩
theorem question_rs (c : RCtx r gb off cap zs base w0) {k : Nat} {bad : Bool} {w : World} (h : RS r gb off cap zs base w0 k bad w) (hk : k ≤ zs.length) :
    Calls Try.prog 61 #[.pointer (some ⟨r, 0, none⟩)] w fun e w' => e = .returned (.agg #[.string (mk (rdQ zs k bad).1.1), .int .i64 (rdQ zs k bad).1.2.1, .int .i64 (rdQ zs k bad).1.2.2]) ∧ RS r gb off cap zs base w0 (rdQ zs k bad).2.1 (rdQ zs k bad).2.2 w' := by
  refine (question_any r _ cap zs k bad base w h.1 (h.byts c) (fun x hx => by cases hx; exact c.hgr) hk c.hl c.hb (h.size c)).mono ?_
  rintro e w' ⟨rfl, h1, h2, h3⟩
  exact ⟨rfl, h.join c h1 h2 h3⟩
end

theorem getF_len (zs : List UInt8) : ∀ (f k bg : Nat) (e : Int) (out n : List UInt8) (e2 : Int), getF zs f k bg e out = some (n, e2) → n.length ≤ 255
  | 0, _, _, _, _, _, _, h => by simp [getF] at h
  | f + 1, k, bg, e, out, n, e2, h => by
    rw [getF] at h
    split at h
    · split at h
      · split at h
        · cases h
        · simp only [Option.some.injEq, Prod.mk.injEq] at h
          obtain ⟨rfl, _⟩ := h
          simp
          omega
      · split at h
        · split at h
          · cases h
          · exact getF_len zs f _ _ _ _ _ _ h
        · split at h
          · cases h
          · split at h
            · cases h
            · exact getF_len zs f _ _ _ _ _ _ h
    · cases h
theorem rdName_len (zs : List UInt8) (k : Nat) (bad : Bool) : (rdName zs k bad).1.length ≤ 255 := by
  unfold rdName
  cases bad with
  | true => simp
  | false =>
    by_cases h : (getN zs k).2.2 = 0
    · simp only [h, if_true]
      show (getN zs k).1.length ≤ 255
      unfold getN at *
      cases hg : getF zs (k * (zs.length + 1) + (zs.length - k) + 1) k k (-1) [] with
      | none => simp [getR]
      | some p => exact getF_len zs _ _ _ _ _ _ _ hg
    · simp [h]
theorem rdBytes_len (zs : List UInt8) (k : Nat) (bad : Bool) (n : Int) : (rdBytes zs k bad n).1.length ≤ zs.length := by
  unfold rdBytes
  split
  · simp
  · simp; omega
/-- so many names, put behind what is there -/
def rdNames (zs : List UInt8) : Nat → List UInt8 → Nat → Bool → List UInt8 × Nat × Bool
  | 0, out, k, bad => (out, k, bad)
  | i + 1, out, k, bad => rdNames zs i (out ++ (rdName zs k bad).1) (rdName zs k bad).2.1 (rdName zs k bad).2.2
theorem rdNames_le (zs : List UInt8) : ∀ (i : Nat) (out : List UInt8) (k : Nat) (bad : Bool), k ≤ zs.length → (rdNames zs i out k bad).2.1 ≤ zs.length
  | 0, _, _, _, h => h
  | i + 1, out, k, bad, h => rdNames_le zs i _ _ _ (rdName_le h)
theorem rdNames_len (zs : List UInt8) : ∀ (i : Nat) (out : List UInt8) (k : Nat) (bad : Bool), (rdNames zs i out k bad).1.length ≤ out.length + 255 * i
  | 0, _, _, _ => by simp [rdNames]
  | i + 1, out, k, bad => by
    have h := rdNames_len zs i (out ++ (rdName zs k bad).1) (rdName zs k bad).2.1 (rdName zs k bad).2.2
    have h2 := rdName_len zs k bad
    rw [List.length_append] at h
    rw [rdNames]
    omega
theorem rdBytes_le {zs : List UInt8} {k : Nat} {bad : Bool} {n : Int} (hk : k ≤ zs.length) : (rdBytes zs k bad n).2.1 ≤ zs.length := by
  unfold rdBytes
  cases h : lackB zs.length k bad n with
  | true => exact hk
  | false =>
    obtain ⟨_, h1, h2⟩ := lack_n h
    show k + n.toNat ≤ _
    omega
/-- bytes, names, bytes -/
def rdParts (zs : List UInt8) (a m b : Nat) (k : Nat) : List UInt8 × Nat × Bool :=
  ((rdNames zs m (rdBytes zs k false a).1 (rdBytes zs k false a).2.1 (rdBytes zs k false a).2.2).1 ++ (rdBytes zs (rdNames zs m (rdBytes zs k false a).1 (rdBytes zs k false a).2.1 (rdBytes zs k false a).2.2).2.1 (rdNames zs m (rdBytes zs k false a).1 (rdBytes zs k false a).2.1 (rdBytes zs k false a).2.2).2.2 b).1,
   (rdBytes zs (rdNames zs m (rdBytes zs k false a).1 (rdBytes zs k false a).2.1 (rdBytes zs k false a).2.2).2.1 (rdNames zs m (rdBytes zs k false a).1 (rdBytes zs k false a).2.1 (rdBytes zs k false a).2.2).2.2 b).2.1,
   (rdBytes zs (rdNames zs m (rdBytes zs k false a).1 (rdBytes zs k false a).2.1 (rdBytes zs k false a).2.2).2.1 (rdNames zs m (rdBytes zs k false a).1 (rdBytes zs k false a).2.1 (rdBytes zs k false a).2.2).2.2 b).2.2)
def rdDataIn (zs : List UInt8) (t : Int) (n k : Nat) : List UInt8 × Nat × Bool := match Rc.shape t with
  | none => rdBytes zs k false n
  | some (a, m, b) => rdParts zs a m b k
/-- a record's data of so many bytes -/
def rdData (zs : List UInt8) (t : Int) (n k : Nat) (bad : Bool) : List UInt8 × Nat × Bool := if lackB zs.length k bad n then ([], k, true) else
  ((rdDataIn zs t n k).1, (rdDataIn zs t n k).2.1, (rdDataIn zs t n k).2.2 || !decide ((rdDataIn zs t n k).2.1 = k + n))
theorem rdDataIn_le {zs : List UInt8} {t : Int} {n k : Nat} (hk : k ≤ zs.length) : (rdDataIn zs t n k).2.1 ≤ zs.length := by
  unfold rdDataIn
  split
  · exact rdBytes_le hk
  · exact rdBytes_le (rdNames_le _ _ _ _ _ (rdBytes_le hk))
theorem rdData_le {zs : List UInt8} {t : Int} {n k : Nat} {bad : Bool} (hk : k ≤ zs.length) : (rdData zs t n k bad).2.1 ≤ zs.length := by
  unfold rdData
  split
  · exact hk
  · exact rdDataIn_le hk
theorem cat_mkd (a b : List UInt8) : mk a ++ mk b = mk (a ++ b) := by apply bl_inj; rw [bl_append, bl_mk, bl_mk, bl_mk]
set_option maxHeartbeats 4000000 in
theorem data_lack {r gb off cap : Nat} {zs : List UInt8} {base : Nat} {w0 : World} (c : RCtx r gb off cap zs base w0) {k : Nat} {bad : Bool} {w : World} (h : RS r gb off cap zs base w0 k bad w) (hk : k ≤ zs.length) (t : Int) (n : Nat)
    (hlk : lackB zs.length k bad n = true) :
    Calls Try.prog 85 #[.pointer (some ⟨r, 0, none⟩), .int .i64 t, .int .i64 n] w fun e w' => e = .returned (.string (mk (rdData zs t n k bad).1)) ∧ RS r gb off cap zs base w0 (rdData zs t n k bad).2.1 (rdData zs t n k bad).2.2 w' := by
  have hneed := need_rs c h hk n
  have hres : rdData zs t n k bad = ([], k, true) := by unfold rdData; rw [hlk]; rfl
  rw [hlk] at hneed
  rw [hres]
  have HNEED := Go.Lib.hid hneed
  have C := Go.Lib.hid c
  clear hneed c
  clear h hres hlk
  go_enter Try.func85, Try.ntmps85
  go_wp2_with fail
  refine HNEED.out.mono ?_; rintro e w1 ⟨rfl, h1⟩
  have H1 := Go.Lib.hid h1
  clear h1
  go_wp2_with fail
  go_ret
  exact ⟨rfl, H1.out⟩
set_option maxHeartbeats 4000000 in
theorem data_plain {r gb off cap : Nat} {zs : List UInt8} {base : Nat} {w0 : World} (c : RCtx r gb off cap zs base w0) {k : Nat} {bad : Bool} {w : World} (h : RS r gb off cap zs base w0 k bad w) (hk : k ≤ zs.length) (t : Int) (n : Nat)
    (hlk : lackB zs.length k bad n = false) (hsh : Rc.shape t = none) :
    Calls Try.prog 85 #[.pointer (some ⟨r, 0, none⟩), .int .i64 t, .int .i64 n] w fun e w' => e = .returned (.string (mk (rdData zs t n k bad).1)) ∧ RS r gb off cap zs base w0 (rdData zs t n k bad).2.1 (rdData zs t n k bad).2.2 w' := by
  have hneed := need_rs c h hk n
  have hhk := (lack_n hlk).2.2
  have hD : rdDataIn zs t n k = rdBytes zs k false n := by unfold rdDataIn; rw [hsh]
  have hres : rdData zs t n k bad = ((rdDataIn zs t n k).1, (rdDataIn zs t n k).2.1, (rdDataIn zs t n k).2.2 || !decide ((rdDataIn zs t n k).2.1 = k + n)) := by unfold rdData; rw [hlk]; rfl
  rw [hlk] at hneed
  rw [hres, hD]
  have hS := Shape_any t
  unfold shapeV at hS
  rw [hsh] at hS
  have hl := c.hl
  have hby := fun (w1 : World) (h1 : RS r gb off cap zs base w0 k false w1) => bytes_rs c h1 hk n
  have hle := rdBytes_le (zs := zs) (bad := false) (n := (n : Int)) hk
  generalize rdBytes zs k false n = D at *
  obtain ⟨out, k', bad'⟩ := D
  simp only at hby hle ⊢
  have q1 : IntKind.i64.wrap ((k : Int) + (n : Int)) = (k : Int) + n := wrapi (by omega) (by omega)
  have HNEED := Go.Lib.hid hneed
  have C := Go.Lib.hid c
  have HS := Go.Lib.hid hS
  have HBY := Go.Lib.hid hby
  clear hneed c hS hby
  clear h hres hlk hD hsh hle
  go_enter Try.func85, Try.ntmps85
  go_wp2_with fail
  refine HNEED.out.mono ?_; rintro e w1 ⟨rfl, h1⟩
  have c1 : w1.cell? ⟨r, 1, none⟩ = some (.int .i64 k) := row_cell h1.1 1 _ rfl
  have H1 := Go.Lib.hid h1
  clear h1
  go_wp2_with fail
  refine (HS.out w1).mono ?_; rintro e _ ⟨rfl, rfl⟩
  go_wp2_with fail
  clear c1
  refine (HBY.out w1 H1.out).mono ?_; rintro e w2 ⟨rfl, h2⟩
  have d1 : w2.cell? ⟨r, 1, none⟩ = some (.int .i64 k') := row_cell h2.1 1 _ rfl
  have d2 : w2.cell? ⟨r, 2, none⟩ = some (.bool bad') := row_cell h2.1 2 _ rfl
  have f2 : w2.frozen? ⟨r, 2, none⟩ = false := row_frozen h2.1 2
  have H2 := Go.Lib.hid h2
  clear h2
  cases bad' with
  | true =>
    have h3 := H2.out.set_bad C.out true
    have H3 := Go.Lib.hid h3
    clear h3
    go_wp2_with fail
    go_ret
    exact ⟨rfl, H3.out⟩
  | false =>
    by_cases he : k' = k + n
    · have hne : ((k' : Int) != (k : Int) + n) = false := by simp; omega
      have h4 : RS r gb off cap zs base w0 k' (false || !decide (k' = k + n)) (w2.setCell ⟨r, 2, none⟩ (.bool false)) := by rw [decide_eq_true he]; exact H2.out.set_bad C.out false
      have H4 := Go.Lib.hid h4
      clear h4
      clear he
      go_wp2_with fail
      go_ret
      exact ⟨rfl, H4.out⟩
    · have hne : ((k' : Int) != (k : Int) + n) = true := by simp; omega
      have h4 : RS r gb off cap zs base w0 k' (false || !decide (k' = k + n)) (w2.setCell ⟨r, 2, none⟩ (.bool true)) := by rw [decide_eq_false he]; exact H2.out.set_bad C.out true
      have H4 := Go.Lib.hid h4
      clear h4
      clear he
      go_wp2_with fail
      go_ret
      exact ⟨rfl, H4.out⟩
set_option maxHeartbeats 4000000 in
theorem data_parts {r gb off cap : Nat} {zs : List UInt8} {base : Nat} {w0 : World} (c : RCtx r gb off cap zs base w0) {k : Nat} {bad : Bool} {w : World} (h : RS r gb off cap zs base w0 k bad w) (hk : k ≤ zs.length) (t : Int) (n a m b : Nat)
    (hlk : lackB zs.length k bad n = false) (hsh : Rc.shape t = some (a, m, b)) (hm : m ≤ 2) :
    Calls Try.prog 85 #[.pointer (some ⟨r, 0, none⟩), .int .i64 t, .int .i64 n] w fun e w' => e = .returned (.string (mk (rdData zs t n k bad).1)) ∧ RS r gb off cap zs base w0 (rdData zs t n k bad).2.1 (rdData zs t n k bad).2.2 w' := by
  have hneed := need_rs c h hk n
  have hhk := (lack_n hlk).2.2
  have hD : rdDataIn zs t n k = rdParts zs a m b k := by unfold rdDataIn; rw [hsh]
  have hres : rdData zs t n k bad = ((rdDataIn zs t n k).1, (rdDataIn zs t n k).2.1, (rdDataIn zs t n k).2.2 || !decide ((rdDataIn zs t n k).2.1 = k + n)) := by unfold rdData; rw [hlk]; rfl
  rw [hlk] at hneed
  rw [hres, hD]
  have hS := Shape_any t
  unfold shapeV at hS
  rw [hsh] at hS
  have hl := c.hl
  have hby := fun (w1 : World) (h1 : RS r gb off cap zs base w0 k false w1) => bytes_rs c h1 hk a
  have hle := rdBytes_le (zs := zs) (bad := false) (n := (a : Int)) hk
  have hln := rdBytes_len zs k false a
  have hP : rdParts zs a m b k = ((rdNames zs m (rdBytes zs k false a).1 (rdBytes zs k false a).2.1 (rdBytes zs k false a).2.2).1 ++ (rdBytes zs (rdNames zs m (rdBytes zs k false a).1 (rdBytes zs k false a).2.1 (rdBytes zs k false a).2.2).2.1 (rdNames zs m (rdBytes zs k false a).1 (rdBytes zs k false a).2.1 (rdBytes zs k false a).2.2).2.2 b).1,
   (rdBytes zs (rdNames zs m (rdBytes zs k false a).1 (rdBytes zs k false a).2.1 (rdBytes zs k false a).2.2).2.1 (rdNames zs m (rdBytes zs k false a).1 (rdBytes zs k false a).2.1 (rdBytes zs k false a).2.2).2.2 b).2.1,
   (rdBytes zs (rdNames zs m (rdBytes zs k false a).1 (rdBytes zs k false a).2.1 (rdBytes zs k false a).2.2).2.1 (rdNames zs m (rdBytes zs k false a).1 (rdBytes zs k false a).2.1 (rdBytes zs k false a).2.2).2.2 b).2.2) := rfl
  rw [hP]
  generalize rdBytes zs k false a = X at *
  obtain ⟨xo, xk, xb⟩ := X
  simp only at hby hle hln ⊢
  have hle2 := rdNames_le zs m xo xk xb hle
  have hln2 := rdNames_len zs m xo xk xb
  obtain ⟨Y, hY⟩ : ∃ Y, Y = rdNames zs m xo xk xb := ⟨_, rfl⟩
  rw [← hY] at hle2 hln2 ⊢
  obtain ⟨yo, yk, yb⟩ := Y
  simp only at hle2 hln2 ⊢
  have hln3 := rdBytes_len zs yk yb b
  have hbz := fun (w1 : World) (h1 : RS r gb off cap zs base w0 yk yb w1) => bytes_rs c h1 hle2 b
  have hle3 := rdBytes_le (bad := yb) (n := (b : Int)) hle2
  generalize rdBytes zs yk yb b = Z at *
  obtain ⟨zo, k', bad'⟩ := Z
  simp only at hbz hle3 hln3 ⊢
  have sz1 := size_mk yo
  have sz2 := size_mk zo
  have q1 : IntKind.i64.wrap ((k : Int) + (n : Int)) = (k : Int) + n := wrapi (by omega) (by omega)
  have HNEED := Go.Lib.hid hneed
  have C := Go.Lib.hid c
  have HS := Go.Lib.hid hS
  have HBY := Go.Lib.hid hby
  have HBZ := Go.Lib.hid hbz
  have HY := Go.Lib.hid hY
  clear hneed c hS hby hbz hY
  clear h hres hlk hD hsh hP
  go_enter Try.func85, Try.ntmps85
  go_wp2_with fail
  refine HNEED.out.mono ?_; rintro e w1 ⟨rfl, h1⟩
  have c1 : w1.cell? ⟨r, 1, none⟩ = some (.int .i64 k) := row_cell h1.1 1 _ rfl
  have H1 := Go.Lib.hid h1
  clear h1
  go_wp2_with fail
  refine (HS.out w1).mono ?_; rintro e _ ⟨rfl, rfl⟩
  go_wp2_with fail
  clear c1
  refine (HBY.out w1 H1.out).mono ?_; rintro e w2 ⟨rfl, h2⟩
  have H2 := Go.Lib.hid h2
  clear h2
  go_wp2_with fail
  go_loopw [8, 35] (fun o i wr => ∃ (j : Nat) (out : List UInt8) (q : Nat) (bd : Bool), o = .string (mk out) ∧ i = .int .i64 j ∧ j ≤ m ∧ q ≤ zs.length ∧ out.length ≤ zs.length + 255 * j ∧ (yo, yk, yb) = rdNames zs (m - j) out q bd ∧ RS r gb off cap zs base w0 q bd wr) (fun _ i _ => m - (intOf i).toNat)
  case atStart => exact ⟨0, xo, xk, xb, rfl, rfl, Nat.zero_le _, hle, by omega, HY.out, H2.out⟩
  case round =>
    obtain ⟨j, out, q, bd, rfl, rfl, hj, hq, hol, hrest, hrs⟩ := hrel
    by_cases hlt : j < m
    · have t1 : (j : Int) < (m : Int) := by omega
      have hnm := name_rs C.out hrs hq
      have hqn := rdName_le (bad := bd) hq
      have hqm := rdName_len zs q bd
      rw [show m - j = (m - (j + 1)) + 1 by omega, rdNames] at hrest
      generalize rdName zs q bd = A at *
      obtain ⟨ao, ak, ab⟩ := A
      simp only at hnm hqn hqm hrest
      have sz3 := size_mk out
      have sz4 := size_mk ao
      have sz5 : ¬ 9223372036854775807 < out.length + ao.length := by omega
      have hcat := cat_mkd out ao
      have q2 : IntKind.i64.wrap ((j : Int) + 1) = (j : Int) + 1 := wrapi (by omega) (by omega)
      have HNM := Go.Lib.hid hnm
      have HREST := Go.Lib.hid hrest
      have HRS := Go.Lib.hid hrs
      clear hnm hrest hrs
      go_wp2_with fail
      refine HNM.out.mono ?_; rintro e w3 ⟨rfl, h3⟩
      have H3 := Go.Lib.hid h3
      clear h3
      go_wp2_with fail
      go_roundw
      case rel => exact ⟨j + 1, out ++ ao, ak, ab, rfl, by go_num, by omega, hqn, by rw [List.length_append]; omega, HREST.out, H3.out⟩
      case measure => simp [intOf]; omega
    · have t1 : ¬ (j : Int) < (m : Int) := by omega
      obtain rfl : j = m := by omega
      rw [Nat.sub_self, rdNames] at hrest
      simp only [Prod.mk.injEq] at hrest
      obtain ⟨rfl, rfl, rfl⟩ := hrest
      have hb3 := HBZ.out wr hrs
      have hcat := cat_mkd yo zo
      have sz5 : ¬ 9223372036854775807 < yo.length + zo.length := by omega
      have HB3 := Go.Lib.hid hb3
      clear hb3
      clear hrs
      go_wp2_with fail
      refine HB3.out.mono ?_; rintro e w3 ⟨rfl, h3⟩
      have d1 : w3.cell? ⟨r, 1, none⟩ = some (.int .i64 k') := row_cell h3.1 1 _ rfl
      have d2 : w3.cell? ⟨r, 2, none⟩ = some (.bool bad') := row_cell h3.1 2 _ rfl
      have f2 : w3.frozen? ⟨r, 2, none⟩ = false := row_frozen h3.1 2
      have H3 := Go.Lib.hid h3
      clear h3
      cases bad' with
      | true =>
        have h4 := H3.out.set_bad C.out true
        have H4 := Go.Lib.hid h4
        clear h4
        go_wp2_with fail
        go_ret
        exact ⟨rfl, H4.out⟩
      | false =>
        by_cases he : k' = k + n
        · have hne : ((k' : Int) != (k : Int) + n) = false := by simp; omega
          have h5 : RS r gb off cap zs base w0 k' (false || !decide (k' = k + n)) (w3.setCell ⟨r, 2, none⟩ (.bool false)) := by rw [decide_eq_true he]; exact H3.out.set_bad C.out false
          have H5 := Go.Lib.hid h5
          clear h5
          clear he
          go_wp2_with fail
          go_ret
          exact ⟨rfl, H5.out⟩
        · have hne : ((k' : Int) != (k : Int) + n) = true := by simp; omega
          have h5 : RS r gb off cap zs base w0 k' (false || !decide (k' = k + n)) (w3.setCell ⟨r, 2, none⟩ (.bool true)) := by rw [decide_eq_false he]; exact H3.out.set_bad C.out true
          have H5 := Go.Lib.hid h5
          clear h5
          clear he
          go_wp2_with fail
          go_ret
          exact ⟨rfl, H5.out⟩
theorem shape_le {t : Int} {a m b : Nat} (h : Rc.shape t = some (a, m, b)) : a ≤ 6 ∧ m ≤ 2 ∧ b ≤ 20 := by
  unfold Rc.shape at h
  repeat' split at h
  all_goals first | (cases h; done) | (simp only [Option.some.injEq, Prod.mk.injEq] at h; omega)
theorem data_rs {r gb off cap : Nat} {zs : List UInt8} {base : Nat} {w0 : World} (c : RCtx r gb off cap zs base w0) {k : Nat} {bad : Bool} {w : World} (h : RS r gb off cap zs base w0 k bad w) (hk : k ≤ zs.length) (t : Int) (n : Nat) :
    Calls Try.prog 85 #[.pointer (some ⟨r, 0, none⟩), .int .i64 t, .int .i64 n] w fun e w' => e = .returned (.string (mk (rdData zs t n k bad).1)) ∧ RS r gb off cap zs base w0 (rdData zs t n k bad).2.1 (rdData zs t n k bad).2.2 w' := by
  cases hlk : lackB zs.length k bad n with
  | true => exact data_lack c h hk t n hlk
  | false =>
    cases hs : Rc.shape t with
    | none => exact data_plain c h hk t n hlk hs
    | some x =>
      obtain ⟨a, m, b⟩ := x
      exact data_parts c h hk t n a m b hlk hs (shape_le hs).2.1
end Go.Proofs.Ythfhmbooeemaaaa

/- Message: the reader: a record. -/
namespace Go.Proofs.Ythfhmbooeemaaaa
open Go.RowKit
set_option maxRecDepth 100000
set_option linter.unusedVariables false

theorem set_same (cs : Array Value) (i : Nat) (v : Value) (h : cs[i]? = some v) : cs.setIfInBounds i v = cs := by
  apply Array.ext_getElem?
  intro j
  rw [Array.getElem?_setIfInBounds]
  by_cases e : i = j
  · subst e
    rw [if_pos rfl, h, if_pos (Array.getElem?_eq_some_iff.1 h).1]
  · rw [if_neg e]
theorem setCell_same {w : World} {g i : Nat} {cs : Array Value} {T : TypeId} {fr : Nat × Nat} {v : Value} (h : w.heap[g]? = some (.cells cs T fr)) (hv : cs[i]? = some v) : w.setCell ⟨g, i, none⟩ v = w := by
  rw [setCell_eq_setRow w g i _ _ fr v h, set_same cs i v hv]
  exact setRow_self w g _ _ _ h
theorem rdTwo_nat (zs : List UInt8) (k : Nat) (bad : Bool) : ∃ n : Nat, (rdTwo zs k bad).1 = (n : Int) ∧ n ≤ 65535 := by
  unfold rdTwo
  split
  · exact ⟨0, rfl, by omega⟩
  · refine ⟨(zs.getD k 0).toNat * 256 + (zs.getD (k + 1) 0).toNat, rfl, ?_⟩
    have := (zs.getD k 0).toNat_lt
    have := (zs.getD (k + 1) 0).toNat_lt
    omega
/-- a reader in a world where it only got on -/
theorem RS.row {r gb off cap : Nat} {zs : List UInt8} {base : Nat} {w0 w w' : World} {k : Nat} {bad : Bool} (h : RS r gb off cap zs base w0 k bad w) (hk : KeepsR r w w') {g : Nat} {o : Obj} (hg : w.heap[g]? = some o) (hne : g ≠ r) : w'.heap[g]? = some o := hk.row hg hne
/-- a box of the call's own was stored into -/
theorem RS.box {r gb off cap : Nat} {zs : List UInt8} {base : Nat} {w0 w : World} {k : Nat} {bad : Bool} (h : RS r gb off cap zs base w0 k bad w) (c : RCtx r gb off cap zs base w0) {g : Nat} (hg : w0.heap.size ≤ g) (hr : r < w0.heap.size) {cs : Array Value} {T : TypeId} (hh : w.heap[g]? = some (.cells cs T (0, 0))) (i : Nat) (v : Value) :
    RS r gb off cap zs base w0 k bad (w.setCell ⟨g, i, none⟩ v) :=
  ⟨(heap_set_other hh (show r ≠ g by omega)).trans h.1, h.2.1.setCell (p := ⟨g, i, none⟩) (Nat.le_trans c.hbw hg) _, by simpa using h.2.2.1, fun j hj hjr => by rw [heap_set_other hh (show j ≠ g by omega)]; exact h.2.2.2 j hj hjr⟩

/-- a record: what is told, where it is then, and whether something was wrong -/
def rdRec (zs : List UInt8) (k : Nat) (bad : Bool) : Rc.RR × Nat × Bool :=
  let a := rdName zs k bad
  let b := rdTwo zs a.2.1 a.2.2
  let c := rdTwo zs b.2.1 b.2.2
  let d := rdTwo zs c.2.1 c.2.2
  let e := rdTwo zs d.2.1 d.2.2
  let f := rdTwo zs e.2.1 e.2.2
  let g := rdData zs b.1 f.1.toNat f.2.1 f.2.2
  (⟨a.1, b.1, c.1, if 2147483648 ≤ d.1 * 65536 + e.1 then 0 else d.1 * 65536 + e.1, g.1⟩, g.2.1, g.2.2)
theorem rdRec_eq (zs : List UInt8) (k : Nat) (bad : Bool) : rdRec zs k bad =
  let a := rdName zs k bad
  let b := rdTwo zs a.2.1 a.2.2
  let c := rdTwo zs b.2.1 b.2.2
  let d := rdTwo zs c.2.1 c.2.2
  let e := rdTwo zs d.2.1 d.2.2
  let f := rdTwo zs e.2.1 e.2.2
  let g := rdData zs b.1 f.1.toNat f.2.1 f.2.2
  (⟨a.1, b.1, c.1, if 2147483648 ≤ d.1 * 65536 + e.1 then 0 else d.1 * 65536 + e.1, g.1⟩, g.2.1, g.2.2) := rfl
theorem rdRec_le {zs : List UInt8} {k : Nat} {bad : Bool} (hk : k ≤ zs.length) : (rdRec zs k bad).2.1 ≤ zs.length := by
  rw [rdRec_eq]
  exact rdData_le (rdTwo_le (rdTwo_le (rdTwo_le (rdTwo_le (rdTwo_le (rdName_le hk))))))
/-- a call's end, and that the reader alone was changed -/
def CEnd (v : Value) (P : World → Prop) (r : Nat) (w : World) (e : Ending) (w' : World) : Prop := e = .returned v ∧ P w' ∧ KeepsR r w w'
section
variable {r gb off cap : Nat} {zs : List UInt8} {base : Nat} {w0 : World}
theorem two_rk (c : RCtx r gb off cap zs base w0) {k : Nat} {bad : Bool} {w : World} (h : RS r gb off cap zs base w0 k bad w) (hk : k ≤ zs.length) :
    Calls Try.prog 60 #[.pointer (some ⟨r, 0, none⟩)] w (CEnd (.int .i64 (rdTwo zs k bad).1) (RS r gb off cap zs base w0 (rdTwo zs k bad).2.1 (rdTwo zs k bad).2.2) r w) := by
  refine (two_any r _ cap zs k bad base w h.1 (h.byts c) (fun x hx => by cases hx; exact c.hgr) hk c.hl c.hb (h.size c)).mono ?_
  rintro e w' ⟨rfl, h1, h2, h3⟩
  exact ⟨rfl, h.join c h1 h2 h3, h3⟩
theorem name_rk (c : RCtx r gb off cap zs base w0) {k : Nat} {bad : Bool} {w : World} (h : RS r gb off cap zs base w0 k bad w) (hk : k ≤ zs.length) :
    Calls Try.prog 76 #[.pointer (some ⟨r, 0, none⟩)] w (CEnd (.string (mk (rdName zs k bad).1)) (RS r gb off cap zs base w0 (rdName zs k bad).2.1 (rdName zs k bad).2.2) r w) := by
  refine (name_any r _ cap zs k bad base w h.1 (h.byts c) hk c.hl c.hb (h.size c)).mono ?_
  rintro e w' ⟨rfl, h1, h2, h3⟩
  exact ⟨rfl, h.join c h1 h2 h3, h3⟩
theorem data_rk (c : RCtx r gb off cap zs base w0) {k : Nat} {bad : Bool} {w : World} (h : RS r gb off cap zs base w0 k bad w) (hk : k ≤ zs.length) (t : Int) (n : Nat) :
    Calls Try.prog 85 #[.pointer (some ⟨r, 0, none⟩), .int .i64 t, .int .i64 n] w (CEnd (.string (mk (rdData zs t n k bad).1)) (RS r gb off cap zs base w0 (rdData zs t n k bad).2.1 (rdData zs t n k bad).2.2) r w) := by
  have hlt := h.1.lt
  have c2 : RCtx r gb off cap zs base w := ⟨h.byts c, c.hgr, c.hl, c.hb, h.size c⟩
  have h2 : RS r gb off cap zs base w k bad w := RS.start h.1 c2
  refine (data_rs c2 h2 hk t n).mono ?_
  rintro e w' ⟨rfl, h1⟩
  exact ⟨rfl, h.join c h1.1 h1.2.1 h1.2.2, h1.2.2⟩
end
set_option maxHeartbeats 4000000 in
theorem record_rs {r gb off cap : Nat} {zs : List UInt8} {base : Nat} {w0 : World} (c : RCtx r gb off cap zs base w0) {k : Nat} {bad : Bool} (h : RS r gb off cap zs base w0 k bad w0) (hk : k ≤ zs.length) :
    Calls Try.prog 77 #[.pointer (some ⟨r, 0, none⟩)] w0 fun e w' => e = .returned (rrV (rdRec zs k bad).1) ∧ RS r gb off cap zs base w0 (rdRec zs k bad).2.1 (rdRec zs k bad).2.2 w' := by
  have mixed : Try.prog.follows .mixedOrders = true := by kernel_rfl
  have hlt := h.1.lt
  have hne : w0.heap.size ≠ r := by omega
  have hXh := heap_alloc_new w0 (.cells (rrC rZ) 45)
  have hrX := h.below c ((Below.refl _ w0).alloc (Nat.le_refl _) (.cells (rrC rZ) 45))
  rw [rdRec_eq]
  have ha := name_rk c hrX hk
  have hla := rdName_le (bad := bad) hk
  generalize rdName zs k bad = A at *
  obtain ⟨an, ak, ab⟩ := A
  simp only at ha hla ⊢
  have hb := fun (w : World) (h : RS r gb off cap zs base w0 ak ab w) => two_rk c h hla
  have hlb := rdTwo_le (bad := ab) hla
  obtain ⟨bt, hbt, hbt5⟩ := rdTwo_nat zs ak ab
  generalize rdTwo zs ak ab = B at *
  obtain ⟨b1, bk, bb⟩ := B
  simp only at hb hlb hbt ⊢
  subst hbt
  have hc := fun (w : World) (h : RS r gb off cap zs base w0 bk bb w) => two_rk c h hlb
  have hlc := rdTwo_le (bad := bb) hlb
  obtain ⟨ct, hct, hct5⟩ := rdTwo_nat zs bk bb
  generalize rdTwo zs bk bb = C at *
  obtain ⟨c1, ck, cb⟩ := C
  simp only at hc hlc hct ⊢
  subst hct
  have hd := fun (w : World) (h : RS r gb off cap zs base w0 ck cb w) => two_rk c h hlc
  have hld := rdTwo_le (bad := cb) hlc
  obtain ⟨dt, hdt, hdt5⟩ := rdTwo_nat zs ck cb
  generalize rdTwo zs ck cb = D at *
  obtain ⟨d1, dk, db⟩ := D
  simp only at hd hld hdt ⊢
  subst hdt
  have he := fun (w : World) (h : RS r gb off cap zs base w0 dk db w) => two_rk c h hld
  have hle := rdTwo_le (bad := db) hld
  obtain ⟨et, het, het5⟩ := rdTwo_nat zs dk db
  generalize rdTwo zs dk db = E at *
  obtain ⟨e1, ek, eb⟩ := E
  simp only at he hle het ⊢
  subst het
  have hf := fun (w : World) (h : RS r gb off cap zs base w0 ek eb w) => two_rk c h hle
  have hlf := rdTwo_le (bad := eb) hle
  obtain ⟨ft, hft, hft5⟩ := rdTwo_nat zs ek eb
  generalize rdTwo zs ek eb = F at *
  obtain ⟨f1, fk, fb⟩ := F
  simp only at hf hlf hft ⊢
  subst hft
  simp only [Int.toNat_natCast]
  have hg := fun (w : World) (h : RS r gb off cap zs base w0 fk fb w) => data_rk c h hlf (bt : Int) ft
  generalize rdData zs (bt : Int) ft fk fb = G at *
  obtain ⟨gd, gk, gf⟩ := G
  simp only at hg ⊢
  have hor := or_low dt et 16 (by omega) (by omega)
  have hor2 : bits .or .i64 ((dt : Int) * 65536) (et : Int) = (dt : Int) * 65536 + et := by
    rw [show ((dt : Int) * 65536) = ((2 ^ 16 * dt : Nat) : Int) by omega, hor]; omega
  have q1 : IntKind.i64.wrap ((dt : Int) * 65536) = (dt : Int) * 65536 := wrapi (by omega) (by omega)
  obtain ⟨tt, htt⟩ : ∃ tt : Int, tt = if 2147483648 ≤ (dt : Int) * 65536 + et then 0 else (dt : Int) * 65536 + et := ⟨_, rfl⟩
  rw [← htt]
  clear hor
  obtain ⟨V, hV⟩ : ∃ V, V = (dt : Int) * 65536 + et := ⟨_, rfl⟩
  rw [← hV] at htt hor2
  clear hV
  have HA := Go.Lib.hid ha
  have HB := Go.Lib.hid hb
  have HC := Go.Lib.hid hc
  have HD := Go.Lib.hid hd
  have HE := Go.Lib.hid he
  have HF := Go.Lib.hid hf
  have HG := Go.Lib.hid hg
  have CT := Go.Lib.hid c
  have HXH := Go.Lib.hid hXh
  have HRX := Go.Lib.hid hrX
  have HTT := Go.Lib.hid htt
  clear ha hb hc hd he hf hg c hXh hrX htt
  clear h
  go_enter Try.func77, Try.ntmps77
  go_wp2_with fail
  refine HA.out.mono ?_; rintro e w1 ⟨rfl, h1, k1⟩
  have g1 := k1.row HXH.out hne
  have f0 : w1.frozen? ⟨w0.heap.size, 0, none⟩ = false := row_frozen g1 0
  have y0 : w1.cell? ⟨w0.heap.size, 0, none⟩ = some (.string ⟨#[]⟩) := row_cell g1 0 _ rfl
  obtain ⟨W1, hW1⟩ : ∃ W, w1.setCell ⟨w0.heap.size, 0, none⟩ (.string (mk an)) = W := ⟨_, rfl⟩
  have r1 := h1.box CT.out (Nat.le_refl _) hlt g1 0 (.string (mk an))
  have g2 : W1.heap[w0.heap.size]? = some (.cells #[.string (mk an), .int .i64 0, .int .i64 0, .int .i64 0, .string ⟨#[]⟩] 45 (0, 0)) := by rw [← hW1]; exact heap_set g1
  rw [hW1] at r1
  have hc1 := HB.out W1 r1
  have HC1 := Go.Lib.hid hc1
  have G2 := Go.Lib.hid g2
  clear hc1 g2
  clear h1 k1 g1 r1 HA HB HXH HRX
  go_wp2_with fail
  clear hW1 f0 y0
  refine HC1.out.mono ?_; rintro e w2 ⟨rfl, h2, k2⟩
  have g3 := k2.row G2.out hne
  have hc2 := HC.out w2 h2
  have HC2 := Go.Lib.hid hc2
  have G3 := Go.Lib.hid g3
  clear hc2 g3
  clear h2 k2 HC1 G2 HC
  go_wp2_with fail
  refine HC2.out.mono ?_; rintro e w3 ⟨rfl, h3, k3⟩
  have g4 := k3.row G3.out hne
  have a1 : w3.cell? ⟨w0.heap.size, 1, none⟩ = some (.int .i64 0) := row_cell g4 1 _ rfl
  have a2 : w3.cell? ⟨w0.heap.size, 2, none⟩ = some (.int .i64 0) := row_cell g4 2 _ rfl
  have f1 : w3.frozen? ⟨w0.heap.size, 1, none⟩ = false := row_frozen g4 1
  have f2 : w3.frozen? ⟨w0.heap.size, 2, none⟩ = false := row_frozen g4 2
  have g5 := heap_set (i := 1) (v := .int .i64 bt) g4
  have g6 := heap_set (i := 2) (v := .int .i64 ct) g5
  have r3 := (h3.box CT.out (Nat.le_refl _) hlt g4 1 (.int .i64 bt)).box CT.out (Nat.le_refl _) hlt g5 2 (.int .i64 ct)
  obtain ⟨W4, hW4⟩ : ∃ W, (w3.setCell ⟨w0.heap.size, 1, none⟩ (.int .i64 bt)).setCell ⟨w0.heap.size, 2, none⟩ (.int .i64 ct) = W := ⟨_, rfl⟩
  rw [hW4] at g6 r3
  have g7 : W4.heap[w0.heap.size]? = some (.cells #[.string (mk an), .int .i64 bt, .int .i64 ct, .int .i64 0, .string ⟨#[]⟩] 45 (0, 0)) := g6
  have hc3 := HD.out W4 r3
  have HC3 := Go.Lib.hid hc3
  have G7 := Go.Lib.hid g7
  clear hc3 g7
  clear h3 k3 g4 g5 g6 r3 HC2 G3 HD
  go_wp2_with fail
  clear hW4 a1 a2 f1 f2
  refine HC3.out.mono ?_; rintro e w4 ⟨rfl, h4, k4⟩
  have g8 := k4.row G7.out hne
  have hc4 := HE.out w4 h4
  have HC4 := Go.Lib.hid hc4
  have G8 := Go.Lib.hid g8
  clear hc4 g8
  clear h4 k4 HC3 G7 HE
  go_wp2_with fail
  refine HC4.out.mono ?_; rintro e w5 ⟨rfl, h5, k5⟩
  have g9 := k5.row G8.out hne
  have a3 : w5.cell? ⟨w0.heap.size, 3, none⟩ = some (.int .i64 0) := row_cell g9 3 _ rfl
  have f3 : w5.frozen? ⟨w0.heap.size, 3, none⟩ = false := row_frozen g9 3
  have g10 := heap_set (i := 3) (v := .int .i64 V) g9
  have r5 := h5.box CT.out (Nat.le_refl _) hlt g9 3 (.int .i64 V)
  obtain ⟨W5, hW5⟩ : ∃ W, w5.setCell ⟨w0.heap.size, 3, none⟩ (.int .i64 V) = W := ⟨_, rfl⟩
  rw [hW5] at g10 r5
  have g11 : W5.heap[w0.heap.size]? = some (.cells #[.string (mk an), .int .i64 bt, .int .i64 ct, .int .i64 V, .string ⟨#[]⟩] 45 (0, 0)) := g10
  have a4 : W5.cell? ⟨w0.heap.size, 3, none⟩ = some (.int .i64 V) := row_cell g11 3 _ rfl
  have f4 : W5.frozen? ⟨w0.heap.size, 3, none⟩ = false := row_frozen g11 3
  have g12 := heap_set (i := 3) (v := .int .i64 0) g11
  have r6 := r5.box CT.out (Nat.le_refl _) hlt g11 3 (.int .i64 0)
  have G11 := Go.Lib.hid g11
  have G12 := Go.Lib.hid g12
  have R5 := Go.Lib.hid r5
  have R6 := Go.Lib.hid r6
  clear g11 g12 r5 r6
  clear h5 k5 g9 g10 HC4 G8
  by_cases hbig : (2147483648 : Int) ≤ V
  · have htt := HTT.out
    rw [if_pos hbig] at htt
    subst htt
    go_wp2_with fail
    clear hW5
    obtain ⟨W6, hW6⟩ : ∃ W, W5.setCell ⟨w0.heap.size, 3, none⟩ (.int .i64 0) = W := ⟨_, rfl⟩
    have g13 : W6.heap[w0.heap.size]? = some (.cells #[.string (mk an), .int .i64 bt, .int .i64 ct, .int .i64 (0), .string ⟨#[]⟩] 45 (0, 0)) := by rw [← hW6]; exact G12.out
    have r7 : RS r gb off cap zs base w0 ek eb W6 := by rw [← hW6]; exact R6.out
    rw [hW6]
    clear hW6 a4 f4 a3 f3
    have C1 := fun w3 => RowC.cell (g := w0.heap.size) (T := 45) (cs := #[.string (mk an), .int .i64 bt, .int .i64 ct, .int .i64 (0), .string ⟨#[]⟩]) 1 _ rfl w3
    have hnn : Nonempty (Subtype (RowC w0.heap.size #[.string (mk an), .int .i64 bt, .int .i64 ct, .int .i64 (0), .string ⟨#[]⟩] 45)) := ⟨⟨W6, g13⟩⟩
    have hcf := HF.out W6.drew (r7.below CT.out (Below.refl _ _).drew)
    have G13 := Go.Lib.hid g13
    have R7 := Go.Lib.hid r7
    have HCF := Go.Lib.hid hcf
    clear g13 r7 hcf
    refine Go.Mix.wp_region_mixT (Es := [4, 5]) 7 (RowC w0.heap.size #[.string (mk an), .int .i64 bt, .int .i64 ct, .int .i64 (0), .string ⟨#[]⟩] 45) mixed (by kernel_rfl) G13.out ?_
    iterate 4 (refine Go.Mix.mixT_step rfl (fun K hK => ?_); have HKK := Go.Lib.hid hK; clear hK; go_simp; refine HKK.out _ _ ?_; clear HKK K)
    refine Go.Mix.mixT_eff rfl (fun K hK => ?_)
    have HKK := Go.Lib.hid hK
    clear hK
    go_simp
    refine HCF.out.mono ?_; rintro e w6 ⟨rfl, h6, k6⟩
    have g14 : RowC w0.heap.size #[.string (mk an), .int .i64 bt, .int .i64 ct, .int .i64 (0), .string ⟨#[]⟩] 45 w6 := k6.row G13.out hne
    go_simp
    refine HKK.out _ _ g14 ?_
    clear HKK K
    have hcg := HG.out w6 h6
    have HCG := Go.Lib.hid hcg
    have G14 := Go.Lib.hid g14
    clear hcg g14
    clear h6 k6
    refine Go.Mix.mixT_eff rfl (fun K hK => ?_)
    have HKK := Go.Lib.hid hK
    clear hK
    go_simp
    refine HCG.out.mono ?_; rintro e w7 ⟨rfl, h7, k7⟩
    have g15 : RowC w0.heap.size #[.string (mk an), .int .i64 bt, .int .i64 ct, .int .i64 (0), .string ⟨#[]⟩] 45 w7 := k7.row G14.out hne
    go_simp
    refine HKK.out _ _ g15 ?_
    clear HKK K
    iterate 1 (refine Go.Mix.mixT_step rfl (fun K hK => ?_); have HKK := Go.Lib.hid hK; clear hK; go_simp; refine HKK.out _ _ ?_; clear HKK K)
    refine Go.Mix.mixT_last rfl (fun K hK => ?_)
    have HKK := Go.Lib.hid hK
    clear hK
    have b4 : w7.cell? ⟨w0.heap.size, 4, none⟩ = some (.string ⟨#[]⟩) := row_cell g15 4 _ rfl
    have e4 : w7.frozen? ⟨w0.heap.size, 4, none⟩ = false := row_frozen g15 4
    have g16 := heap_set (i := 4) (v := .string (mk gd)) g15
    have r8 := h7.box CT.out (Nat.le_refl _) hlt g15 4 (.string (mk gd))
    clear C1
    go_simp
    obtain ⟨W8, hW8⟩ : ∃ W, w7.setCell ⟨w0.heap.size, 4, none⟩ (.string (mk gd)) = W := ⟨_, rfl⟩
    rw [hW8] at g16 r8 ⊢
    clear hW8 b4 e4
    refine HKK.out _ _ ?_
    clear HKK K hnn
    have g17 : W8.heap[w0.heap.size]? = some (.cells #[.string (mk an), .int .i64 bt, .int .i64 ct, .int .i64 (0), .string (mk gd)] 45 (0, 0)) := g16
    have x0 : W8.cell? ⟨w0.heap.size, 0, none⟩ = some (.string (mk an)) := row_cell g17 0 _ rfl
    have x1 : W8.cell? ⟨w0.heap.size, 1, none⟩ = some (.int .i64 bt) := row_cell g17 1 _ rfl
    have x2 : W8.cell? ⟨w0.heap.size, 2, none⟩ = some (.int .i64 ct) := row_cell g17 2 _ rfl
    have x3 : W8.cell? ⟨w0.heap.size, 3, none⟩ = some (.int .i64 (0)) := row_cell g17 3 _ rfl
    have x4 : W8.cell? ⟨w0.heap.size, 4, none⟩ = some (.string (mk gd)) := row_cell g17 4 _ rfl
    have z0 : W8.frozen? ⟨w0.heap.size, 0, none⟩ = false := row_frozen g17 0
    have z1 : W8.frozen? ⟨w0.heap.size, 1, none⟩ = false := row_frozen g17 1
    have z2 : W8.frozen? ⟨w0.heap.size, 2, none⟩ = false := row_frozen g17 2
    have z3 : W8.frozen? ⟨w0.heap.size, 3, none⟩ = false := row_frozen g17 3
    have z4 : W8.frozen? ⟨w0.heap.size, 4, none⟩ = false := row_frozen g17 4
    have s0 := setCell_same g17 (i := 0) (v := .string (mk an)) rfl
    have s1 := setCell_same g17 (i := 1) (v := .int .i64 bt) rfl
    have s2 := setCell_same g17 (i := 2) (v := .int .i64 ct) rfl
    have s3 := setCell_same g17 (i := 3) (v := .int .i64 (0)) rfl
    have s4 := setCell_same g17 (i := 4) (v := .string (mk gd)) rfl
    have G17 := Go.Lib.hid g17
    have R8 := Go.Lib.hid r8
    clear g17 r8
    clear g15 g16 h7 k7
    go_wp2_with fail
    refine ret_rr (r := ⟨an, bt, ct, 0, gd⟩) rfl rfl rfl G17.out ⟨rfl, R8.out⟩
  · have htt := HTT.out
    rw [if_neg hbig] at htt
    subst htt
    go_wp2_with fail
    clear hW5
    obtain ⟨W6, hW6⟩ : ∃ W, W5 = W := ⟨_, rfl⟩
    have g13 : W6.heap[w0.heap.size]? = some (.cells #[.string (mk an), .int .i64 bt, .int .i64 ct, .int .i64 (tt), .string ⟨#[]⟩] 45 (0, 0)) := by rw [← hW6]; exact G11.out
    have r7 : RS r gb off cap zs base w0 ek eb W6 := by rw [← hW6]; exact R5.out
    rw [hW6]
    clear hW6 a4 f4 a3 f3
    have C1 := fun w3 => RowC.cell (g := w0.heap.size) (T := 45) (cs := #[.string (mk an), .int .i64 bt, .int .i64 ct, .int .i64 (tt), .string ⟨#[]⟩]) 1 _ rfl w3
    have hnn : Nonempty (Subtype (RowC w0.heap.size #[.string (mk an), .int .i64 bt, .int .i64 ct, .int .i64 (tt), .string ⟨#[]⟩] 45)) := ⟨⟨W6, g13⟩⟩
    have hcf := HF.out W6.drew (r7.below CT.out (Below.refl _ _).drew)
    have G13 := Go.Lib.hid g13
    have R7 := Go.Lib.hid r7
    have HCF := Go.Lib.hid hcf
    clear g13 r7 hcf
    refine Go.Mix.wp_region_mixT (Es := [4, 5]) 7 (RowC w0.heap.size #[.string (mk an), .int .i64 bt, .int .i64 ct, .int .i64 (tt), .string ⟨#[]⟩] 45) mixed (by kernel_rfl) G13.out ?_
    iterate 4 (refine Go.Mix.mixT_step rfl (fun K hK => ?_); have HKK := Go.Lib.hid hK; clear hK; go_simp; refine HKK.out _ _ ?_; clear HKK K)
    refine Go.Mix.mixT_eff rfl (fun K hK => ?_)
    have HKK := Go.Lib.hid hK
    clear hK
    go_simp
    refine HCF.out.mono ?_; rintro e w6 ⟨rfl, h6, k6⟩
    have g14 : RowC w0.heap.size #[.string (mk an), .int .i64 bt, .int .i64 ct, .int .i64 (tt), .string ⟨#[]⟩] 45 w6 := k6.row G13.out hne
    go_simp
    refine HKK.out _ _ g14 ?_
    clear HKK K
    have hcg := HG.out w6 h6
    have HCG := Go.Lib.hid hcg
    have G14 := Go.Lib.hid g14
    clear hcg g14
    clear h6 k6
    refine Go.Mix.mixT_eff rfl (fun K hK => ?_)
    have HKK := Go.Lib.hid hK
    clear hK
    go_simp
    refine HCG.out.mono ?_; rintro e w7 ⟨rfl, h7, k7⟩
    have g15 : RowC w0.heap.size #[.string (mk an), .int .i64 bt, .int .i64 ct, .int .i64 (tt), .string ⟨#[]⟩] 45 w7 := k7.row G14.out hne
    go_simp
    refine HKK.out _ _ g15 ?_
    clear HKK K
    iterate 1 (refine Go.Mix.mixT_step rfl (fun K hK => ?_); have HKK := Go.Lib.hid hK; clear hK; go_simp; refine HKK.out _ _ ?_; clear HKK K)
    refine Go.Mix.mixT_last rfl (fun K hK => ?_)
    have HKK := Go.Lib.hid hK
    clear hK
    have b4 : w7.cell? ⟨w0.heap.size, 4, none⟩ = some (.string ⟨#[]⟩) := row_cell g15 4 _ rfl
    have e4 : w7.frozen? ⟨w0.heap.size, 4, none⟩ = false := row_frozen g15 4
    have g16 := heap_set (i := 4) (v := .string (mk gd)) g15
    have r8 := h7.box CT.out (Nat.le_refl _) hlt g15 4 (.string (mk gd))
    clear C1
    go_simp
    obtain ⟨W8, hW8⟩ : ∃ W, w7.setCell ⟨w0.heap.size, 4, none⟩ (.string (mk gd)) = W := ⟨_, rfl⟩
    rw [hW8] at g16 r8 ⊢
    clear hW8 b4 e4
    refine HKK.out _ _ ?_
    clear HKK K hnn
    have g17 : W8.heap[w0.heap.size]? = some (.cells #[.string (mk an), .int .i64 bt, .int .i64 ct, .int .i64 (tt), .string (mk gd)] 45 (0, 0)) := g16
    have x0 : W8.cell? ⟨w0.heap.size, 0, none⟩ = some (.string (mk an)) := row_cell g17 0 _ rfl
    have x1 : W8.cell? ⟨w0.heap.size, 1, none⟩ = some (.int .i64 bt) := row_cell g17 1 _ rfl
    have x2 : W8.cell? ⟨w0.heap.size, 2, none⟩ = some (.int .i64 ct) := row_cell g17 2 _ rfl
    have x3 : W8.cell? ⟨w0.heap.size, 3, none⟩ = some (.int .i64 (tt)) := row_cell g17 3 _ rfl
    have x4 : W8.cell? ⟨w0.heap.size, 4, none⟩ = some (.string (mk gd)) := row_cell g17 4 _ rfl
    have z0 : W8.frozen? ⟨w0.heap.size, 0, none⟩ = false := row_frozen g17 0
    have z1 : W8.frozen? ⟨w0.heap.size, 1, none⟩ = false := row_frozen g17 1
    have z2 : W8.frozen? ⟨w0.heap.size, 2, none⟩ = false := row_frozen g17 2
    have z3 : W8.frozen? ⟨w0.heap.size, 3, none⟩ = false := row_frozen g17 3
    have z4 : W8.frozen? ⟨w0.heap.size, 4, none⟩ = false := row_frozen g17 4
    have s0 := setCell_same g17 (i := 0) (v := .string (mk an)) rfl
    have s1 := setCell_same g17 (i := 1) (v := .int .i64 bt) rfl
    have s2 := setCell_same g17 (i := 2) (v := .int .i64 ct) rfl
    have s3 := setCell_same g17 (i := 3) (v := .int .i64 (tt)) rfl
    have s4 := setCell_same g17 (i := 4) (v := .string (mk gd)) rfl
    have G17 := Go.Lib.hid g17
    have R8 := Go.Lib.hid r8
    clear g17 r8
    clear g15 g16 h7 k7
    go_wp2_with fail
    refine ret_rr (r := ⟨an, bt, ct, tt, gd⟩) rfl rfl rfl G17.out ⟨rfl, R8.out⟩
end Go.Proofs.Ythfhmbooeemaaaa

