/- Merged texts of the seat, in their order: Sm, BitsF, RqA, RqB, RqC, RqD, RqE, RqF, RqH, RqI, RR, PkA, PkB, TrA, NameB, NameC. -/
import Derived.Test.YtkpcmnckdappnaaGreatG1
import Derived.Test.YtkpcmnckdappnaaGreatG2
import Derived.Laws.BitsLemmas
import Derived.BigQuiet
import Derived.Laws.CopyOwn
import Derived.Lib.SlicesCompact
import Derived.Sort.Statements
import Derived.Test.YtkpcmnckdappnaaGreatShelf
import Derived.Deep.QuietTactic
/- Small words for walks: sums that fit, one world, texts that are alike or not, and freshetalike.Round. No conditions. -/
namespace Go.Proofs.YtkpcmnckdappnaaGreat
open Go.RowKit

theorem wrapi {n : Int} (h1 : -9223372036854775808 ≤ n) (h2 : n ≤ 9223372036854775807) : IntKind.i64.wrap n = n := by
  rw [IntKind.wrap_i64]; omega

/-- one world -/
def AtW (w0 w : World) : Prop := w = w0
theorem AtW.cell {w0 : World} {p : Addr} {v : Value} (h : w0.cell? p = some v) (w3 : Subtype (AtW w0)) : w3.1.cell? p = some v := by
  have := w3.2
  unfold AtW at this
  rw [this]; exact h

theorem bne_mk_false {a b : List UInt8} (h : a = b) : ((mk a).toList != (mk b).toList) = false := by rw [toList_bl, toList_bl, bl_mk, bl_mk, h, bne_self_eq_false]
theorem bne_mk_true {a b : List UInt8} (h : ¬ a = b) : ((mk a).toList != (mk b).toList) = true := by rw [toList_bl, toList_bl, bl_mk, bl_mk]; simpa using h

theorem beq_mk_true {a b : List UInt8} (h : a = b) : ((mk a).toList == (mk b).toList) = true := by rw [toList_bl, toList_bl, bl_mk, bl_mk, h, beq_self_eq_true]
theorem beq_mk_false {a b : List UInt8} (h : ¬ a = b) : ((mk a).toList == (mk b).toList) = false := by rw [toList_bl, toList_bl, bl_mk, bl_mk]; simpa using h
theorem ne_mk {a b : List UInt8} (h : ¬ a = b) : ¬ (mk a).toList = (mk b).toList := by rw [toList_bl, toList_bl, bl_mk, bl_mk]; exact h

theorem slc_bounds {w : World} {sz n m cap : Nat} {a : Option Addr} {cs : List Value} (h : SlC w sz (.slice a n cap) m cs) : n ≤ cap ∧ cap ≤ maxLen := by
  obtain ⟨_, a', cap', hv, h1, h2, _⟩ := h
  simp only [Value.slice.injEq] at hv
  obtain ⟨_, rfl, rfl⟩ := hv
  exact ⟨h1, h2⟩

theorem below_drewN {B : Nat} {w wr : World} (h : Below B w wr) (n : Nat) : Below B w (wr.drewN n) := ⟨h.os, h.tape, h.output, h.size, h.block⟩

theorem owns_below {w w' : World} {base e sz n : Nat} {v : Value} {xs : List Value} (h : w.ownsRow base e sz v n xs) (hb : Below w.heap.size w w') : w'.ownsRow base e sz v n xs :=
  h.kept (⟨hb.os, hb.tape, hb.output, hb.size, fun k hk _ => hb.block k hk⟩ : w.grownBy w' none) (by cases Value.ownBlock _ <;> simp)

set_option maxRecDepth 100000 in
theorem Round_any (k n : Int) (w : World) (h0 : 0 < n) (hn : n ≤ 4611686018427387904) :
    Calls Tryz.prog 18 #[.int .i64 k, .int .i64 n] w fun e w' => e = .returned (.int .i64 (k % n)) ∧ w = w' := by
  have hne : ¬ n = 0 := by omega
  have b1 : -n < k.tmod n ∧ k.tmod n < n := by
    have h1 := Int.tmod_lt_of_pos k h0
    have h2 : -n < k.tmod n := by
      have := Int.tmod_lt_of_pos (-k) h0
      rw [Int.neg_tmod] at this
      omega
    exact ⟨h2, h1⟩
  have hfin : Hid (k % n = (k.tmod n + n) % n) := Go.Lib.hid (by
    rw [Int.add_emod_right, Int.tmod_def, Int.sub_mul_emod_self_left])
  go_enter Tryz.func18, Tryz.ntmps18
  go_wp2
  go_ret
  exact ⟨ret_int hfin.out.symm, rfl⟩
end Go.Proofs.YtkpcmnckdappnaaGreat

/- Numbers of four bytes: put together, and taken apart. No conditions. -/
namespace Go.Proofs.YtkpcmnckdappnaaGreat
open Go.RowKit

theorem ofInt_nat (n : Nat) (h : n < 18446744073709551616) : (BitVec.ofInt IntKind.i64.bits (n : Int)).toNat = n := by
  rw [BitVec.toNat_ofInt]
  show ((n : Int) % 18446744073709551616).toNat = n
  omega
theorem or_low (a b k : Nat) (hb : b < 2 ^ k) (h : 2 ^ k * a + b < 9223372036854775808) : bits .or .i64 ((2 ^ k * a : Nat) : Int) (b : Int) = ((2 ^ k * a + b : Nat) : Int) := by
  have h4 : (BitVec.ofInt IntKind.i64.bits ((2 ^ k * a : Nat) : Int) ||| BitVec.ofInt IntKind.i64.bits (b : Int)).toNat = 2 ^ k * a + b := by
    rw [BitVec.toNat_or, ofInt_nat _ (by omega), ofInt_nat _ (by omega), Nat.two_pow_add_eq_or_of_lt hb]
  simp only [bits]
  rw [h4, IntKind.wrap_i64]
  omega
/-- the number of four bytes -/
def num4 (a b c d : UInt8) : Nat := a.toNat * 16777216 + b.toNat * 65536 + c.toNat * 256 + d.toNat
theorem or4 (a b c d : UInt8) : bits .or .i64 (bits .or .i64 (bits .or .i64 ((a.toNat : Int) * 16777216) ((b.toNat : Int) * 65536)) ((c.toNat : Int) * 256)) (d.toNat : Int) = (num4 a b c d : Int) := by
  have ha := a.toNat_lt
  have hb := b.toNat_lt
  have hc := c.toNat_lt
  have hd := d.toNat_lt
  have e1 := or_low a.toNat (b.toNat * 65536) 24 (by omega) (by omega)
  have e2 := or_low (a.toNat * 256 + b.toNat) (c.toNat * 256) 16 (by omega) (by omega)
  have e3 := or_low (a.toNat * 65536 + b.toNat * 256 + c.toNat) d.toNat 8 (by omega) (by omega)
  rw [show ((a.toNat : Int) * 16777216) = ((2 ^ 24 * a.toNat : Nat) : Int) by omega, show ((b.toNat : Int) * 65536) = ((b.toNat * 65536 : Nat) : Int) by omega, e1,
    show ((2 ^ 24 * a.toNat + b.toNat * 65536 : Nat) : Int) = ((2 ^ 16 * (a.toNat * 256 + b.toNat) : Nat) : Int) by omega, show ((c.toNat : Int) * 256) = ((c.toNat * 256 : Nat) : Int) by omega, e2,
    show ((2 ^ 16 * (a.toNat * 256 + b.toNat) + c.toNat * 256 : Nat) : Int) = ((2 ^ 8 * (a.toNat * 65536 + b.toNat * 256 + c.toNat) : Nat) : Int) by omega, e3]
  unfold num4
  omega
/-- a number's byte -/
def byteOf (n : Int) (k : Int) : UInt8 := UInt8.ofNat (n / k % 256).toNat
theorem byteOf_nat (n k : Int) : ((byteOf n k).toNat : Int) = n / k % 256 := by
  unfold byteOf
  rw [UInt8.toNat_ofNat']
  generalize n / k = m
  omega
def four (n : Int) : List UInt8 := [byteOf n 16777216, byteOf n 65536, byteOf n 256, byteOf n 1]
theorem num4_four (n : Int) (h0 : 0 ≤ n) (h1 : n < 4294967296) : (num4 (byteOf n 16777216) (byteOf n 65536) (byteOf n 256) (byteOf n 1) : Int) = n := by
  have e1 := byteOf_nat n 16777216
  have e2 := byteOf_nat n 65536
  have e3 := byteOf_nat n 256
  have e4 := byteOf_nat n 1
  unfold num4
  omega
end Go.Proofs.YtkpcmnckdappnaaGreat

/- The contracts of record.Known, within, number, bytes; the reference's number, four, word, Known. -/
namespace Go.Proofs.YtkpcmnckdappnaaGreat
open Go.RowKit
set_option linter.unusedVariables false
set_option linter.unusedSimpArgs false

theorem run_conv_nw (w : World) (n : Nat) (cs : List Value) (l : List UInt8) (hn : cs.length = n) (h : cs = l.map fun b => .int .u8 b.toNat) (hm : n ≤ maxLen) :
    (convert 82 9 (.slice (some ⟨w.heap.size, 0, none⟩) n n)).run Tryz.prog (w.alloc (.cells cs.toArray 5)) = .ok (.string (mk l)) (w.alloc (.cells cs.toArray 5)) := by
  have hl : l.length = n := by rw [← hn, h]; simp
  refine run_conv_string ?_
  unfold Byts
  rw [hl, ← h]
  exact slc_new w 1 n _ cs (by rw [hn]; simp) hm
theorem four_vals (n : Int) : [Value.int IntKind.u8 (n / 16777216 % 256), Value.int IntKind.u8 (n / 65536 % 256), Value.int IntKind.u8 (n / 256 % 256), Value.int IntKind.u8 (n % 256)] = (four n).map fun b : UInt8 => Value.int .u8 b.toNat := by
  unfold four
  simp only [List.map_cons, List.map_nil, byteOf_nat, Int.ediv_one]
/-- is a type known? -/
def knownB (t : Int) : Bool := decide (t = 1 ∨ t = 2 ∨ t = 5 ∨ t = 6 ∨ t = 12 ∨ t = 15 ∨ t = 16 ∨ t = 28 ∨ t = 33)

theorem within_any (n lo hi : Int) (w : World) : Calls Tryz.prog 84 #[.int .i64 n, .int .i64 lo, .int .i64 hi] w fun e w' => e = .returned (.bool (decide (lo ≤ n ∧ n ≤ hi))) ∧ w = w' := by
  by_cases h1 : lo ≤ n
  · by_cases h2 : n ≤ hi
    · have hr : Hid (decide (lo ≤ n ∧ n ≤ hi) = true) := Go.Lib.hid (decide_eq_true ⟨h1, h2⟩)
      go_enter Tryz.func84, Tryz.ntmps84
      go_wp2_with fail
      go_ret
      exact ⟨ret_bool (by first | omega | (simp; omega)), rfl⟩
    · have hr : Hid (decide (lo ≤ n ∧ n ≤ hi) = false) := Go.Lib.hid (decide_eq_false fun h => h2 h.2)
      go_enter Tryz.func84, Tryz.ntmps84
      go_wp2_with fail
      go_ret
      exact ⟨ret_bool (by first | omega | (simp; omega)), rfl⟩
  · have hr : Hid (decide (lo ≤ n ∧ n ≤ hi) = false) := Go.Lib.hid (decide_eq_false fun h => h1 h.1)
    go_enter Tryz.func84, Tryz.ntmps84
    go_wp2_with fail
    go_ret
    exact ⟨ret_bool (by first | omega | (simp; omega)), rfl⟩

set_option maxRecDepth 100000 in
set_option maxHeartbeats 2000000 in
theorem record_bytes_any (n : Int) (w : World) : Calls Tryz.prog 92 #[.int .i64 n] w fun e w' => e = .returned (.string (mk (four n))) ∧ Below w.heap.size w w' := by
  have hconv := run_conv_nw w 4 _ _ rfl (four_vals n) (by decide)
  generalize four n = l at *
  go_enter Tryz.func92, Tryz.ntmps92
  go_wp2_with fail
  go_ret
  exact ⟨rfl, (Below.refl _ _).alloc (Nat.le_refl _) _⟩
set_option maxRecDepth 100000 in
set_option maxHeartbeats 2000000 in
theorem freshetref1_four_any (n : Int) (w : World) : Calls Tryz.prog 75 #[.int .i64 n] w fun e w' => e = .returned (.string (mk (four n))) ∧ Below w.heap.size w w' := by
  have hconv := run_conv_nw w 4 _ _ rfl (four_vals n) (by decide)
  generalize four n = l at *
  go_enter Tryz.func75, Tryz.ntmps75
  go_wp2_with fail
  go_ret
  exact ⟨rfl, (Below.refl _ _).alloc (Nat.le_refl _) _⟩
end Go.Proofs.YtkpcmnckdappnaaGreat

/- The contract of record.Check. -/
namespace Go.Proofs.YtkpcmnckdappnaaGreat
open Go.RowKit
set_option linter.unusedVariables false

/-- may a record be? -/
def checkB (r : Rc.RR) : Bool := Nm.valid r.name && decide (1 ≤ r.ty ∧ r.ty ≤ 65535) && (r.ty != 41) && decide (0 ≤ r.cl ∧ r.cl ≤ 65535) && decide (0 ≤ r.ttl ∧ r.ttl ≤ 2147483647) && Rc.dataB r.ty r.data
set_option maxRecDepth 100000 in
set_option maxHeartbeats 4000000 in
theorem Check_a (rn rd : List UInt8) (ty cl tl : Int) (w : World)
    (HV : Hid (∀ W, Calls Tryz.prog 26 #[.string (mk rn)] W fun e w' => e = .returned (.bool false) ∧ W = w')) :
    Calls Tryz.prog 64 #[.agg #[.string (mk rn), .int .i64 ty, .int .i64 cl, .int .i64 tl, .string (mk rd)]] w fun e w' => e = .returned (.bool false) ∧ Below w.heap.size w w' := by
  have hH := World.alloc_heap_new w (.cells #[.string (mk rn), .int .i64 ty, .int .i64 cl, .int .i64 tl, .string (mk rd)] 43)
  have h0 : Below w.heap.size w (w.alloc (.cells #[.string (mk rn), .int .i64 ty, .int .i64 cl, .int .i64 tl, .string (mk rd)] 43)) := (Below.refl _ w).alloc (Nat.le_refl _) _
  have HH := Go.Lib.hid hH
  have H0 := Go.Lib.hid h0
  clear hH h0
  go_enter Tryz.func64, Tryz.ntmps64
  go_wp2_with fail
  generalize (w.alloc (.cells #[.string (mk rn), .int .i64 ty, .int .i64 cl, .int .i64 tl, .string (mk rd)] 43)) = X at *
  have hg := cell_of_heap HH.out
  have hlt := (Array.getElem?_eq_some_iff.1 HH.out).1
  have a0 : X.cell? ⟨w.heap.size, 0, none⟩ = some (.string (mk rn)) := hg 0
  have a1 : X.cell? ⟨w.heap.size, 1, none⟩ = some (.int .i64 ty) := hg 1
  have a2 : X.cell? ⟨w.heap.size, 2, none⟩ = some (.int .i64 cl) := hg 2
  have a3 : X.cell? ⟨w.heap.size, 3, none⟩ = some (.int .i64 tl) := hg 3
  have a4 : X.cell? ⟨w.heap.size, 4, none⟩ = some (.string (mk rd)) := hg 4
  clear hg hlt
  refine (HV.out _).mono ?_; rintro e _ ⟨rfl, rfl⟩
  go_wp2_with fail
  go_ret
  exact ⟨rfl, H0.out⟩

set_option maxRecDepth 100000 in
set_option maxHeartbeats 4000000 in
theorem Check_b (rn rd : List UInt8) (ty cl tl : Int) (w : World)
    (HV : Hid (∀ W, Calls Tryz.prog 26 #[.string (mk rn)] W fun e w' => e = .returned (.bool true) ∧ W = w'))
    (HT : Hid (∀ W, Calls Tryz.prog 84 #[.int .i64 ty, .int .i64 1, .int .i64 65535] W fun e w' => e = .returned (.bool false) ∧ W = w')) :
    Calls Tryz.prog 64 #[.agg #[.string (mk rn), .int .i64 ty, .int .i64 cl, .int .i64 tl, .string (mk rd)]] w fun e w' => e = .returned (.bool false) ∧ Below w.heap.size w w' := by
  have hH := World.alloc_heap_new w (.cells #[.string (mk rn), .int .i64 ty, .int .i64 cl, .int .i64 tl, .string (mk rd)] 43)
  have h0 : Below w.heap.size w (w.alloc (.cells #[.string (mk rn), .int .i64 ty, .int .i64 cl, .int .i64 tl, .string (mk rd)] 43)) := (Below.refl _ w).alloc (Nat.le_refl _) _
  have HH := Go.Lib.hid hH
  have H0 := Go.Lib.hid h0
  clear hH h0
  go_enter Tryz.func64, Tryz.ntmps64
  go_wp2_with fail
  generalize (w.alloc (.cells #[.string (mk rn), .int .i64 ty, .int .i64 cl, .int .i64 tl, .string (mk rd)] 43)) = X at *
  have hg := cell_of_heap HH.out
  have hlt := (Array.getElem?_eq_some_iff.1 HH.out).1
  have a0 : X.cell? ⟨w.heap.size, 0, none⟩ = some (.string (mk rn)) := hg 0
  have a1 : X.cell? ⟨w.heap.size, 1, none⟩ = some (.int .i64 ty) := hg 1
  have a2 : X.cell? ⟨w.heap.size, 2, none⟩ = some (.int .i64 cl) := hg 2
  have a3 : X.cell? ⟨w.heap.size, 3, none⟩ = some (.int .i64 tl) := hg 3
  have a4 : X.cell? ⟨w.heap.size, 4, none⟩ = some (.string (mk rd)) := hg 4
  clear hg hlt
  refine (HV.out _).mono ?_; rintro e _ ⟨rfl, rfl⟩
  go_wp2_with fail
  refine (HT.out _).mono ?_; rintro e _ ⟨rfl, rfl⟩
  go_wp2_with fail
  go_ret
  exact ⟨rfl, H0.out⟩

set_option maxRecDepth 100000 in
set_option maxHeartbeats 4000000 in
theorem Check_c (rn rd : List UInt8) (ty cl tl : Int) (w : World)
    (HV : Hid (∀ W, Calls Tryz.prog 26 #[.string (mk rn)] W fun e w' => e = .returned (.bool true) ∧ W = w'))
    (HT : Hid (∀ W, Calls Tryz.prog 84 #[.int .i64 ty, .int .i64 1, .int .i64 65535] W fun e w' => e = .returned (.bool true) ∧ W = w'))
    (h41 : (ty != 41) = false) :
    Calls Tryz.prog 64 #[.agg #[.string (mk rn), .int .i64 ty, .int .i64 cl, .int .i64 tl, .string (mk rd)]] w fun e w' => e = .returned (.bool false) ∧ Below w.heap.size w w' := by
  have hH := World.alloc_heap_new w (.cells #[.string (mk rn), .int .i64 ty, .int .i64 cl, .int .i64 tl, .string (mk rd)] 43)
  have h0 : Below w.heap.size w (w.alloc (.cells #[.string (mk rn), .int .i64 ty, .int .i64 cl, .int .i64 tl, .string (mk rd)] 43)) := (Below.refl _ w).alloc (Nat.le_refl _) _
  have HH := Go.Lib.hid hH
  have H0 := Go.Lib.hid h0
  clear hH h0
  go_enter Tryz.func64, Tryz.ntmps64
  go_wp2_with fail
  generalize (w.alloc (.cells #[.string (mk rn), .int .i64 ty, .int .i64 cl, .int .i64 tl, .string (mk rd)] 43)) = X at *
  have hg := cell_of_heap HH.out
  have hlt := (Array.getElem?_eq_some_iff.1 HH.out).1
  have a0 : X.cell? ⟨w.heap.size, 0, none⟩ = some (.string (mk rn)) := hg 0
  have a1 : X.cell? ⟨w.heap.size, 1, none⟩ = some (.int .i64 ty) := hg 1
  have a2 : X.cell? ⟨w.heap.size, 2, none⟩ = some (.int .i64 cl) := hg 2
  have a3 : X.cell? ⟨w.heap.size, 3, none⟩ = some (.int .i64 tl) := hg 3
  have a4 : X.cell? ⟨w.heap.size, 4, none⟩ = some (.string (mk rd)) := hg 4
  clear hg hlt
  refine (HV.out _).mono ?_; rintro e _ ⟨rfl, rfl⟩
  go_wp2_with fail
  refine (HT.out _).mono ?_; rintro e _ ⟨rfl, rfl⟩
  go_wp2_with fail
  go_ret
  exact ⟨rfl, H0.out⟩

set_option maxRecDepth 100000 in
set_option maxHeartbeats 4000000 in
theorem Check_d (rn rd : List UInt8) (ty cl tl : Int) (w : World)
    (HV : Hid (∀ W, Calls Tryz.prog 26 #[.string (mk rn)] W fun e w' => e = .returned (.bool true) ∧ W = w'))
    (HT : Hid (∀ W, Calls Tryz.prog 84 #[.int .i64 ty, .int .i64 1, .int .i64 65535] W fun e w' => e = .returned (.bool true) ∧ W = w'))
    (HC : Hid (∀ W, Calls Tryz.prog 84 #[.int .i64 cl, .int .i64 0, .int .i64 65535] W fun e w' => e = .returned (.bool false) ∧ W = w'))
    (h41 : (ty != 41) = true) :
    Calls Tryz.prog 64 #[.agg #[.string (mk rn), .int .i64 ty, .int .i64 cl, .int .i64 tl, .string (mk rd)]] w fun e w' => e = .returned (.bool false) ∧ Below w.heap.size w w' := by
  have hH := World.alloc_heap_new w (.cells #[.string (mk rn), .int .i64 ty, .int .i64 cl, .int .i64 tl, .string (mk rd)] 43)
  have h0 : Below w.heap.size w (w.alloc (.cells #[.string (mk rn), .int .i64 ty, .int .i64 cl, .int .i64 tl, .string (mk rd)] 43)) := (Below.refl _ w).alloc (Nat.le_refl _) _
  have HH := Go.Lib.hid hH
  have H0 := Go.Lib.hid h0
  clear hH h0
  go_enter Tryz.func64, Tryz.ntmps64
  go_wp2_with fail
  generalize (w.alloc (.cells #[.string (mk rn), .int .i64 ty, .int .i64 cl, .int .i64 tl, .string (mk rd)] 43)) = X at *
  have hg := cell_of_heap HH.out
  have hlt := (Array.getElem?_eq_some_iff.1 HH.out).1
  have a0 : X.cell? ⟨w.heap.size, 0, none⟩ = some (.string (mk rn)) := hg 0
  have a1 : X.cell? ⟨w.heap.size, 1, none⟩ = some (.int .i64 ty) := hg 1
  have a2 : X.cell? ⟨w.heap.size, 2, none⟩ = some (.int .i64 cl) := hg 2
  have a3 : X.cell? ⟨w.heap.size, 3, none⟩ = some (.int .i64 tl) := hg 3
  have a4 : X.cell? ⟨w.heap.size, 4, none⟩ = some (.string (mk rd)) := hg 4
  clear hg hlt
  refine (HV.out _).mono ?_; rintro e _ ⟨rfl, rfl⟩
  go_wp2_with fail
  refine (HT.out _).mono ?_; rintro e _ ⟨rfl, rfl⟩
  go_wp2_with fail
  refine (HC.out _).mono ?_; rintro e _ ⟨rfl, rfl⟩
  go_wp2_with fail
  go_ret
  exact ⟨rfl, H0.out⟩

set_option maxRecDepth 100000 in
set_option maxHeartbeats 4000000 in
theorem Check_e (rn rd : List UInt8) (ty cl tl : Int) (w : World)
    (HV : Hid (∀ W, Calls Tryz.prog 26 #[.string (mk rn)] W fun e w' => e = .returned (.bool true) ∧ W = w'))
    (HT : Hid (∀ W, Calls Tryz.prog 84 #[.int .i64 ty, .int .i64 1, .int .i64 65535] W fun e w' => e = .returned (.bool true) ∧ W = w'))
    (HC : Hid (∀ W, Calls Tryz.prog 84 #[.int .i64 cl, .int .i64 0, .int .i64 65535] W fun e w' => e = .returned (.bool true) ∧ W = w'))
    (HL : Hid (∀ W, Calls Tryz.prog 84 #[.int .i64 tl, .int .i64 0, .int .i64 2147483647] W fun e w' => e = .returned (.bool false) ∧ W = w'))
    (h41 : (ty != 41) = true) :
    Calls Tryz.prog 64 #[.agg #[.string (mk rn), .int .i64 ty, .int .i64 cl, .int .i64 tl, .string (mk rd)]] w fun e w' => e = .returned (.bool false) ∧ Below w.heap.size w w' := by
  have hH := World.alloc_heap_new w (.cells #[.string (mk rn), .int .i64 ty, .int .i64 cl, .int .i64 tl, .string (mk rd)] 43)
  have h0 : Below w.heap.size w (w.alloc (.cells #[.string (mk rn), .int .i64 ty, .int .i64 cl, .int .i64 tl, .string (mk rd)] 43)) := (Below.refl _ w).alloc (Nat.le_refl _) _
  have HH := Go.Lib.hid hH
  have H0 := Go.Lib.hid h0
  clear hH h0
  go_enter Tryz.func64, Tryz.ntmps64
  go_wp2_with fail
  generalize (w.alloc (.cells #[.string (mk rn), .int .i64 ty, .int .i64 cl, .int .i64 tl, .string (mk rd)] 43)) = X at *
  have hg := cell_of_heap HH.out
  have hlt := (Array.getElem?_eq_some_iff.1 HH.out).1
  have a0 : X.cell? ⟨w.heap.size, 0, none⟩ = some (.string (mk rn)) := hg 0
  have a1 : X.cell? ⟨w.heap.size, 1, none⟩ = some (.int .i64 ty) := hg 1
  have a2 : X.cell? ⟨w.heap.size, 2, none⟩ = some (.int .i64 cl) := hg 2
  have a3 : X.cell? ⟨w.heap.size, 3, none⟩ = some (.int .i64 tl) := hg 3
  have a4 : X.cell? ⟨w.heap.size, 4, none⟩ = some (.string (mk rd)) := hg 4
  clear hg hlt
  refine (HV.out _).mono ?_; rintro e _ ⟨rfl, rfl⟩
  go_wp2_with fail
  refine (HT.out _).mono ?_; rintro e _ ⟨rfl, rfl⟩
  go_wp2_with fail
  refine (HC.out _).mono ?_; rintro e _ ⟨rfl, rfl⟩
  go_wp2_with fail
  refine (HL.out _).mono ?_; rintro e _ ⟨rfl, rfl⟩
  go_wp2_with fail
  go_ret
  exact ⟨rfl, H0.out⟩

set_option maxRecDepth 100000 in
set_option maxHeartbeats 4000000 in
theorem Check_f (rn rd : List UInt8) (ty cl tl : Int) (res : Bool) (w : World)
    (HV : Hid (∀ W, Calls Tryz.prog 26 #[.string (mk rn)] W fun e w' => e = .returned (.bool true) ∧ W = w'))
    (HT : Hid (∀ W, Calls Tryz.prog 84 #[.int .i64 ty, .int .i64 1, .int .i64 65535] W fun e w' => e = .returned (.bool true) ∧ W = w'))
    (HC : Hid (∀ W, Calls Tryz.prog 84 #[.int .i64 cl, .int .i64 0, .int .i64 65535] W fun e w' => e = .returned (.bool true) ∧ W = w'))
    (HL : Hid (∀ W, Calls Tryz.prog 84 #[.int .i64 tl, .int .i64 0, .int .i64 2147483647] W fun e w' => e = .returned (.bool true) ∧ W = w'))
    (HD : Hid (∀ W, Calls Tryz.prog 85 #[.int .i64 ty, .string (mk rd)] W fun e w' => e = .returned (.bool res) ∧ Below W.heap.size W w'))
    (h41 : (ty != 41) = true) :
    Calls Tryz.prog 64 #[.agg #[.string (mk rn), .int .i64 ty, .int .i64 cl, .int .i64 tl, .string (mk rd)]] w fun e w' => e = .returned (.bool res) ∧ Below w.heap.size w w' := by
  have hH := World.alloc_heap_new w (.cells #[.string (mk rn), .int .i64 ty, .int .i64 cl, .int .i64 tl, .string (mk rd)] 43)
  have h0 : Below w.heap.size w (w.alloc (.cells #[.string (mk rn), .int .i64 ty, .int .i64 cl, .int .i64 tl, .string (mk rd)] 43)) := (Below.refl _ w).alloc (Nat.le_refl _) _
  have HH := Go.Lib.hid hH
  have H0 := Go.Lib.hid h0
  clear hH h0
  go_enter Tryz.func64, Tryz.ntmps64
  go_wp2_with fail
  generalize (w.alloc (.cells #[.string (mk rn), .int .i64 ty, .int .i64 cl, .int .i64 tl, .string (mk rd)] 43)) = X at *
  have hg := cell_of_heap HH.out
  have hlt := (Array.getElem?_eq_some_iff.1 HH.out).1
  have a0 : X.cell? ⟨w.heap.size, 0, none⟩ = some (.string (mk rn)) := hg 0
  have a1 : X.cell? ⟨w.heap.size, 1, none⟩ = some (.int .i64 ty) := hg 1
  have a2 : X.cell? ⟨w.heap.size, 2, none⟩ = some (.int .i64 cl) := hg 2
  have a3 : X.cell? ⟨w.heap.size, 3, none⟩ = some (.int .i64 tl) := hg 3
  have a4 : X.cell? ⟨w.heap.size, 4, none⟩ = some (.string (mk rd)) := hg 4
  clear hg hlt
  refine (HV.out _).mono ?_; rintro e _ ⟨rfl, rfl⟩
  go_wp2_with fail
  refine (HT.out _).mono ?_; rintro e _ ⟨rfl, rfl⟩
  go_wp2_with fail
  refine (HC.out _).mono ?_; rintro e _ ⟨rfl, rfl⟩
  go_wp2_with fail
  refine (HL.out _).mono ?_; rintro e _ ⟨rfl, rfl⟩
  go_wp2_with fail
  refine (HD.out _).mono ?_; rintro e X2 ⟨rfl, hx⟩
  have HX2 := Go.Lib.hid hx
  clear hx
  go_wp2_with fail
  go_ret
  exact ⟨rfl, H0.out.trans (HX2.out.mono H0.out.size)⟩

theorem Check_any (r : Rc.RR) (w : World) (hr : RROk r) : Calls Tryz.prog 64 #[rrV r] w fun e w' => e = .returned (.bool (checkB r)) ∧ Below w.heap.size w w' := by
  obtain ⟨rn, ty, cl, tl, rd⟩ := r
  obtain ⟨h1, h2⟩ := hr
  simp only at h1 h2
  have hv := fun (b : Bool) (h : Nm.valid rn = b) => Go.Lib.hid fun (W : World) => (valid_any (mk rn) W (by rw [size_mk]; exact h1)).mono fun e w' hh => (⟨hh.1.trans (by rw [bl_mk, h]), hh.2⟩ : e = .returned (.bool b) ∧ W = w')
  have hw := fun (n lo hi : Int) (b : Bool) (h : decide (lo ≤ n ∧ n ≤ hi) = b) => Go.Lib.hid fun (W : World) => (within_any n lo hi W).mono fun e w' hh => (⟨hh.1.trans (by rw [h]), hh.2⟩ : e = .returned (.bool b) ∧ W = w')
  have hd := Go.Lib.hid fun (W : World) => Data_any ty (mk rd) W (by rw [size_mk]; exact h2)
  rw [bl_mk] at hd
  have hc : checkB ⟨rn, ty, cl, tl, rd⟩ = (Nm.valid rn && decide (1 ≤ ty ∧ ty ≤ 65535) && (ty != 41) && decide (0 ≤ cl ∧ cl ≤ 65535) && decide (0 ≤ tl ∧ tl ≤ 2147483647) && Rc.dataB ty rd) := rfl
  rw [hc]
  cases e1 : Nm.valid rn with
  | false => exact Check_a rn rd ty cl tl w (hv _ e1)
  | true =>
    cases e2 : decide (1 ≤ ty ∧ ty ≤ 65535) with
    | false => exact Check_b rn rd ty cl tl w (hv _ e1) (hw _ _ _ _ e2)
    | true =>
      cases e3 : (ty != 41) with
      | false => exact Check_c rn rd ty cl tl w (hv _ e1) (hw _ _ _ _ e2) e3
      | true =>
        cases e4 : decide (0 ≤ cl ∧ cl ≤ 65535) with
        | false => exact Check_d rn rd ty cl tl w (hv _ e1) (hw _ _ _ _ e2) (hw _ _ _ _ e4) e3
        | true =>
          cases e5 : decide (0 ≤ tl ∧ tl ≤ 2147483647) with
          | false => exact Check_e rn rd ty cl tl w (hv _ e1) (hw _ _ _ _ e2) (hw _ _ _ _ e4) (hw _ _ _ _ e5) e3
          | true => exact Check_f rn rd ty cl tl _ w (hv _ e1) (hw _ _ _ _ e2) (hw _ _ _ _ e4) (hw _ _ _ _ e5) hd e3
end Go.Proofs.YtkpcmnckdappnaaGreat

/- The contracts of record.Addr. -/
namespace Go.Proofs.YtkpcmnckdappnaaGreat
open Go.RowKit
set_option linter.unusedVariables false

/-- what an address is told as -/
def addrV (ty : Int) (d : List UInt8) : Value := if ty = 1 ∧ d.length = 4 then .tuple #[.int .i64 (num4 (d.getD 0 0) (d.getD 1 0) (d.getD 2 0) (d.getD 3 0)), .bool true] else .tuple #[.int .i64 0, .bool false]
theorem four_of {d : List UInt8} (h : d.length = 4) : ∃ a b c e, d = [a, b, c, e] := by
  match d, h with
  | [a, b, c, e], _ => exact ⟨a, b, c, e, rfl⟩
end Go.Proofs.YtkpcmnckdappnaaGreat

/- The contracts of record.made, MakeA. -/
namespace Go.Proofs.YtkpcmnckdappnaaGreat
open Go.RowKit
set_option linter.unusedVariables false

/-- no record -/
def rZ : Rc.RR := ⟨[], 0, 0, 0, []⟩
theorem undRR : ∃ fs, Tryz.prog.underlying 43 = some (.struct fs) := ⟨_, Tryz.underlying43⟩
theorem infoR5 : (Tryz.prog.info? 43).map (·.size) = some 5 := by kernel_rfl
theorem ret_rr {fn : Func} {p : Tmp} {a : Act} {W : World} {R : Ending → World → Prop} {r : Rc.RR} {g : Nat} (hr : fn.results = #[.cell p 43]) (hp : a.tmps.getD p undef = .pointer (some ⟨g, 0, none⟩)) (hd : a.defers = [])
    (hg : W.heap[g]? = some (.cells (rrC r) 43 (0, 0))) (h : R (.returned (rrV r)) W) : bodyPost Tryz.prog fn R Exit.ret a W := by
  obtain ⟨fs, hu⟩ := undRR
  exact bodyPost_ret (results_cell_row hr _ _ g _ _ (0, 0) _ hp hg hu rfl infoR5) hd h
def madeN (r : Rc.RR) : Rc.RR := if checkB r then r else rZ
set_option maxRecDepth 100000 in
set_option maxHeartbeats 4000000 in
theorem made_any (n d : List UInt8) (t ttl : Int) (w : World) (hn : n.length ≤ maxLen) (hd : d.length ≤ maxLen) :
    Calls Tryz.prog 91 #[.string (mk n), .int .i64 t, .int .i64 ttl, .string (mk d)] w fun e w' => e = .returned (rrV (madeN ⟨n, t, 1, ttl, d⟩)) ∧ Below w.heap.size w w' := by
  have hc := Check_any ⟨n, t, 1, ttl, d⟩
  have hch := fun W => hc W ⟨hn, hd⟩
  clear hc
  have hm : madeN ⟨n, t, 1, ttl, d⟩ = if checkB ⟨n, t, 1, ttl, d⟩ then ⟨n, t, 1, ttl, d⟩ else rZ := rfl
  generalize checkB ⟨n, t, 1, ttl, d⟩ = cb at *
  have HCH := Go.Lib.hid hch
  have HM := Go.Lib.hid hm
  clear hch hm
  go_enter Tryz.func91, Tryz.ntmps91
  go_wp2_with fail
  obtain ⟨hZ, hR⟩ := two_boxes w (rrC rZ) (rrC ⟨n, t, 1, ttl, d⟩) 43
  have hb0 : Below w.heap.size w ((w.alloc (.cells (rrC rZ) 43)).alloc (.cells (rrC ⟨n, t, 1, ttl, d⟩) 43)) := ((Below.refl _ w).alloc (Nat.le_refl _) _).alloc (by simp) _
  change Calls _ _ _ ((w.alloc (.cells (rrC rZ) 43)).alloc (.cells (rrC ⟨n, t, 1, ttl, d⟩) 43)) _
  generalize (w.alloc (.cells (rrC rZ) 43)).alloc (.cells (rrC ⟨n, t, 1, ttl, d⟩) 43) = X at *
  refine (HCH.out _).mono ?_; rintro e X1 ⟨rfl, hx⟩
  have hZ1 := (hx.block _ (Array.getElem?_eq_some_iff.1 hZ).1).trans hZ
  have hR1 := (hx.block _ (Array.getElem?_eq_some_iff.1 hR).1).trans hR
  have hb1 := hb0.trans (hx.mono hb0.size)
  have hg := cell_of_heap hR1
  have c0 : X1.cell? ⟨w.heap.size + 1, 0, none⟩ = some (.string (mk n)) := hg 0
  have c1 : X1.cell? ⟨w.heap.size + 1, 1, none⟩ = some (.int .i64 t) := hg 1
  have c2 : X1.cell? ⟨w.heap.size + 1, 2, none⟩ = some (.int .i64 1) := hg 2
  have c3 : X1.cell? ⟨w.heap.size + 1, 3, none⟩ = some (.int .i64 ttl) := hg 3
  have c4 : X1.cell? ⟨w.heap.size + 1, 4, none⟩ = some (.string (mk d)) := hg 4
  have hone1 : (rrC rZ).all (·.oneCell') = true := by simp [rrC, Value.oneCell']
  have hone2 : (rrC ⟨n, t, 1, ttl, d⟩).all (·.oneCell') = true := by simp [rrC, Value.oneCell']
  have HZ := Go.Lib.hid hZ1
  have HB := Go.Lib.hid hb1
  have HONE1 := Go.Lib.hid hone1
  have HONE2 := Go.Lib.hid hone2
  clear hZ1 hb1 hone1 hone2
  clear hg hx hZ hR hR1 hb0
  cases cb with
  | false =>
    go_wp2_with (refine wpList_store_row rfl 43 (.tmp 8) (.tmp 18) rfl w.heap.size (rrC rZ) rfl rfl _ _ HZ.out infoR5 rfl HONE1.out ?_)
    refine ret_rr (r := rZ) rfl rfl rfl (setRow_heap X1 w.heap.size _ (rrC rZ) _ _ HZ.out) ⟨by rw [HM.out]; rfl, below_setRow HB.out (Nat.le_refl _) _⟩
  | true =>
    go_wp2_with (refine wpList_store_row rfl 43 (.tmp 8) (.tmp 19) rfl w.heap.size (rrC ⟨n, t, 1, ttl, d⟩) rfl rfl _ _ HZ.out infoR5 rfl HONE2.out ?_)
    refine ret_rr (r := ⟨n, t, 1, ttl, d⟩) rfl rfl rfl (setRow_heap X1 w.heap.size _ (rrC ⟨n, t, 1, ttl, d⟩) _ _ HZ.out) ⟨by rw [HM.out]; rfl, below_setRow HB.out (Nat.le_refl _) _⟩
end Go.Proofs.YtkpcmnckdappnaaGreat

/- The contract of record.MakeA. -/
namespace Go.Proofs.YtkpcmnckdappnaaGreat
open Go.RowKit
set_option linter.unusedVariables false

def makeAN (n : List UInt8) (ttl x : Int) : Rc.RR := if 0 ≤ x ∧ x ≤ 4294967295 then madeN ⟨n, 1, 1, ttl, four x⟩ else rZ
theorem one_rrC (r : Rc.RR) : (rrC r).all (·.oneCell') = true := by simp [rrC, Value.oneCell']
set_option maxRecDepth 100000 in
set_option maxHeartbeats 4000000 in
theorem MakeA_any (n : List UInt8) (ttl x : Int) (w : World) (hn : n.length ≤ maxLen) :
    Calls Tryz.prog 69 #[.string (mk n), .int .i64 ttl, .int .i64 x] w fun e w' => e = .returned (rrV (makeAN n ttl x)) ∧ Below w.heap.size w w' := by
  have hw := within_any x 0 4294967295
  have hmd := fun W => made_any n (four x) 1 ttl W hn (by simp [four, maxLen])
  have hby := record_bytes_any x
  have hZ := World.alloc_heap_new w (.cells (rrC rZ) 43)
  have hb0 : Below w.heap.size w (w.alloc (.cells (rrC rZ) 43)) := (Below.refl _ w).alloc (Nat.le_refl _) _
  by_cases hx : 0 ≤ x ∧ x ≤ 4294967295
  · have hm : makeAN n ttl x = madeN ⟨n, 1, 1, ttl, four x⟩ := if_pos hx
    rw [decide_eq_true hx] at hw
    generalize madeN ⟨n, 1, 1, ttl, four x⟩ = res at *
    generalize four x = l at *
    have hone := one_rrC res
    have HW := Go.Lib.hid hw
    have HMD := Go.Lib.hid hmd
    have HBY := Go.Lib.hid hby
    have HM := Go.Lib.hid hm
    have HONE := Go.Lib.hid hone
    clear hw hmd hby hm hone
    clear hx
    go_enter Tryz.func69, Tryz.ntmps69
    go_wp2_with fail
    change Calls _ _ _ (w.alloc (.cells (rrC rZ) 43)) _
    generalize w.alloc (.cells (rrC rZ) 43) = X at *
    refine (HW.out _).mono ?_; rintro e _ ⟨rfl, rfl⟩
    have HZ := Go.Lib.hid hZ
    have HB0 := Go.Lib.hid hb0
    clear hZ hb0
    go_wp2_with fail
    refine (HBY.out _).mono ?_; rintro e X1 ⟨rfl, hx1⟩
    have HX1 := Go.Lib.hid hx1
    clear hx1
    go_wp2_with fail
    refine (HMD.out _).mono ?_; rintro e X2 ⟨rfl, hx2⟩
    have hb := HB0.out.trans (((HX1.out).trans (hx2.mono HX1.out.size)).mono HB0.out.size)
    have hZ2 := ((HX1.out.trans (hx2.mono HX1.out.size)).block _ (Array.getElem?_eq_some_iff.1 HZ.out).1).trans HZ.out
    have HB := Go.Lib.hid hb
    have HZ2 := Go.Lib.hid hZ2
    clear hb hZ2
    clear hx2
    go_wp2_with (refine wpList_store_row rfl 43 (.tmp 6) (.tmp 15) rfl w.heap.size (rrC res) rfl rfl _ _ HZ2.out infoR5 rfl HONE.out ?_)
    refine ret_rr (r := res) rfl rfl rfl (setRow_heap X2 w.heap.size _ (rrC res) _ _ HZ2.out) ⟨by rw [HM.out], below_setRow HB.out (Nat.le_refl _) _⟩
  · have hm : makeAN n ttl x = rZ := if_neg hx
    rw [decide_eq_false hx] at hw
    have hone := one_rrC rZ
    have HW := Go.Lib.hid hw
    have HM := Go.Lib.hid hm
    have HONE := Go.Lib.hid hone
    clear hw hm hone
    clear hx hmd hby
    go_enter Tryz.func69, Tryz.ntmps69
    go_wp2_with fail
    change Calls _ _ _ (w.alloc (.cells (rrC rZ) 43)) _
    generalize w.alloc (.cells (rrC rZ) 43) = X at *
    refine (HW.out _).mono ?_; rintro e _ ⟨rfl, rfl⟩
    have HZ := Go.Lib.hid hZ
    have HB0 := Go.Lib.hid hb0
    clear hZ hb0
    go_wp2_with (refine wpList_store_row rfl 43 (.tmp 6) (.tmp 10) rfl w.heap.size (rrC rZ) rfl rfl _ _ HZ.out infoR5 rfl HONE.out ?_)
    refine ret_rr (r := rZ) rfl rfl rfl (setRow_heap X w.heap.size _ (rrC rZ) _ _ HZ.out) ⟨by rw [HM.out], below_setRow HB0.out (Nat.le_refl _) _⟩
end Go.Proofs.YtkpcmnckdappnaaGreat

/- The contract of record.MakeName. -/
namespace Go.Proofs.YtkpcmnckdappnaaGreat
open Go.RowKit
set_option linter.unusedVariables false

def makeNN (n : List UInt8) (t ttl : Int) (to : List UInt8) : Rc.RR := if t = 2 ∨ t = 5 ∨ t = 12 then madeN ⟨n, t, 1, ttl, to⟩ else rZ
set_option maxRecDepth 100000 in
set_option maxHeartbeats 4000000 in
theorem MakeName_any (n : List UInt8) (t ttl : Int) (to : List UInt8) (w : World) (hn : n.length ≤ maxLen) (ht : to.length ≤ maxLen) :
    Calls Tryz.prog 88 #[.string (mk n), .int .i64 t, .int .i64 ttl, .string (mk to)] w fun e w' => e = .returned (rrV (makeNN n t ttl to)) ∧ Below w.heap.size w w' := by
  have hmd := fun W => made_any n to t ttl W hn ht
  have hZ := World.alloc_heap_new w (.cells (rrC rZ) 43)
  have hb0 : Below w.heap.size w (w.alloc (.cells (rrC rZ) 43)) := (Below.refl _ w).alloc (Nat.le_refl _) _
  by_cases hx : t = 2 ∨ t = 5 ∨ t = 12
  · have hm : makeNN n t ttl to = madeN ⟨n, t, 1, ttl, to⟩ := if_pos hx
    generalize madeN ⟨n, t, 1, ttl, to⟩ = res at *
    have hone := one_rrC res
    have HMD := Go.Lib.hid hmd
    have HM := Go.Lib.hid hm
    have HONE := Go.Lib.hid hone
    have HZ := Go.Lib.hid hZ
    have HB0 := Go.Lib.hid hb0
    clear hmd hm hone hZ hb0
    rcases hx with rfl | rfl | rfl
    all_goals
      go_enter Tryz.func88, Tryz.ntmps88
      go_wp2_with fail
      change Calls _ _ _ (w.alloc (.cells (rrC rZ) 43)) _
      generalize w.alloc (.cells (rrC rZ) 43) = X at *
      refine (HMD.out _).mono ?_; rintro e X2 ⟨rfl, hx2⟩
      have hb := HB0.out.trans (hx2.mono HB0.out.size)
      have hZ2 := (hx2.block _ (Array.getElem?_eq_some_iff.1 HZ.out).1).trans HZ.out
      have HB := Go.Lib.hid hb
      have HZ2 := Go.Lib.hid hZ2
      clear hx2 hb hZ2
      go_wp2_with (refine wpList_store_row rfl 43 (.tmp 8) (.tmp 24) rfl w.heap.size (rrC res) rfl rfl _ _ HZ2.out infoR5 rfl HONE.out ?_)
      refine ret_rr (r := res) rfl rfl rfl (setRow_heap X2 w.heap.size _ (rrC res) _ _ HZ2.out) ⟨by rw [HM.out], below_setRow HB.out (Nat.le_refl _) _⟩
  · have hm : makeNN n t ttl to = rZ := if_neg hx
    have e1 : (t != 2) = true := by simp; omega
    have e2 : (t != 5) = true := by simp; omega
    have e3 : (t != 12) = true := by simp; omega
    have hone := one_rrC rZ
    have HM := Go.Lib.hid hm
    have HONE := Go.Lib.hid hone
    have HZ := Go.Lib.hid hZ
    have HB0 := Go.Lib.hid hb0
    clear hm hone hZ hb0
    clear hx hmd
    go_enter Tryz.func88, Tryz.ntmps88
    go_wp2_with (refine wpList_store_row rfl 43 (.tmp 8) (.tmp 19) rfl w.heap.size (rrC rZ) rfl rfl _ _ HZ.out infoR5 rfl HONE.out ?_)
    refine ret_rr (r := rZ) rfl rfl rfl (setRow_heap (w.alloc (.cells (rrC rZ) 43)) w.heap.size _ (rrC rZ) _ _ HZ.out) ⟨by rw [HM.out], below_setRow HB0.out (Nat.le_refl _) _⟩
end Go.Proofs.YtkpcmnckdappnaaGreat

/- The contract of record.MakeSOA. -/
namespace Go.Proofs.YtkpcmnckdappnaaGreat
open Go.RowKit
set_option linter.unusedVariables false

/-- a SOA's data -/
def soaD (n : List UInt8) (x y : Int) : List UInt8 := n ++ ([0] ++ (four x ++ (four 1 ++ (four 2 ++ (four 3 ++ four y)))))
def makeSN (n : List UInt8) (ttl x y : Int) : Rc.RR := if (0 ≤ x ∧ x ≤ 4294967295) ∧ 0 ≤ y ∧ y ≤ 4294967295 then madeN ⟨n, 6, 1, ttl, soaD n x y⟩ else rZ
theorem four_length (x : Int) : (four x).length = 4 := rfl
theorem mk_app (a b : List UInt8) : mk a ++ mk b = mk (a ++ b) := by apply bl_inj; rw [bl_append, bl_mk, bl_mk, bl_mk]
set_option maxRecDepth 100000 in
set_option maxHeartbeats 4000000 in
theorem MakeSOA_any (n : List UInt8) (ttl x y : Int) (w : World) (hn : n.length ≤ 1000) :
    Calls Tryz.prog 94 #[.string (mk n), .int .i64 ttl, .int .i64 x, .int .i64 y] w fun e w' => e = .returned (rrV (makeSN n ttl x y)) ∧ Below w.heap.size w w' := by
  have hwx := within_any x 0 4294967295
  have hwy := within_any y 0 4294967295
  have hmd := fun W => made_any n (soaD n x y) 6 ttl W (by unfold maxLen; omega) (by simp [soaD, four_length, maxLen]; omega)
  have hbx := record_bytes_any x
  have hby := record_bytes_any y
  have hb1 := record_bytes_any 1
  have hb2 := record_bytes_any 2
  have hb3 := record_bytes_any 3
  have hZ := World.alloc_heap_new w (.cells (rrC rZ) 43)
  have hb0 : Below w.heap.size w (w.alloc (.cells (rrC rZ) 43)) := (Below.refl _ w).alloc (Nat.le_refl _) _
  by_cases hx : 0 ≤ x ∧ x ≤ 4294967295
  · by_cases hy : 0 ≤ y ∧ y ≤ 4294967295
    · have hm : makeSN n ttl x y = madeN ⟨n, 6, 1, ttl, soaD n x y⟩ := if_pos ⟨hx, hy⟩
      rw [decide_eq_true hx] at hwx
      rw [decide_eq_true hy] at hwy
      have hone := one_rrC (madeN ⟨n, 6, 1, ttl, soaD n x y⟩)
      generalize madeN ⟨n, 6, 1, ttl, soaD n x y⟩ = res at *
      have s1 : mk n ++ ⟨#[0]⟩ = mk (n ++ [0]) := mk_app n [0]
      have s2 : mk (n ++ [0]) ++ mk (four x) = mk (n ++ [0] ++ four x) := mk_app _ _
      have s3 : mk (n ++ [0] ++ four x) ++ mk (four 1) = mk (n ++ [0] ++ four x ++ four 1) := mk_app _ _
      have s4 : mk (n ++ [0] ++ four x ++ four 1) ++ mk (four 2) = mk (n ++ [0] ++ four x ++ four 1 ++ four 2) := mk_app _ _
      have s5 : mk (n ++ [0] ++ four x ++ four 1 ++ four 2) ++ mk (four 3) = mk (n ++ [0] ++ four x ++ four 1 ++ four 2 ++ four 3) := mk_app _ _
      have s6 : mk (n ++ [0] ++ four x ++ four 1 ++ four 2 ++ four 3) ++ mk (four y) = mk (soaD n x y) := by rw [mk_app]; unfold soaD; simp
      have z0 : (mk n).size = n.length := size_mk _
      have z1 : (mk (n ++ [0])).size = n.length + 1 := by rw [size_mk]; simp
      have z2 : (mk (n ++ [0] ++ four x)).size = n.length + 5 := by rw [size_mk]; simp [four_length]
      have z3 : (mk (n ++ [0] ++ four x ++ four 1)).size = n.length + 9 := by rw [size_mk]; simp [four_length]
      have z4 : (mk (n ++ [0] ++ four x ++ four 1 ++ four 2)).size = n.length + 13 := by rw [size_mk]; simp [four_length]
      have z5 : (mk (n ++ [0] ++ four x ++ four 1 ++ four 2 ++ four 3)).size = n.length + 17 := by rw [size_mk]; simp [four_length]
      have y1 : (mk (four x)).size = 4 := by rw [size_mk]; rfl
      have y2 : (mk (four 1)).size = 4 := by rw [size_mk]; rfl
      have y3 : (mk (four 2)).size = 4 := by rw [size_mk]; rfl
      have y4 : (mk (four 3)).size = 4 := by rw [size_mk]; rfl
      have y5 : (mk (four y)).size = 4 := by rw [size_mk]; rfl
      generalize mk (soaD n x y) = d6 at *
      generalize mk (n ++ [0] ++ four x ++ four 1 ++ four 2 ++ four 3) = d5 at *
      generalize mk (n ++ [0] ++ four x ++ four 1 ++ four 2) = d4 at *
      generalize mk (n ++ [0] ++ four x ++ four 1) = d3 at *
      generalize mk (n ++ [0] ++ four x) = d2 at *
      generalize mk (n ++ [0]) = d1 at *
      generalize mk (four x) = fx at *
      generalize mk (four y) = fy at *
      generalize mk (four 1) = f1 at *
      generalize mk (four 2) = f2 at *
      generalize mk (four 3) = f3 at *
      generalize mk n = sn at *
      generalize n.length = N at *
      have q0 : ¬ 9223372036854775807 < N + 1 := by omega
      have q1 : ¬ 9223372036854775807 < N + 1 + 4 := by omega
      have q2 : ¬ 9223372036854775807 < N + 5 + 4 := by omega
      have q3 : ¬ 9223372036854775807 < N + 9 + 4 := by omega
      have q4 : ¬ 9223372036854775807 < N + 13 + 4 := by omega
      have q5 : ¬ 9223372036854775807 < N + 17 + 4 := by omega
      have HWX := Go.Lib.hid hwx
      have HWY := Go.Lib.hid hwy
      have HMD := Go.Lib.hid hmd
      have HBX := Go.Lib.hid hbx
      have HBY := Go.Lib.hid hby
      have HB1 := Go.Lib.hid hb1
      have HB2 := Go.Lib.hid hb2
      have HB3 := Go.Lib.hid hb3
      have HM := Go.Lib.hid hm
      have HONE := Go.Lib.hid hone
      clear hwx hwy hmd hbx hby hb1 hb2 hb3 hm hone
      clear hx hy
      go_enter Tryz.func94, Tryz.ntmps94
      go_wp2_with fail
      change Calls _ _ _ (w.alloc (.cells (rrC rZ) 43)) _
      generalize w.alloc (.cells (rrC rZ) 43) = X at *
      refine (HWX.out _).mono ?_; rintro e _ ⟨rfl, rfl⟩
      have HB := Go.Lib.hid (Below.refl X.heap.size X)
      have HZ := Go.Lib.hid hZ
      have HB0 := Go.Lib.hid hb0
      clear hZ hb0
      go_wp2_with fail
      refine (HWY.out _).mono ?_; rintro e _ ⟨rfl, rfl⟩
      go_wp2_with fail
      refine (HBX.out _).mono ?_; rintro e wb1 ⟨rfl, hx⟩
      have hb := HB.out.trans (hx.mono HB.out.size)
      clear HB
      have HB := Go.Lib.hid hb
      clear hx hb
      go_wp2_with fail
      refine (HB1.out _).mono ?_; rintro e wb2 ⟨rfl, hx⟩
      have hb := HB.out.trans (hx.mono HB.out.size)
      clear HB
      have HB := Go.Lib.hid hb
      clear hx hb
      go_wp2_with fail
      refine (HB2.out _).mono ?_; rintro e wb3 ⟨rfl, hx⟩
      have hb := HB.out.trans (hx.mono HB.out.size)
      clear HB
      have HB := Go.Lib.hid hb
      clear hx hb
      go_wp2_with fail
      refine (HB3.out _).mono ?_; rintro e wb4 ⟨rfl, hx⟩
      have hb := HB.out.trans (hx.mono HB.out.size)
      clear HB
      have HB := Go.Lib.hid hb
      clear hx hb
      go_wp2_with fail
      refine (HBY.out _).mono ?_; rintro e wb5 ⟨rfl, hx⟩
      have hb := HB.out.trans (hx.mono HB.out.size)
      clear HB
      have HB := Go.Lib.hid hb
      clear hx hb
      go_wp2_with fail
      refine (HMD.out _).mono ?_; rintro e X2 ⟨rfl, hx2⟩
      have hbx := HB.out.trans (hx2.mono HB.out.size)
      have hb := HB0.out.trans (hbx.mono HB0.out.size)
      have hZ2 := (hbx.block _ (Array.getElem?_eq_some_iff.1 HZ.out).1).trans HZ.out
      clear HB
      have HB := Go.Lib.hid hb
      have HZ2 := Go.Lib.hid hZ2
      clear hb hZ2
      clear hx2 hbx
      go_wp2_with (refine wpList_store_row rfl 43 (.tmp 8) (.tmp 34) rfl w.heap.size (rrC res) rfl rfl _ _ HZ2.out infoR5 rfl HONE.out ?_)
      refine ret_rr (r := res) rfl rfl rfl (setRow_heap X2 w.heap.size _ (rrC res) _ _ HZ2.out) ⟨by rw [HM.out], below_setRow HB.out (Nat.le_refl _) _⟩
    · have hm : makeSN n ttl x y = rZ := if_neg (fun h => hy h.2)
      rw [decide_eq_true hx] at hwx
      rw [decide_eq_false hy] at hwy
      have hone := one_rrC rZ
      have HWX := Go.Lib.hid hwx
      have HWY := Go.Lib.hid hwy
      have HM := Go.Lib.hid hm
      have HONE := Go.Lib.hid hone
      clear hwx hwy hm hone
      clear hx hy hmd hbx hby hb1 hb2 hb3
      go_enter Tryz.func94, Tryz.ntmps94
      go_wp2_with fail
      change Calls _ _ _ (w.alloc (.cells (rrC rZ) 43)) _
      generalize w.alloc (.cells (rrC rZ) 43) = X at *
      refine (HWX.out _).mono ?_; rintro e _ ⟨rfl, rfl⟩
      have HZ := Go.Lib.hid hZ
      have HB0 := Go.Lib.hid hb0
      clear hZ hb0
      go_wp2_with fail
      refine (HWY.out _).mono ?_; rintro e _ ⟨rfl, rfl⟩
      go_wp2_with (refine wpList_store_row rfl 43 (.tmp 8) (.tmp 17) rfl w.heap.size (rrC rZ) rfl rfl _ _ HZ.out infoR5 rfl HONE.out ?_)
      refine ret_rr (r := rZ) rfl rfl rfl (setRow_heap X w.heap.size _ (rrC rZ) _ _ HZ.out) ⟨by rw [HM.out], below_setRow HB0.out (Nat.le_refl _) _⟩
  · have hm : makeSN n ttl x y = rZ := if_neg (fun h => hx h.1)
    rw [decide_eq_false hx] at hwx
    have hone := one_rrC rZ
    have HWX := Go.Lib.hid hwx
    have HM := Go.Lib.hid hm
    have HONE := Go.Lib.hid hone
    clear hwx hm hone
    clear hx hmd hbx hby hb1 hb2 hb3 hwy
    go_enter Tryz.func94, Tryz.ntmps94
    go_wp2_with fail
    change Calls _ _ _ (w.alloc (.cells (rrC rZ) 43)) _
    generalize w.alloc (.cells (rrC rZ) 43) = X at *
    refine (HWX.out _).mono ?_; rintro e _ ⟨rfl, rfl⟩
    have HZ := Go.Lib.hid hZ
    have HB0 := Go.Lib.hid hb0
    clear hZ hb0
    go_wp2_with (refine wpList_store_row rfl 43 (.tmp 8) (.tmp 17) rfl w.heap.size (rrC rZ) rfl rfl _ _ HZ.out infoR5 rfl HONE.out ?_)
    refine ret_rr (r := rZ) rfl rfl rfl (setRow_heap X w.heap.size _ (rrC rZ) _ _ HZ.out) ⟨by rw [HM.out], below_setRow HB0.out (Nat.le_refl _) _⟩
end Go.Proofs.YtkpcmnckdappnaaGreat

/- The contract of record.Target. -/
namespace Go.Proofs.YtkpcmnckdappnaaGreat
open Go.RowKit Go.Shelf Go.Sq
set_option linter.unusedVariables false

attribute [local go_sem] Oper.semAt_some

theorem results_boxes2 {fn : Func} {p q : Tmp} {t u : TypeId} (h : fn.results = #[.cell p t, .cell q u]) (tmps : Array Value) (w : World) (a b : Nat) (x y : Value) {T U : TypeId}
    (hp : tmps.getD p undef = .pointer (some ⟨a, 0, none⟩)) (hq : tmps.getD q undef = .pointer (some ⟨b, 0, none⟩)) (hx : Boxed w a T x) (hy : Boxed w b U y)
    (ht : ∀ w, (isAgg t).run Tryz.prog w = .ok false w) (hu : ∀ w, (isAgg u).run Tryz.prog w = .ok false w) : (results fn tmps).run Tryz.prog w = .ok (.tuple #[x, y]) w := by
  have hp' : tmps[p]?.getD undef = .pointer (some ⟨a, 0, none⟩) := by simpa using hp
  have hq' : tmps[q]?.getD undef = .pointer (some ⟨b, 0, none⟩) := by simpa using hq
  have hx' := hx.cell
  have hy' := hy.cell
  simp [results, h, hp', hq', asAddr, loadVar, load, Sem.run_bind, ht, hu, Result.andThen, go_sem]
  simp [Sem.run, hx', hy']

theorem boxed_put {W : World} {B D : Nat} {t : TypeId} {v : Value} (h : Boxed W B t v) (hne : B ≠ D) (o : Obj) : Boxed (W.putObj D o) B t v := (World.putObj_heap_other hne).trans h
/-- what a target is told as -/
def targP (ty : Int) (d : List UInt8) : List UInt8 × Bool := if ty = 6 then ([], false) else match (Rc.partsN ty d).getD [] with
  | [] => ([], false)
  | x :: _ => ((d.drop x.1).take x.2, true)
def targV (ty : Int) (d : List UInt8) : Value := .tuple #[.string (mk (targP ty d).1), .bool (targP ty d).2]
/-- until a name has come nothing is laid by -/
def TargI (wA : World) (N : Nat) (pre : List (Nat × Nat)) (W : World) : Prop := (Boxed W (N + 1) 9 (.string ⟨#[]⟩) ∧ Boxed W (N + 1 + 1) 4 (.bool false)) ∧ Below wA.heap.size wA W ∧ pre = []
/-- when one has come it is laid by -/
def TargX (wA : World) (N : Nat) (d : List UInt8) (c : Code) (pre : List (Nat × Nat)) (W : World) : Prop := (Boxed W (N + 1) 9 (.string (mk ((d.drop (pre.getD 0 (0, 0)).1).take (pre.getD 0 (0, 0)).2))) ∧ Boxed W (N + 1 + 1) 4 (.bool true)) ∧ Below wA.heap.size wA W ∧ c = .ret ∧ pre.length = 1
abbrev fr14 (rn rd : List UInt8) (t cl tl : Int) (N M : Nat) (x : Nat × Nat) : Act := { tmps := #[.agg #[.string (mk rn), .int .i64 t, .int .i64 cl, .int .i64 tl, .string (mk rd)], .pointer (some ⟨N, 0, none⟩), .pointer (some ⟨N + 1, 0, none⟩), .pointer (some ⟨N + 1 + 1, 0, none⟩), .int .i64 (x.1 : Int), .int .i64 (x.2 : Int),
  .pointer (some ⟨N, 1, none⟩), .int .i64 t, .bool false, .pointer (some ⟨N, 1, none⟩), .int .i64 t, .pointer (some ⟨N, 4, none⟩), .string (mk rd), .func (.func 97) #[] #[.pointer (some ⟨M + 1 + 1, 0, none⟩), .pointer (some ⟨M + 1 + 1 + 1, 0, none⟩)],
  .int .i64 (x.1 : Int), .int .i64 (x.2 : Int), undef, undef, undef, undef, undef, undef, undef], defers := [] }
theorem notAgg_s (w : World) : (isAgg 9).run Tryz.prog w = .ok false w := by simp [isAgg, go_sem]
theorem notAgg_b (w : World) : (isAgg 4).run Tryz.prog w = .ok false w := by simp [isAgg, go_sem]
set_option maxRecDepth 100000 in
set_option maxHeartbeats 4000000 in
theorem Target_any (r : Rc.RR) (w : World) (hr : RROk r) :
    Calls Tryz.prog 41 #[rrV r] w fun e w' => e = .returned (targV r.ty r.data) ∧ Below w.heap.size w w' := by
  obtain ⟨rn, t, cl, tl, rd⟩ := r
  obtain ⟨_, hs⟩ := hr
  simp only at hs
  simp only [rrV]
  have hH := World.alloc_heap_new w (.cells #[.string (mk rn), .int .i64 t, .int .i64 cl, .int .i64 tl, .string (mk rd)] 43)
  have hbA : Below w.heap.size w (w.alloc (.cells #[.string (mk rn), .int .i64 t, .int .i64 cl, .int .i64 tl, .string (mk rd)] 43)) := (Below.refl _ w).alloc (Nat.le_refl _) _
  have hsA : (w.alloc (.cells #[.string (mk rn), .int .i64 t, .int .i64 cl, .int .i64 tl, .string (mk rd)] 43)).heap.size = w.heap.size + 1 := World.size_alloc _ _
  have hg := cell_of_heap hH
  have g4 : (w.alloc (.cells #[.string (mk rn), .int .i64 t, .int .i64 cl, .int .i64 tl, .string (mk rd)] 43)).cell? ⟨w.heap.size, 4, none⟩ = some (.string (mk rd)) := hg 4
  clear hg
  by_cases ht : t = 6
  · subst ht
    have hv : Hid (targV 6 rd = .tuple #[.string ⟨#[]⟩, .bool false]) := Go.Lib.hid rfl
    have HH := Go.Lib.hid hH
    have HBA := Go.Lib.hid hbA
    have HSA := Go.Lib.hid hsA
    have G4 := Go.Lib.hid g4
    clear hH hbA hsA g4
    go_enter Tryz.func41, Tryz.ntmps41
    go_wp2_with fail
    have y1 := Boxed.new (w.alloc (.cells #[.string (mk rn), .int .i64 6, .int .i64 cl, .int .i64 tl, .string (mk rd)] 43)) 9 (.string ⟨#[]⟩)
    have y2 := Boxed.new ((w.alloc (.cells #[.string (mk rn), .int .i64 6, .int .i64 cl, .int .i64 tl, .string (mk rd)] 43)).alloc (.cells #[.string ⟨#[]⟩] 9)) 4 (.bool false)
    rw [World.size_alloc] at y1
    rw [World.size_alloc, World.size_alloc] at y2
    have x1 := y1.alloc (.cells #[.bool false] 4)
    refine bodyPost_ret (results_boxes2 rfl _ _ _ _ _ _ rfl rfl x1 y2 notAgg_s notAgg_b) rfl ⟨by rw [hv.out], ?_⟩
    exact (HBA.out.alloc (by simp) _).alloc (by simp; omega) _
  · have e1 : (t == 6) = false := beq_eq_false_iff_ne.2 ht
    have hnm := fun w => Names_any t (mk rd) w
    have hch := Go.Lib.hid (parts_chain t rd)
    have HNM := Go.Lib.hid hnm
    have HH := Go.Lib.hid hH
    have HBA := Go.Lib.hid hbA
    have HSA := Go.Lib.hid hsA
    have G4 := Go.Lib.hid g4
    clear hnm hH hbA hsA g4
    refine (callsIn_wide (n := 6)).1 ?_
    refine callsIn_of_wp_marks Tryz.func41 rfl trivial ?_ rfl
    simp only [Tryz.ntmps41, List.size_toArray, List.length_cons, List.length_nil, Nat.reduceAdd, Nat.reduceSub, Array.replicate_succ, Array.replicate_zero, List.push_toArray, List.append_toArray, List.nil_append, List.cons_append]
    gi_wp2_with fail
    refine ⟨trivial, (callsIn_wide.2 (HNM.out _)).mono ?_⟩
    rintro e w2 ⟨rfl, hw2⟩
    have hsz2 : w2.heap.size = w.heap.size + 5 := by rw [hw2]; simp
    generalize hwA : w.alloc (.cells #[.string (mk rn), .int .i64 t, .int .i64 cl, .int .i64 tl, .string (mk rd)] 43) = wA at *
    have hb2 : Below wA.heap.size wA w2 := by
      rw [hw2]
      exact (((((Below.refl _ wA).alloc (Nat.le_refl _) _).alloc (by simp) _).alloc (by simp; omega) _).alloc (by simp; omega) _)
    have x1 : Boxed w2 (w.heap.size + 1) 9 (.string ⟨#[]⟩) := by
      rw [hw2]
      have := Boxed.new wA 9 (.string ⟨#[]⟩)
      rw [HSA.out] at this
      exact ((this.alloc _).alloc _).alloc _
    have x2 : Boxed w2 (w.heap.size + 1 + 1) 4 (.bool false) := by
      rw [hw2]
      have := Boxed.new (wA.alloc (.cells #[.string ⟨#[]⟩] 9)) 4 (.bool false)
      rw [World.size_alloc, HSA.out] at this
      exact (this.alloc _).alloc _
    have x4 : Boxed w2 (wA.heap.size + 1 + 1) 3 (.int .i64 t) := by
      rw [hw2]
      have := Boxed.new ((wA.alloc (.cells #[.string ⟨#[]⟩] 9)).alloc (.cells #[.bool false] 4)) 3 (.int .i64 t)
      rw [World.size_alloc, World.size_alloc] at this
      exact this.alloc _
    have x5 : Boxed w2 (wA.heap.size + 1 + 1 + 1) 9 (.string (mk rd)) := by
      rw [hw2]
      have := Boxed.new (((wA.alloc (.cells #[.string ⟨#[]⟩] 9)).alloc (.cells #[.bool false] 4)).alloc (.cells #[.int .i64 t] 3)) 9 (.string (mk rd))
      rw [World.size_alloc, World.size_alloc, World.size_alloc] at this
      exact this
    have hseq := names_seq 5 (by omega) _ _ t (mk rd) (by rw [size_mk]; exact hs) w2 (by rw [hsz2, HSA.out]; omega) (by rw [hsz2, HSA.out]; omega) x4.cell x5.cell
    rw [bl_mk] at hseq
    have h0 : TargI wA w.heap.size [] w2 := ⟨⟨x1, x2⟩, hb2, rfl⟩
    have HSEQ := Go.Lib.hid hseq
    have H0 := Go.Lib.hid h0
    clear hseq h0
    clear x1 x2 x4 x5 hw2
    have HSZ2 := Go.Lib.hid hsz2
    have HB2 := Go.Lib.hid hb2
    clear hsz2 hb2
    gi_wp2_with fail
    refine wpIn_rangeFunc_ok rfl (by omega) (gf := 97) (lb := #[.pointer (some ⟨wA.heap.size + 1 + 1, 0, none⟩), .pointer (some ⟨wA.heap.size + 1 + 1 + 1, 0, none⟩)]) rfl trivial (enters_of Tryz.func97 (by kernel_rfl) rfl)
      HSEQ.out KpT.trans (fun W l o o' _ h1 h2 _ => KpT.put W l o o' h1 h2) (Below.refl _ _) (fun _ => rfl)
      (TargI wA w.heap.size) (TargX wA w.heap.size rd)
      (OwnFrom.and (OwnFrom.and (Own.from (boxed_own _ _ (fun _ => _)) _) (Own.from (boxed_own _ _ (fun _ => _)) _)) (OwnFrom.and (ownFrom_below (Nat.le_refl _) (by rw [HSZ2.out, HSA.out]; omega)) (ownFrom_pure _ _)))
      (fun c => OwnFrom.and (OwnFrom.and (Own.from (boxed_own _ _ (fun pre : List (Nat × Nat) => .string (mk ((rd.drop (pre.getD 0 (0, 0)).1).take (pre.getD 0 (0, 0)).2)))) _) (Own.from (boxed_own _ _ (fun _ => _)) _)) (OwnFrom.and (ownFrom_below (Nat.le_refl _) (by rw [HSZ2.out, HSA.out]; omega)) (ownFrom_pure _ _)))
      H0.out (fun x a' _ => a' = fr14 rn rd t cl tl w.heap.size wA.heap.size x) (fun _ _ _ _ _ _ hs _ _ => hs) ?assign ?body ?done ?stop
    case assign =>
      intro l pre x W K hi hok hK
      have HK := Go.Lib.hid hK
      have HI := Go.Lib.hid hi
      clear hK hi
      unfold encPair
      gi_wp2
      exact HK.out _ _ (KeepsFrom.refl _ _) (KpT.refl _) HI.out rfl
    case body =>
      rintro l pre x a' W ⟨⟨b1, b2⟩, hb, rfl⟩ hok rfl
      have hpr := hok
      rw [List.nil_append] at hok
      obtain ⟨m, hm⟩ := hok
      have hmem := Rc.chain_mem _ _ hch.out x (by rw [← hm]; simp)
      obtain ⟨xa, xn⟩ := x
      simp only at hmem
      obtain ⟨_, n2, n3⟩ := hmem
      have c4 : W.cell? ⟨w.heap.size, 4, none⟩ = some (.string (mk rd)) := (hb.cell (p := ⟨w.heap.size, 4, none⟩) (by rw [HSA.out]; exact Nat.lt_succ_self _)).trans G4.out
      have hx2 : (mk rd).extract xa (xa + xn) = mk ((rd.drop xa).take xn) := by
        apply bl_inj
        rw [bl_extract, bl_mk, bl_mk, show xa + xn - xa = xn by omega]
      have hsz : (mk rd).size = rd.length := size_mk _
      unfold maxLen at hs
      have w1 : IntKind.i64.wrap ((xa : Int) + (xn : Int)) = (xa : Int) + (xn : Int) := by rw [IntKind.wrap_i64]; omega
      have w2' : ((xa : Int) + (xn : Int)).toNat = xa + xn := by omega
      have i3 : (xa : Int) + (xn : Int) ≤ ((mk rd).size : Int) := by rw [hsz]; omega
      have i4 : (xa : Int) ≤ (xa : Int) + (xn : Int) := by omega
      have i5 : (0 : Int) ≤ (xa : Int) + (xn : Int) := by omega
      have i6 : xa + xn ≤ (mk rd).size := by rw [hsz]; omega
      generalize hpart : mk ((rd.drop xa).take xn) = part at *
      generalize mk rd = sd at *
      have HPART := Go.Lib.hid hpart
      clear hpart
      have k1 := b1.lt
      have k2 := b2.lt
      have f1 := b1.frozen
      have f2 := (b2.other (B' := w.heap.size + 1) (by omega) (.string part)).frozen
      have cc1 := b1.cell
      have cc2 := (b2.other (B' := w.heap.size + 1) (by omega) (.string part)).cell
      have k3 := (b2.other (B' := w.heap.size + 1) (by omega) (.string part)).lt
      have HB := Go.Lib.hid hb
      clear hb
      clear hsz
      gi_wp2_with fail
      have u1 := (b1.set (.string part)).other (B' := w.heap.size + 1 + 1) (by omega) (.bool true)
      have u2 := (b2.other (B' := w.heap.size + 1) (by omega) (.string part)).set (.bool true)
      refine ⟨((KeepsOthers.setCell _ _ _).from _).trans ((KeepsOthers.setCell _ _ _).from _), ⟨by show Boxed _ _ _ (.string (mk ((rd.drop xa).take xn))); rw [HPART.out]; exact u1, u2⟩, ?_, rfl, rfl⟩
      exact (HB.out.setCell (p := ⟨w.heap.size + 1, 0, none⟩) (by rw [HSA.out]; exact Nat.le_refl _) _).setCell (p := ⟨w.heap.size + 1 + 1, 0, none⟩) (by rw [HSA.out]; exact Nat.le_succ _) _
    case done =>
      rintro D ys W hD hys ⟨⟨b1, b2⟩, hb, rfl⟩ hK
      have hv : Hid (targV t rd = .tuple #[.string ⟨#[]⟩, .bool false]) := Go.Lib.hid (by unfold targV targP; rw [if_neg ht, ← hys]; rfl)
      have k1 := b1.lt
      have k2 := b2.lt
      have f1 := b1.frozen
      have f2 := (b2.other (B' := w.heap.size + 1) (by omega) (.string ⟨#[]⟩)).frozen
      have cc1 := b1.cell
      have cc2 := (b2.other (B' := w.heap.size + 1) (by omega) (.string ⟨#[]⟩)).cell
      have k3 := (b2.other (B' := w.heap.size + 1) (by omega) (.string ⟨#[]⟩)).lt
      have HB := Go.Lib.hid hb
      have HYS := Go.Lib.hid hys
      have HDD := Go.Lib.hid hD
      have HK := Go.Lib.hid hK
      clear hb hys hD hK
      gi_wp2_with fail
      have v1 := (b1.set (.string ⟨#[]⟩)).other (B' := w.heap.size + 1 + 1) (by omega) (.bool false)
      have v2 := (b2.other (B' := w.heap.size + 1) (by omega) (.string ⟨#[]⟩)).set (.bool false)
      have hD' := HDD.out
      rw [HSZ2.out] at hD'
      have hK' : ((W.setCell ⟨w.heap.size + 1, 0, none⟩ (.string ⟨#[]⟩)).setCell ⟨w.heap.size + 1 + 1, 0, none⟩ (.bool false)).heap[D]? = some (.deferred (some [])) :=
        (Below.heap_setCell _ ⟨w.heap.size + 1 + 1, 0, none⟩ _ _ (by show D ≠ w.heap.size + 1 + 1; omega)).trans ((Below.heap_setCell _ ⟨w.heap.size + 1, 0, none⟩ _ _ (by show D ≠ w.heap.size + 1; omega)).trans HK.out)
      have hbz := (HB.out.setCell (p := ⟨w.heap.size + 1, 0, none⟩) (by rw [HSA.out]; exact Nat.le_refl _) (.string ⟨#[]⟩)).setCell (p := ⟨w.heap.size + 1 + 1, 0, none⟩) (by rw [HSA.out]; exact Nat.le_succ _) (.bool false)
      generalize (W.setCell ⟨w.heap.size + 1, 0, none⟩ (.string ⟨#[]⟩)).setCell ⟨w.heap.size + 1 + 1, 0, none⟩ (.bool false) = Z at *
      refine ⟨by simp, .inl ⟨_, _, rfl, run_takeDeferred hK', ?_⟩⟩
      refine ⟨_, results_boxes2 rfl _ _ _ _ _ _ rfl rfl (boxed_put v1 (by omega) _) (boxed_put v2 (by omega) _) notAgg_s notAgg_b, ?_⟩
      exact ⟨by rw [hv.out], HBA.out.trans ((hbz.mono (by rw [HSA.out]; omega)).trans (belowK_b (w := w) (Nat.le_refl _) Z D _ _ (by omega) hK' rfl rfl))⟩
    case stop =>
      rintro D c pre W hD hpre ⟨⟨b1, b2⟩, hb, rfl, hl1⟩ hK
      have hv : Hid (targV t rd = .tuple #[.string (mk ((rd.drop (pre.getD 0 (0, 0)).1).take (pre.getD 0 (0, 0)).2)), .bool true]) := Go.Lib.hid (by
        obtain ⟨m, hm⟩ := hpre
        match pre, hl1, hm with
        | [x], _, hm => unfold targV targP; rw [if_neg ht, ← hm]; rfl)
      generalize mk ((rd.drop (pre.getD 0 (0, 0)).1).take (pre.getD 0 (0, 0)).2) = part at *
      have HB := Go.Lib.hid hb
      have HYS := Go.Lib.hid hpre
      have HDD := Go.Lib.hid hD
      have HK := Go.Lib.hid hK
      clear hb hpre hD hK
      gi_wp2_with fail
      have hD' := HDD.out
      rw [HSZ2.out] at hD'
      refine ⟨by simp, .inl ⟨_, _, rfl, run_takeDeferred HK.out, ?_⟩⟩
      refine ⟨_, results_boxes2 rfl _ _ _ _ _ _ rfl rfl (boxed_put b1 (by omega) _) (boxed_put b2 (by omega) _) notAgg_s notAgg_b, ?_⟩
      exact ⟨by rw [hv.out], HBA.out.trans ((HB.out.mono (by rw [HSA.out]; omega)).trans (belowK_b (w := w) (Nat.le_refl _) W D _ _ (by omega) HK.out rfl rfl))⟩
end Go.Proofs.YtkpcmnckdappnaaGreat

/- Slices of records in memory; slices.IndexFunc, ContainsFunc at records, for whatever closure has a contract. -/
namespace Go.Proofs.YtkpcmnckdappnaaGreat
open Go.RowKit Go.Shelf Go.Sq
set_option linter.unusedVariables false

def encR (l : List Rc.RR) : List Value := l.flatMap fun r => [.string (mk r.name), .int .i64 r.ty, .int .i64 r.cl, .int .i64 r.ttl, .string (mk r.data)]
theorem encR_snoc (l : List Rc.RR) (r : Rc.RR) : encR (l ++ [r]) = encR l ++ [.string (mk r.name), .int .i64 r.ty, .int .i64 r.cl, .int .i64 r.ttl, .string (mk r.data)] := by simp [encR]
theorem encR_length (l : List Rc.RR) : (encR l).length = l.length * 5 := by
  induction l with
  | nil => rfl
  | cons r l ih =>
    have : encR (r :: l) = [.string (mk r.name), .int .i64 r.ty, .int .i64 r.cl, .int .i64 r.ttl, .string (mk r.data)] ++ encR l := rfl
    rw [this, List.length_append, ih]
    simp
    omega
theorem one_rr (r : Rc.RR) : ∀ u ∈ [Value.string (mk r.name), .int .i64 r.ty, .int .i64 r.cl, .int .i64 r.ttl, .string (mk r.data)], u.oneCell' = true := by
  intro u hu
  simp at hu
  rcases hu with rfl | rfl | rfl | rfl | rfl <;> rfl
theorem one_rrs (l : List Rc.RR) : ∀ u ∈ encR l, u.oneCell' = true := by
  intro u hu
  obtain ⟨r, _, h⟩ := List.mem_flatMap.1 hu
  exact one_rr r u h
def RRs (w : World) (v : Value) (l : List Rc.RR) : Prop := SlC w 5 v l.length (encR l)
theorem RRs.below {B : Nat} {w w' : World} {v : Value} {l : List Rc.RR} (h : RRs w v l) (hb : Below B w w') (hB : w.heap.size ≤ B) : RRs w' v l := SlC.below h hb hB
/-- nought -/
def r0 : Rc.RR := ⟨[], 0, 0, 0, []⟩
theorem encR_get : ∀ (l : List Rc.RR) (j : Nat), j < l.length → (encR l)[j * 5]? = some (.string (mk (l.getD j r0).name)) ∧ (encR l)[j * 5 + 1]? = some (.int .i64 (l.getD j r0).ty) ∧ (encR l)[j * 5 + 2]? = some (.int .i64 (l.getD j r0).cl) ∧
    (encR l)[j * 5 + 3]? = some (.int .i64 (l.getD j r0).ttl) ∧ (encR l)[j * 5 + 4]? = some (.string (mk (l.getD j r0).data))
  | [], j, h => by simp at h
  | p :: l, 0, _ => ⟨rfl, rfl, rfl, rfl, rfl⟩
  | p :: l, j + 1, h => by
    have := encR_get l j (by simpa using h)
    have e : encR (p :: l) = [.string (mk p.name), .int .i64 p.ty, .int .i64 p.cl, .int .i64 p.ttl, .string (mk p.data)] ++ encR l := rfl
    have key : ∀ i, (encR (p :: l))[(j + 1) * 5 + i]? = (encR l)[j * 5 + i]? := fun i => by
      rw [e, List.getElem?_append_right (by simp; omega)]
      congr 1
      simp
      omega
    have k0 := key 0
    simp only [Nat.add_zero] at k0
    rw [k0, key 1, key 2, key 3, key 4]
    simpa using this
/-- the five cells of an element -/
def RRAt (w : World) (b off : Nat) (r : Rc.RR) : Prop := w.cell? ⟨b, off, none⟩ = some (.string (mk r.name)) ∧ w.cell? ⟨b, off + 1, none⟩ = some (.int .i64 r.ty) ∧ w.cell? ⟨b, off + 2, none⟩ = some (.int .i64 r.cl) ∧
  w.cell? ⟨b, off + 3, none⟩ = some (.int .i64 r.ttl) ∧ w.cell? ⟨b, off + 4, none⟩ = some (.string (mk r.data))
theorem RRs.at {w : World} {a : Option Addr} {m cap : Nat} {l : List Rc.RR} (h : RRs w (.slice a m cap) l) (hn : 0 < l.length) :
    ∃ b off, a = some ⟨b, off, none⟩ ∧ b < w.heap.size ∧ ∀ j, j < l.length → RRAt w b (off + j * 5) (l.getD j r0) := by
  obtain ⟨_, b, off, ha, hlt, h4⟩ := SlC.at h hn
  refine ⟨b, off, ha, hlt, fun j hj => ?_⟩
  obtain ⟨e0, e1, e2, e3, e4⟩ := encR_get l j hj
  refine ⟨by rw [h4 (j * 5) (by omega), e0], ?_, ?_, ?_, ?_⟩
  · rw [Nat.add_assoc, h4 (j * 5 + 1) (by omega), e1]
  · rw [Nat.add_assoc, h4 (j * 5 + 2) (by omega), e2]
  · rw [Nat.add_assoc, h4 (j * 5 + 3) (by omega), e3]
  · rw [Nat.add_assoc, h4 (j * 5 + 4) (by omega), e4]
theorem RRAt.below {B : Nat} {w w' : World} {b off : Nat} {r : Rc.RR} (h : RRAt w b off r) (hb : Below B w w') (hB : b < B) : RRAt w' b off r := by
  obtain ⟨h0, h1, h2, h3, h4⟩ := h
  exact ⟨(hb.cell (p := ⟨b, off, none⟩) hB).trans h0, (hb.cell (p := ⟨b, off + 1, none⟩) hB).trans h1, (hb.cell (p := ⟨b, off + 2, none⟩) hB).trans h2, (hb.cell (p := ⟨b, off + 3, none⟩) hB).trans h3, (hb.cell (p := ⟨b, off + 4, none⟩) hB).trans h4⟩

/-- the first that is meant; below 0: none -/
def idx {α : Type} (p : α → Bool) : List α → Int
  | [] => -1
  | x :: l => if p x then 0 else if idx p l < 0 then -1 else idx p l + 1
theorem idx_lt {α : Type} (p : α → Bool) : ∀ l : List α, idx p l < l.length ∧ -1 ≤ idx p l
  | [] => by simp [idx]
  | x :: l => by
    have := idx_lt p l
    simp only [idx, List.length_cons]
    split
    · omega
    · split <;> omega
theorem idx_drop {α : Type} (p : α → Bool) : ∀ (l : List α) (k : Nat), (∀ x ∈ l.take k, p x = false) → idx p l = if idx p (l.drop k) < 0 then -1 else idx p (l.drop k) + k
  | l, 0, _ => by
    have := idx_lt p l
    rw [List.drop_zero]
    split <;> omega
  | [], k + 1, _ => by simp [idx]
  | x :: l, k + 1, h => by
    have hx : p x = false := h x (by simp)
    have := idx_drop p l k (fun y hy => h y (by simp [hy]))
    simp only [idx, hx, List.drop_succ_cons, Bool.false_eq_true, if_false]
    have h2 := idx_lt p (l.drop k)
    rw [this]
    by_cases hneg : idx p (l.drop k) < 0
    · rw [if_pos hneg, if_pos hneg, if_pos (by omega)]
    · rw [if_neg hneg, if_neg hneg, if_neg (by omega)]
      omega
theorem idx_any {α : Type} (p : α → Bool) : ∀ l : List α, (0 ≤ idx p l ↔ l.any p = true)
  | [] => by simp [idx]
  | x :: l => by
    have ih := idx_any p l
    simp only [idx, List.any_cons]
    cases hx : p x with
    | true => simp
    | false =>
      simp only [Bool.false_eq_true, if_false, Bool.false_or]
      rw [← ih]
      split <;> omega

set_option maxRecDepth 100000 in
set_option maxHeartbeats 2000000 in
theorem idxR_any (f : FuncId) (lb : Array Value) (p : Rc.RR → Bool) (a : Option Addr) (cap : Nat) (l : List Rc.RR) (w : World) (hst : RRs w (.slice a l.length cap) l) (hn : l.length ≤ 1099511627776)
    (hent : ∀ args w, (callFunc f args).run Tryz.prog w = .ok (.enter f args) w)
    (hf : ∀ W r, r ∈ l → Below w.heap.size w W → Calls Tryz.prog f (#[rrV r] ++ lb) W fun e W' => e = .returned (.bool (p r)) ∧ Below W.heap.size W W') :
    Calls Tryz.prog 83 #[.slice a l.length cap, .func (.func f) #[] lb] w fun e w' => e = .returned (.int .i64 (idx p l)) ∧ Below w.heap.size w w' := by
  have HB := Go.Lib.hid (Below.refl w.heap.size w)
  have HST := Go.Lib.hid hst
  have HF := Go.Lib.hid hf
  clear hst hf
  generalize hN : l.length = N at *
  have HN := Go.Lib.hid hN
  clear hN
  go_enter Tryz.func83, Tryz.ntmps83
  go_wp2_with fail
  go_loopw [8] (fun i wr => ∃ k : Nat, i = .int .i64 k ∧ k ≤ N ∧ (∀ x ∈ l.take k, p x = false) ∧ Below w.heap.size w wr) (fun i _ => N - (intOf i).toNat)
  case atStart => exact ⟨0, rfl, by omega, by simp, HB.out⟩
  case round =>
    obtain ⟨k, rfl, hk, hall, hbr⟩ := hrel
    clear HB
    have hix := idx_drop p l k hall
    have HALL := Go.Lib.hid hall
    have HB := Go.Lib.hid hbr
    have HIX := Go.Lib.hid hix
    clear hall hbr hix
    by_cases hlt : k < N
    · have hst := HST.out.below HB.out (Nat.le_refl _)
      rw [← HN.out] at hst
      obtain ⟨b, off, rfl, hbw, hcell⟩ := RRs.at hst (by rw [HN.out]; omega)
      obtain ⟨e0, e1, e2, e3, e4⟩ := hcell k (by rw [HN.out]; exact hlt)
      have hmem : l.getD k r0 ∈ l := by
        rw [List.getD_eq_getElem?_getD, List.getElem?_eq_getElem (by rw [HN.out]; exact hlt)]
        simp
      have hcl := HF.out wr _ hmem HB.out
      have hdr : l.drop k = l.getD k r0 :: l.drop (k + 1) := by
        rw [List.drop_eq_getElem_cons (by rw [HN.out]; exact hlt)]
        simp [HN.out, hlt]
      have hsn : l.take (k + 1) = l.take k ++ [l.getD k r0] := by
        rw [List.take_succ_eq_append_getElem (by rw [HN.out]; exact hlt)]
        simp [HN.out, hlt]
      have HCL := Go.Lib.hid hcl
      have HDR := Go.Lib.hid hdr
      have HSN := Go.Lib.hid hsn
      clear hcl hdr hsn
      clear hcell hst hmem
      generalize l.getD k r0 = r at *
      have hpr := HIX.out
      rw [HDR.out] at hpr
      simp only [idx] at hpr
      have HPR := Go.Lib.hid hpr
      clear hpr
      cases hp : p r with
      | true =>
        have hfin : Hid (idx p l = (k : Int)) := Go.Lib.hid (by rw [HPR.out]; simp [hp])
        rw [hp] at HCL
        clear hp HPR HIX
        go_wp2_with fail
        refine HCL.out.mono ?_; rintro e wb ⟨rfl, hx⟩
        have HX := Go.Lib.hid hx
        clear hx
        go_wp2_with fail
        go_ret
        exact ⟨ret_int hfin.out.symm, HB.out.trans (HX.out.mono HB.out.size)⟩
      | false =>
        have hall2 : ∀ x ∈ l.take (k + 1), p x = false := fun x hx => by
          rw [HSN.out] at hx
          rcases List.mem_append.1 hx with h | h
          · exact HALL.out x h
          · simp at h; rw [h]; exact hp
        have HALL2 := Go.Lib.hid hall2
        clear hall2
        rw [hp] at HCL
        clear hp HPR HIX
        go_wp2_with fail
        refine HCL.out.mono ?_; rintro e wb ⟨rfl, hx⟩
        have HX := Go.Lib.hid hx
        clear hx
        go_wp2_with fail
        go_roundw
        case rel => exact ⟨k + 1, by go_num, by omega, HALL2.out, HB.out.trans (HX.out.mono HB.out.size)⟩
        case measure => simp [intOf]; omega
    · have hfin : Hid (idx p l = -1) := Go.Lib.hid (by
        rw [HIX.out, List.drop_of_length_le (by rw [HN.out]; omega)]
        simp [idx])
      clear HIX
      go_wp2_with fail
      go_ret
      exact ⟨ret_int hfin.out.symm, HB.out⟩

set_option maxRecDepth 100000 in
theorem hasR_any (f : FuncId) (lb : Array Value) (p : Rc.RR → Bool) (a : Option Addr) (cap : Nat) (l : List Rc.RR) (w : World) (hst : RRs w (.slice a l.length cap) l) (hn : l.length ≤ 1099511627776)
    (hent : ∀ args w, (callFunc f args).run Tryz.prog w = .ok (.enter f args) w)
    (hf : ∀ W r, r ∈ l → Below w.heap.size w W → Calls Tryz.prog f (#[rrV r] ++ lb) W fun e W' => e = .returned (.bool (p r)) ∧ Below W.heap.size W W') :
    Calls Tryz.prog 62 #[.slice a l.length cap, .func (.func f) #[] lb] w fun e w' => e = .returned (.bool (l.any p)) ∧ Below w.heap.size w w' := by
  have hi := idxR_any f lb p a cap l w hst hn hent hf
  have h1 := idx_any p l
  have h2 := idx_lt p l
  have HI := Go.Lib.hid hi
  have HST := Go.Lib.hid hst
  have HF := Go.Lib.hid hf
  clear hi hst hf
  by_cases h : 0 ≤ idx p l
  · have hfin : Hid (l.any p = true) := Go.Lib.hid (h1.1 h)
    clear h1 h2
    generalize idx p l = v at *
    generalize l.length = N at *
    go_enter Tryz.func62, Tryz.ntmps62
    go_wp2_with fail
    refine HI.out.mono ?_; rintro e wb ⟨rfl, hx⟩
    have HX := Go.Lib.hid hx
    clear hx
    go_wp2_with fail
    go_ret
    exact ⟨ret_bool hfin.out.symm, HX.out⟩
  · have hfin : Hid (l.any p = false) := Go.Lib.hid (by
      cases hb : l.any p with
      | false => rfl
      | true => exact absurd (h1.2 hb) h)
    clear h1 h2
    generalize idx p l = v at *
    have hd : decide (0 ≤ v) = false := decide_eq_false h
    have hv : v < 0 := by omega
    clear h
    generalize l.length = N at *
    go_enter Tryz.func62, Tryz.ntmps62
    go_wp2_with fail
    refine HI.out.mono ?_; rintro e wb ⟨rfl, hx⟩
    have HX := Go.Lib.hid hx
    clear hx
    go_wp2_with fail
    go_ret
    exact ⟨ret_bool hfin.out.symm, HX.out⟩
end Go.Proofs.YtkpcmnckdappnaaGreat

/- Pick: lists in order, each element once: there is just one of the same elements; sorted and compacted, and put together one by one, come to it. Lists alone. -/
namespace Go.Proofs.YtkpcmnckdappnaaGreat
open Go.Lib Go.Sort
set_option linter.unusedVariables false
set_option linter.unusedSectionVars false

/-- an order, total on those of P -/
structure Od {α : Type} (lt : α → α → Bool) (P : α → Prop) : Prop where
  irr : ∀ x, P x → lt x x = false
  tr : ∀ x y z, P x → P y → P z → lt x y = true → lt y z = true → lt x z = true
  tot : ∀ x y, P x → P y → lt x y = false → lt y x = false → x = y
variable {α : Type} {lt : α → α → Bool} {P : α → Prop}
/-- rising -/
def Asc (lt : α → α → Bool) (l : List α) : Prop := l.Pairwise fun a b => lt a b = true
theorem asc_uniq (O : Od lt P) : ∀ (l m : List α), Asc lt l → Asc lt m → (∀ x ∈ l, P x) → (∀ x ∈ m, P x) → (∀ x, x ∈ l ↔ x ∈ m) → l = m
  | [], [], _, _, _, _, _ => rfl
  | [], b :: m, _, _, _, _, h => by have := (h b).2 (List.mem_cons_self ..); cases this
  | a :: l, [], _, _, _, _, h => by have := (h a).1 (List.mem_cons_self ..); cases this
  | a :: l, b :: m, hl, hm, pl, pm, h => by
    obtain ⟨l1, l2⟩ := List.pairwise_cons.1 hl
    obtain ⟨m1, m2⟩ := List.pairwise_cons.1 hm
    have pa := pl a (List.mem_cons_self ..)
    have pb := pm b (List.mem_cons_self ..)
    have hab : a = b := by
      rcases List.mem_cons.1 ((h a).1 (List.mem_cons_self ..)) with e | e
      · exact e
      · rcases List.mem_cons.1 ((h b).2 (List.mem_cons_self ..)) with e2 | e2
        · exact e2.symm
        · have h1 := m1 a e
          have h2 := l1 b e2
          have := O.tr _ _ _ pb pa pb h1 h2
          rw [O.irr b pb] at this
          cases this
    subst hab
    have : l = m := asc_uniq O l m l2 m2 (fun x hx => pl x (List.mem_cons_of_mem _ hx)) (fun x hx => pm x (List.mem_cons_of_mem _ hx)) fun x => by
      constructor
      · intro hx
        rcases List.mem_cons.1 ((h x).1 (List.mem_cons_of_mem _ hx)) with e | e
        · subst e
          have := l1 x hx
          rw [O.irr x pa] at this
          cases this
        · exact e
      · intro hx
        rcases List.mem_cons.1 ((h x).2 (List.mem_cons_of_mem _ hx)) with e | e
        · subst e
          have := m1 x hx
          rw [O.irr x pa] at this
          cases this
        · exact e
    rw [this]
/-- put in its place, once -/
def insL [DecidableEq α] (lt : α → α → Bool) (x : α) : List α → List α
  | [] => [x]
  | y :: l => if lt y x then y :: insL lt x l else if y = x then y :: l else x :: y :: l
theorem insL_mem [DecidableEq α] (x : α) : ∀ (l : List α) (y : α), y ∈ insL lt x l ↔ y = x ∨ y ∈ l
  | [], y => by simp [insL]
  | z :: l, y => by
    unfold insL
    split
    · rw [List.mem_cons, insL_mem x l y, List.mem_cons]
      constructor
      · rintro (h | h | h)
        · exact .inr (.inl h)
        · exact .inl h
        · exact .inr (.inr h)
      · rintro (h | h | h)
        · exact .inr (.inl h)
        · exact .inl h
        · exact .inr (.inr h)
    · split
      · rename_i h
        subst h
        constructor
        · exact .inr
        · rintro (h | h)
          · rw [h]; exact List.mem_cons_self ..
          · exact h
      · exact List.mem_cons
theorem insL_asc [DecidableEq α] (O : Od lt P) (x : α) (px : P x) : ∀ (l : List α), Asc lt l → (∀ y ∈ l, P y) → Asc lt (insL lt x l)
  | [], _, _ => List.pairwise_singleton ..
  | z :: l, h, hp => by
    obtain ⟨h1, h2⟩ := List.pairwise_cons.1 h
    have pz := hp z (List.mem_cons_self ..)
    unfold insL
    split
    · rename_i hz
      refine List.pairwise_cons.2 ⟨fun y hy => ?_, insL_asc O x px l h2 fun y hy => hp y (List.mem_cons_of_mem _ hy)⟩
      rcases (insL_mem x l y).1 hy with rfl | hy
      · exact hz
      · exact h1 y hy
    · split
      · exact h
      · rename_i hz hne
        have hzx : lt x z = true := by
          cases hx : lt x z with
          | true => rfl
          | false => exact absurd (O.tot z x pz px (by simpa using hz) hx) hne
        refine List.pairwise_cons.2 ⟨fun y hy => ?_, h⟩
        rcases List.mem_cons.1 hy with rfl | hy
        · exact hzx
        · exact O.tr _ _ _ px pz (hp y (List.mem_cons_of_mem _ hy)) hzx (h1 y hy)
/-- the place: how many are ahead -/
def posL (lt : α → α → Bool) (x : α) : List α → Nat
  | [] => 0
  | y :: l => if lt y x then posL lt x l + 1 else 0
theorem insL_pos [DecidableEq α] (x : α) : ∀ (l : List α), insL lt x l = if l[posL lt x l]? = some x then l else l.take (posL lt x l) ++ x :: l.drop (posL lt x l)
  | [] => by simp [insL, posL]
  | y :: l => by
    unfold insL posL
    by_cases h : lt y x = true
    · rw [if_pos h, if_pos h, insL_pos x l]
      simp only [List.getElem?_cons_succ, List.take_succ_cons, List.drop_succ_cons]
      split <;> simp
    · rw [if_neg h, if_neg h]
      simp only [List.getElem?_cons_zero, Option.some.injEq, List.take_zero, List.drop_zero, List.nil_append]
theorem posL_le (x : α) : ∀ (l : List α), posL lt x l ≤ l.length
  | [] => Nat.le_refl _
  | y :: l => by
    unfold posL
    split
    · simp only [List.length_cons]; exact Nat.succ_le_succ (posL_le x l)
    · exact Nat.zero_le _
theorem posL_lt (x : α) : ∀ (l : List α) (i : Nat) (d : α), i < posL lt x l → lt (l.getD i d) x = true
  | [], i, d, h => by unfold posL at h; omega
  | y :: l, i, d, h => by
    unfold posL at h
    split at h
    · rename_i hy
      cases i with
      | zero => exact hy
      | succ i => exact posL_lt x l i d (by omega)
    · omega
theorem posL_stop (x : α) : ∀ (l : List α) (d : α), posL lt x l < l.length → lt (l.getD (posL lt x l) d) x = false
  | [], d, h => by simp at h
  | y :: l, d, h => by
    unfold posL at *
    split at h
    · rename_i hy
      rw [if_pos hy]
      exact posL_stop x l d (by simpa using h)
    · rename_i hy
      rw [if_neg hy]
      simpa using hy
/-- all of them, put together -/
def insAll [DecidableEq α] (lt : α → α → Bool) (l : List α) : List α := l.foldl (fun o x => insL lt x o) []
theorem insAll_snoc [DecidableEq α] (l : List α) (x : α) : insAll lt (l ++ [x]) = insL lt x (insAll lt l) := by unfold insAll; rw [List.foldl_append]; rfl
theorem insL_len [DecidableEq α] (x : α) : ∀ (l : List α), (insL lt x l).length ≤ l.length + 1
  | [] => Nat.le_refl _
  | y :: l => by
    unfold insL
    split
    · simp only [List.length_cons]
      exact Nat.succ_le_succ (insL_len x l)
    · split <;> simp
theorem insAll_len [DecidableEq α] (l : List α) : (insAll lt l).length ≤ l.length := by
  have h : ∀ (l o : List α), (l.foldl (fun o x => insL lt x o) o).length ≤ o.length + l.length := fun l => by
    induction l with
    | nil => intro o; simp
    | cons x l ih =>
      intro o
      have h1 := ih (insL lt x o)
      have h2 := insL_len (lt := lt) x o
      simp only [List.foldl_cons, List.length_cons]
      omega
  have := h l []
  simpa [insAll] using this
theorem insFold [DecidableEq α] (O : Od lt P) : ∀ (l o : List α), (∀ x ∈ l, P x) → (∀ x ∈ o, P x) → Asc lt o → Asc lt (l.foldl (fun o x => insL lt x o) o) ∧ ∀ y, y ∈ l.foldl (fun o x => insL lt x o) o ↔ y ∈ o ∨ y ∈ l
  | [], o, _, _, h => ⟨h, fun y => by simp⟩
  | x :: l, o, hl, ho, h => by
    have px := hl x (List.mem_cons_self ..)
    obtain ⟨h1, h2⟩ := insFold O l (insL lt x o) (fun y hy => hl y (List.mem_cons_of_mem _ hy)) (fun y hy => by
      rcases (insL_mem x o y).1 hy with rfl | hy
      · exact px
      · exact ho y hy) (insL_asc O x px o h ho)
    refine ⟨h1, fun y => ?_⟩
    rw [List.foldl_cons, h2 y, insL_mem, List.mem_cons]
    constructor
    · rintro ((h | h) | h)
      · exact .inr (.inl h)
      · exact .inl h
      · exact .inr (.inr h)
    · rintro (h | h | h)
      · exact .inl (.inr h)
      · exact .inl (.inl h)
      · exact .inr h
theorem insAll_asc [DecidableEq α] (O : Od lt P) {l : List α} (hl : ∀ x ∈ l, P x) : Asc lt (insAll lt l) ∧ ∀ y, y ∈ insAll lt l ↔ y ∈ l := by
  obtain ⟨h1, h2⟩ := insFold O l [] hl (by simp) (List.Pairwise.nil)
  exact ⟨h1, fun y => by rw [show insAll lt l = l.foldl (fun o x => insL lt x o) [] from rfl, h2]; simp⟩
section
variable [Inhabited α] [DecidableEq α]
theorem compact_mem (d : Array α) (x : α) : x ∈ compactUpTo d d.size ↔ ∃ i, i < d.size ∧ d[i]! = x := by
  unfold compactUpTo
  simp only [List.mem_map, List.mem_filter, List.mem_range]
  constructor
  · rintro ⟨i, ⟨h1, _⟩, h2⟩
    exact ⟨i, h1, h2⟩
  · rintro ⟨i, h1, h2⟩
    induction i with
    | zero => exact ⟨0, ⟨h1, by simp [keeps]⟩, h2⟩
    | succ i ih =>
      by_cases hk : keeps d (i + 1) = true
      · exact ⟨i + 1, ⟨h1, hk⟩, h2⟩
      · refine ih (by omega) ?_
        unfold keeps at hk
        rw [decide_eq_true_iff, not_or, Classical.not_not, Nat.add_sub_cancel] at hk
        rw [← hk.2]
        exact h2
theorem compact_asc (O : Od lt P) {d : Array α} (hP : ∀ i, i < d.size → P d[i]!) (hs : SortedIn lt 0 d.size d) : Asc lt (compactUpTo d d.size) := by
  unfold Asc compactUpTo
  rw [List.pairwise_map, List.pairwise_filter]
  refine List.Pairwise.imp_of_mem (R := (· < ·)) ?_ List.pairwise_lt_range
  intro i j hi hj hij ki kj
  rw [List.mem_range] at hi hj
  unfold keeps at kj
  rw [decide_eq_true_iff] at kj
  have hne : d[j]! ≠ d[j - 1]! := kj.resolve_left (by omega)
  cases h : lt d[i]! d[j]! with
  | true => rfl
  | false =>
    exfalso
    have e1 := O.tot _ _ (hP i hi) (hP j hj) h (hs i j (Nat.zero_le _) hij hj)
    by_cases hj1 : i = j - 1
    · exact hne (by rw [← hj1]; exact e1.symm)
    · have s1 := hs i (j - 1) (Nat.zero_le _) (by omega) (by omega)
      have s2 := hs (j - 1) j (Nat.zero_le _) (by omega) hj
      rw [← e1] at s2
      have e2 := O.tot _ _ (hP i hi) (hP (j - 1) (by omega)) s2 s1
      exact hne (by rw [← e1, e2])
/-- sorted and compacted: as put together -/
theorem sort_compact (O : Od lt P) {d d' : Array α} (hP : ∀ x ∈ d.toList, P x) (hp : PermIn 0 d.size d d') (hs : SortedIn lt 0 d.size d') : compactUpTo d' d'.size = insAll lt d.toList := by
  obtain ⟨h1, _, h3⟩ := hp
  rw [Array.extract_eq_self_of_le (by omega), Array.extract_eq_self_of_le (Nat.le_refl _)] at h3
  have hm : ∀ x, (∃ i, i < d'.size ∧ d'[i]! = x) ↔ x ∈ d.toList := fun x => by
    rw [← h3.mem_iff]
    constructor
    · rintro ⟨i, hi, rfl⟩
      rw [getElem!_pos d' i hi]
      exact Array.getElem_mem_toList hi
    · intro hx
      obtain ⟨i, hi, e⟩ := List.getElem_of_mem hx
      rw [Array.length_toList] at hi
      exact ⟨i, hi, by rw [getElem!_pos d' i hi, ← e, Array.getElem_toList]⟩
  have hP' : ∀ i, i < d'.size → P d'[i]! := fun i hi => hP _ ((hm _).1 ⟨i, hi, rfl⟩)
  obtain ⟨a1, a2⟩ := insAll_asc O hP
  refine asc_uniq O _ _ (compact_asc O hP' (by rw [h1]; exact hs)) a1 (fun x hx => ?_) (fun x hx => hP x ((a2 x).1 hx)) fun x => ?_
  · exact hP x ((hm x).1 ((compact_mem d' x).1 hx))
  · rw [compact_mem, hm, a2]
end
/-- names' order, on folded names -/
def PN (x : List UInt8) : Prop := Nm.valid x = true ∧ Nm.foldB x = x
theorem od_names : Od Nm.lessN PN where
  irr x h := by
    rcases Nm.three h.1 h.1 with ⟨a, b, _⟩ | ⟨a, b, _⟩ | ⟨a, b, _⟩
    · rw [a] at b; cases b
    · exact a
    · exact a
  tr x y z hx hy hz := Nm.less_trans hx.1 hy.1 hz.1
  tot x y hx hy h1 h2 := by
    rcases Nm.three hx.1 hy.1 with ⟨a, _, _⟩ | ⟨_, b, _⟩ | ⟨_, _, c⟩
    · rw [h1] at a; cases a
    · rw [h2] at b; cases b
    · unfold Nm.sameN at c
      rw [Bool.and_eq_true, beq_iff_eq, hx.2, hy.2] at c
      exact c.2
def ltI (x y : Int) : Bool := decide (x < y)
theorem od_ints : Od ltI fun _ => True where
  irr x _ := by unfold ltI; simp
  tr x y z _ _ _ h1 h2 := by unfold ltI at *; simp at *; omega
  tot x y _ _ h1 h2 := by unfold ltI at *; simp at *; omega
end Go.Proofs.YtkpcmnckdappnaaGreat

/- Pick: whom a set leads to, a name's addresses, the servers, who is next, who is missing. Lists alone. -/
namespace Go.Proofs.YtkpcmnckdappnaaGreat
open Go.RowKit
set_option maxRecDepth 100000
set_option linter.unusedVariables false

theorem foldB_idem (s : List UInt8) : Nm.foldB (Nm.foldB s) = Nm.foldB s := by
  have h : ∀ c, Nm.low (Nm.low c) = Nm.low c := fun c => by
    have hc := c.toNat_lt
    unfold Nm.low
    by_cases h : 65 ≤ c.toNat ∧ c.toNat ≤ 90
    · rw [if_pos h]
      have e : (c + 32).toNat = c.toNat + 32 := by
        rw [UInt8.toNat_add]
        show (c.toNat + 32) % 256 = _
        omega
      rw [if_neg (by rw [e]; omega)]
    · rw [if_neg h, if_neg h]
  unfold Nm.foldB
  rw [List.map_map]
  exact List.map_congr_left fun c _ => h c
theorem pn_fold {s : List UInt8} (h : Nm.valid s = true) : PN (Nm.foldN s) := by
  unfold Nm.foldN
  rw [if_pos h]
  exact ⟨(Nm.valid_foldB h).1, foldB_idem s⟩
theorem pn_len {s : List UInt8} (h : PN s) : s.length ≤ 255 := (Nm.labs_valid h.1).2.2
theorem pn_same {a b : List UInt8} (ha : PN a) (hb : PN b) : Nm.sameN a b = decide (a = b) := by
  unfold Nm.sameN
  rw [ha.1, hb.1, ha.2, hb.2]
  by_cases h : a = b
  · subst h; simp
  · rw [decide_eq_false h]; simpa using h
theorem names_valid {d : List UInt8} {a : Nat} : ∀ (m : Nat) (l : List (Nat × Nat)) (e : Nat), Rc.names d a m = some (l, e) → ∀ p ∈ l, Nm.valid ((d.drop p.1).take p.2) = true
  | 0, l, e, h, p, hp => by simp only [Rc.names, Option.some.injEq, Prod.mk.injEq] at h; rw [← h.1] at hp; cases hp
  | m + 1, l, e, h, p, hp => by
    cases h1 : Rc.names d a m with
    | none => simp only [Rc.names, h1] at h; cases h
    | some x =>
      obtain ⟨l1, e1⟩ := x
      rw [Rc.names_succ h1] at h
      cases h2 : Nm.lead (d.drop e1) with
      | none => rw [h2] at h; cases h
      | some n =>
        rw [h2] at h
        simp only [Option.some.injEq, Prod.mk.injEq] at h
        rw [← h.1] at hp
        rcases List.mem_append.1 hp with hp | hp
        · exact names_valid m l1 e1 h1 p hp
        · simp only [List.mem_singleton] at hp
          subst hp
          exact Rc.lead_take h2
theorem parts_valid {t : Int} {d : List UInt8} {l : List (Nat × Nat)} (h : Rc.partsN t d = some l) : ∀ p ∈ l, Nm.valid ((d.drop p.1).take p.2) = true := by
  unfold Rc.partsN at h
  split at h
  · simp only [Option.some.injEq] at h
    subst h
    intro p hp
    unfold Rc.placesP at hp
    split at hp
    · cases hp
    · split at hp
      · cases hp
      · split at hp
        · cases hp
        · rename_i h2
          exact names_valid _ _ _ h2 p hp
  · cases h
theorem targP_valid {ty : Int} {d : List UInt8} (h : (targP ty d).2 = true) : Nm.valid (targP ty d).1 = true := by
  unfold targP at *
  split at h
  · cases h
  · rename_i h6
    rw [if_neg h6]
    cases hp : Rc.partsN ty d with
    | none => rw [hp] at h; simp at h
    | some l =>
      rw [hp] at h
      cases l with
      | nil => simp at h
      | cons x l => exact parts_valid hp x (List.mem_cons_self ..)
/-- the names that records lead to, folded -/
def targL (rs : List Rc.RR) : List (List UInt8) := rs.filterMap fun r => if (targP r.ty r.data).2 then some (Nm.foldN (targP r.ty r.data).1) else none
theorem targL_pn (rs : List Rc.RR) : ∀ x ∈ targL rs, PN x := by
  intro x hx
  unfold targL at hx
  rw [List.mem_filterMap] at hx
  obtain ⟨r, _, h⟩ := hx
  split at h
  · rename_i ht
    simp only [Option.some.injEq] at h
    subst h
    exact pn_fold (targP_valid ht)
  · cases h
theorem targL_snoc (rs : List Rc.RR) (r : Rc.RR) : targL (rs ++ [r]) = targL rs ++ (if (targP r.ty r.data).2 then [Nm.foldN (targP r.ty r.data).1] else []) := by
  unfold targL
  rw [List.filterMap_append]
  congr 1
  by_cases h : (targP r.ty r.data).2 = true <;> simp [h]
/-- the targets of a set, in order, each once -/
def targsN (rs : List Rc.RR) : List (List UInt8) := insAll Nm.lessN (targL rs)
theorem targsN_pn (rs : List Rc.RR) : ∀ x ∈ targsN rs, PN x := fun x hx => targL_pn rs x (((insAll_asc od_names (targL_pn rs)).2 x).1 hx)
/-- a name's addresses, rising, each once -/
def toldN (zs : List Int) : List Int := insAll ltI zs
theorem toldN_asc {zs : List Int} (h : Asc ltI zs) : toldN zs = zs := asc_uniq od_ints _ _ (insAll_asc od_ints (P := fun _ => True) fun _ _ => trivial).1 h (fun _ _ => trivial) (fun _ _ => trivial) (insAll_asc od_ints (P := fun _ => True) fun _ _ => trivial).2
/-- servers: names and addresses -/
abbrev Sv := List UInt8 × Int
def servN (f : List UInt8 → List Int) (rs : List Rc.RR) : List Sv := (targsN rs).flatMap fun n => (toldN (f n)).map fun a => (n, a)
/-- the first that was not tried -/
def nextN (l tried : List Sv) : Option Sv := l.find? fun s => !tried.any fun x => decide (x.2 = s.2)
/-- the first name without addresses that was not asked for -/
def missN (f : List UInt8 → List Int) (rs : List Rc.RR) (tried : List (List UInt8)) : Option (List UInt8) := (targsN rs).find? fun n => decide ((toldN (f n)).length = 0) && !tried.any fun x => Nm.sameN x n
/-- the hints' order -/
def ltS (x y : Sv) : Bool := Nm.lessN x.1 y.1 || (!Nm.lessN y.1 x.1 && decide (x.2 < y.2))
def PS (x : Sv) : Prop := PN x.1 ∧ 0 ≤ x.2 ∧ x.2 ≤ 4294967295
theorem od_servers : Od ltS PS where
  irr x h := by
    unfold ltS
    rw [od_names.irr x.1 h.1]
    simp
  tr x y z hx hy hz h1 h2 := by
    unfold ltS at *
    rw [Bool.or_eq_true, Bool.and_eq_true, Bool.not_eq_true', decide_eq_true_iff] at *
    rcases h1 with h1 | ⟨h1, h1'⟩
    · rcases h2 with h2 | ⟨h2, h2'⟩
      · exact .inl (od_names.tr _ _ _ hx.1 hy.1 hz.1 h1 h2)
      · left
        cases h3 : Nm.lessN y.1 z.1 with
        | true => exact od_names.tr _ _ _ hx.1 hy.1 hz.1 h1 h3
        | false => rw [← od_names.tot _ _ hy.1 hz.1 h3 h2]; exact h1
    · cases h3 : Nm.lessN x.1 y.1 with
      | true =>
        rcases h2 with h2 | ⟨h2, h2'⟩
        · exact .inl (od_names.tr _ _ _ hx.1 hy.1 hz.1 h3 h2)
        · left
          cases h4 : Nm.lessN y.1 z.1 with
          | true => exact od_names.tr _ _ _ hx.1 hy.1 hz.1 h3 h4
          | false => rw [← od_names.tot _ _ hy.1 hz.1 h4 h2]; exact h3
      | false =>
        have e := od_names.tot _ _ hx.1 hy.1 h3 h1
        rw [e]
        rcases h2 with h2 | ⟨h2, h2'⟩
        · exact .inl h2
        · exact .inr ⟨h2, by omega⟩
  tot x y hx hy h1 h2 := by
    unfold ltS at *
    rw [Bool.or_eq_false_iff] at h1 h2
    have e := od_names.tot _ _ hx.1 hy.1 h1.1 h2.1
    have a := h1.2
    have b := h2.2
    rw [h2.1, Bool.not_false, Bool.true_and, decide_eq_false_iff_not] at a
    rw [h1.1, Bool.not_false, Bool.true_and, decide_eq_false_iff_not] at b
    exact Prod.ext e (by omega)
def hintL (l : List Sv) : List Sv := l.filterMap fun s => if Nm.valid s.1 && decide (0 ≤ s.2) && decide (s.2 ≤ 4294967295) then some (Nm.foldN s.1, s.2) else none
theorem hintL_ps (l : List Sv) : ∀ x ∈ hintL l, PS x := by
  intro x hx
  unfold hintL at hx
  rw [List.mem_filterMap] at hx
  obtain ⟨s, _, h⟩ := hx
  split at h
  · rename_i hc
    rw [Bool.and_eq_true, Bool.and_eq_true, decide_eq_true_iff, decide_eq_true_iff] at hc
    simp only [Option.some.injEq] at h
    subst h
    exact ⟨pn_fold hc.1.1, hc.1.2, hc.2⟩
  · cases h
def hintsN (l : List Sv) : List Sv := insAll ltS (hintL l)
end Go.Proofs.YtkpcmnckdappnaaGreat

/- Tree: what is true, as functions on lists: the tree's own code said in plain words, the law's zones and questions. -/
namespace Go.Proofs.YtkpcmnckdappnaaGreat
open Go.Lib Go.Sort
set_option maxRecDepth 100000
set_option linter.unusedVariables false

/-- a zone -/
structure Zp where
  nm : List UInt8
  rs : List Rc.RR
  sv : List Sv
deriving DecidableEq
def z0 : Zp := ⟨[], [], []⟩
def findP (T : List Zp) (n : List UInt8) : Option Zp := T.find? fun z => Nm.sameN z.nm n
/-- is a zone between: under another, the name under it, and nearer to the top than the one found so far -/
def btwP (zone n : List UInt8) (out : Option Zp) (z : Zp) : Bool := !Nm.sameN z.nm zone && (Nm.underN z.nm zone && (Nm.underN n z.nm && (match out with | none => true | some o => decide (z.nm.length < o.nm.length))))
def belowP (T : List Zp) (zone n : List UInt8) : Option Zp := T.foldl (fun out z => if btwP zone n out z then some z else out) none
def srvP (l : List Sv) : Bool := decide (1 ≤ l.length) && (decide (l.length ≤ 4) && !l.any fun s => !Nm.valid s.1 || (decide (s.2 < 0) || decide (4294967295 < s.2)))
def aliP (z : Zp) : Bool := (List.range z.rs.length).all fun i => let r := z.rs.getD i r0; !decide (r.ty = 5) || !(Nm.sameN r.name z.nm || ((z.rs.take i).any (fun x => Nm.sameN x.name r.name) || (z.rs.drop (i + 1)).any fun x => Nm.sameN x.name r.name))
def badP (T : List Zp) (z : Zp) (r : Rc.RR) : Bool := !checkB r || (!decide (r.cl = 1) || (decide (r.ty = 2) || (decide (r.ty = 6) || (!Nm.underN r.name z.nm || (belowP T z.nm r.name).isSome))))
def mayP (T : List Zp) (z : Zp) : Bool := decide (z.rs.length ≤ 100) && (srvP z.sv && (aliP z && !z.rs.any (badP T z)))
/-- the zones one by one: may they stand in a tree? -/
def addP : List Zp → List Zp → Option (List Zp)
  | T, [] => some T
  | T, z :: l => if !Nm.valid z.nm || ((findP T z.nm).isSome || decide (T.length = 20)) then none else addP (T ++ [z]) l
def newP (l : List Zp) : Option (List Zp) := match addP [] l with
  | none => none
  | some T => if (findP T [0]).isNone || T.any (fun z => !mayP T z) then none else some T
def namesP (T : List Zp) (p : Zp → Bool) : List (List UInt8) := insAll Nm.lessN ((T.filter p).map fun z => Nm.foldN z.nm)
def zonesP (T : List Zp) : List (List UInt8) := namesP T fun _ => true
def atP (T : List Zp) (a : Int) : List (List UInt8) := namesP T fun z => z.sv.any fun s => decide (s.2 = a)
def longestP (zs : List (List UInt8)) (n : List UInt8) : List UInt8 × Bool := zs.foldl (fun o z => if Nm.underN n z && decide (o.1.length < z.length) then (z, true) else o) ([], false)
def bestP (T : List Zp) (n : List UInt8) : List UInt8 × Bool := longestP (zonesP T) n
def nsP (z : Zp) : List Rc.RR := z.sv.foldl (fun out s => if out.any (fun x => Rc.sameRR x (makeNN z.nm 2 3600 s.1)) then out else out ++ [makeNN z.nm 2 3600 s.1]) []
def soaP (z : Zp) : Rc.RR := makeSN z.nm 60 1 30
def ofP (z : Zp) (n : List UInt8) (t : Int) : List Rc.RR := if Nm.sameN n z.nm && decide (t = 2) then nsP z else if Nm.sameN n z.nm && decide (t = 6) then [soaP z] else z.rs.filter fun r => Nm.sameN r.name n && decide (r.ty = t)
def hasP (T : List Zp) (z : Zp) (n : List UInt8) : Bool := Nm.sameN n z.nm || (z.rs.any (fun r => Nm.underN r.name n) || T.any fun x => Nm.underN x.nm n)
/-- aliases in a zone, and where they end -/
def chainG (T : List Zp) (z : Zp) (t : Int) : Nat → List Rc.RR → List UInt8 → List (List UInt8) → List Rc.RR × List UInt8 × Bool
  | 0, l, n, _ => (l, n, true)
  | k + 1, l, n, met =>
    if t = 5 then (l, n, true) else
    match ofP z n 5 with
    | [] => (l, n, true)
    | x :: _ =>
      let n2 := (targP x.ty x.data).1
      if !Nm.underN n2 z.nm || (belowP T z.nm n2).isSome then (l ++ [x], n2, false)
      else if met.contains (Nm.foldN n2) then (l ++ [x], n2, true)
      else chainG T z t k (l ++ [x]) n2 (met ++ [Nm.foldN n2])
def chainP (T : List Zp) (z : Zp) (n : List UInt8) (t : Int) : List Rc.RR × List UInt8 × Bool := chainG T z t 8 [] n [Nm.foldN n]
/-- what is said, without number and question: code, authority, the three lists -/
structure Said where
  code : Int
  auth : Bool
  an : List Rc.RR
  sv : List Rc.RR
  ad : List Rc.RR
deriving DecidableEq
def referP (z to : Zp) : Said := ⟨0, false, [], nsP to, (to.sv.filter fun s => Nm.underN s.1 z.nm).map fun s => makeAN s.1 3600 s.2⟩
def inP (T : List Zp) (z : Zp) (n : List UInt8) (t : Int) : Said :=
  match chainP T z n t with
  | (l, e, false) => ⟨0, true, l, [], []⟩
  | (l, e, true) => match ofP z e t with
    | [] => ⟨if hasP T z e then 0 else 3, true, l, [soaP z], []⟩
    | last => ⟨0, true, l ++ last, [], []⟩
def serveP (T : List Zp) (zone n : List UInt8) (t : Int) : Said := match findP T zone with
  | none => ⟨5, false, [], [], []⟩
  | some z => if !Nm.underN n z.nm then ⟨5, false, [], [], []⟩ else match belowP T z.nm n with
    | some to => referP z to
    | none => inP T z n t
def lastP (T : List Zp) (z : Zp) (n : List UInt8) (t : Int) (an : List Rc.RR) : Int × List Rc.RR := if (ofP z n t).length = 0 && !hasP T z n then (3, an) else (0, an ++ ofP z n t)
def lookG (T : List Zp) (t : Int) : Nat → List UInt8 → List (List UInt8) → List Rc.RR → Int × List Rc.RR
  | 0, _, _, _ => (2, [])
  | k + 1, n, met, an =>
    match bestP T n with
    | (_, false) => (5, [])
    | (b, true) => match findP T b with
      | none => (2, [])
      | some z => match ofP z n 5 with
        | [] => lastP T z n t an
        | x :: _ =>
          if t = 5 then lastP T z n t an
          else if an.length = 8 then (2, [])
          else if (met ++ [Nm.foldN n]).contains (Nm.foldN (targP x.ty x.data).1) then (2, [])
          else lookG T t k (targP x.ty x.data).1 (met ++ [Nm.foldN n]) (an ++ [x])
def lookP (T : List Zp) (n : List UInt8) (t : Int) : Int × List Rc.RR := lookG T t 10 n [] []

/-! ### the law's zones and questions -/
def adrP (n : List UInt8) (a : Int) : Rc.RR := makeAN n 300 a
def aliR (n to : List UInt8) : Rc.RR := makeNN n 5 200 to
def za0 : Zp := ⟨[0], [adrP [1, 114, 0] 1, aliR [1, 120, 0] [1, 119, 1, 97, 0]], [([1, 114, 0], 1)]⟩
def za1 : Zp := ⟨[1, 97, 0], [adrP [2, 110, 115, 1, 97, 0] 2, adrP [1, 119, 1, 97, 0] 20, adrP [1, 119, 1, 97, 0] 21, aliR [1, 120, 1, 97, 0] [1, 121, 1, 97, 0], aliR [1, 121, 1, 97, 0] [1, 119, 1, 99, 1, 98, 0], aliR [1, 108, 1, 97, 0] [1, 108, 1, 97, 0]], [([2, 110, 115, 1, 97, 0], 2), ([2, 110, 115, 1, 98, 0], 3)]⟩
def za2 : Zp := ⟨[1, 98, 0], [adrP [2, 110, 115, 1, 98, 0] 3, adrP [1, 119, 1, 98, 0] 30, ⟨[1, 109, 1, 98, 0], 15, 1, 60, [0, 5, 1, 119, 1, 98, 0]⟩], [([2, 110, 115, 1, 98, 0], 3)]⟩
def za3 : Zp := ⟨[1, 99, 1, 98, 0], [adrP [1, 119, 1, 99, 1, 98, 0] 40, aliR [1, 122, 1, 99, 1, 98, 0] [1, 113, 1, 97, 0]], [([2, 110, 115, 1, 97, 0], 2)]⟩
def zonesZ (k : Nat) : List Zp := match k with
  | 1 => [za0, za1, za2, { za3 with sv := [([1, 119, 1, 98, 0], 30)] }]
  | 2 => [za0, { za1 with sv := [([2, 110, 115, 1, 98, 0], 3)] }, za2, { za3 with sv := [([2, 110, 115, 1, 97, 0], 2), ([1, 114, 0], 1)] }]
  | 3 => [za0, za1, { za2 with rs := za2.rs ++ [aliR [1, 100, 1, 98, 0] [1, 120, 0]] }, za3]
  | _ => [za0, za1, za2, za3]
def askN12 : List (List UInt8) := [[1, 119, 1, 97, 0], [1, 120, 0], [1, 120, 1, 97, 0], [1, 87, 1, 98, 0], [1, 119, 1, 99, 1, 98, 0], [1, 122, 1, 99, 1, 98, 0], [2, 110, 111, 1, 97, 0], [1, 108, 1, 97, 0], [1, 99, 1, 98, 0], [1, 109, 1, 98, 0], [0], [1, 100, 1, 98, 0]]
def askT9 : List Int := [1, 1, 1, 1, 15, 2, 6, 5, 16]
end Go.Proofs.YtkpcmnckdappnaaGreat

/- The contracts of name.labels, Count, Parent, Under: what each returns, at every text that memory bears. -/
namespace Go.Proofs.YtkpcmnckdappnaaGreat
open Go.RowKit

def szOf : Value → Nat
  | .string s => s.size
  | _ => 0

def RetOwn (w : World) (ls : List (List UInt8)) (e : Ending) (w' : World) : Prop := ∃ v, e = .returned v ∧ w'.ownsRow w.heap.size 9 1 v ls.length (encS ls) ∧ Below w.heap.size w w'

theorem wire_get {l : List UInt8} {r : List (List UInt8)} {s : ByteArray} (hs : bl s = Nm.wire (l :: r)) (hg : Nm.GoodL (l :: r)) :
    ∃ h : 0 < s.size, (s[0]).toNat = l.length ∧ 1 + l.length ≤ s.size ∧ s.extract 1 (1 + l.length) = mk l ∧ s.extract (1 + l.length) s.size = mk (Nm.wire r) ∧ s.size = 1 + l.length + (Nm.wire r).length := by
  have hsz : s.size = 1 + l.length + (Nm.wire r).length := by rw [size_bl, hs, Nm.wire_cons]; simp; omega
  have h0 : 0 < s.size := by omega
  obtain ⟨⟨_, h63⟩, _⟩ := Nm.good_cons.1 hg
  refine ⟨h0, ?_, by omega, ?_, ?_, hsz⟩
  · have h1 := getq h0
    rw [hs, Nm.wire_cons] at h1
    simp only [List.getElem?_cons_zero, Option.some.injEq] at h1
    rw [← h1]
    exact Nm.ofNat_toNat h63
  · rw [extract_mk, hs, Nm.wire_cons]
    simp
  · rw [extract_mk, hs, Nm.wire_cons, hsz]
    congr 1
    rw [show 1 + l.length = l.length + 1 from by omega, List.drop_succ_cons, List.drop_left]
    exact List.take_of_length_le (by omega)

set_option maxRecDepth 100000 in
set_option maxHeartbeats 1000000 in
theorem labels_own (s : ByteArray) (w : World) (hs : s.size ≤ maxLen) :
    Calls Tryz.prog 86 #[.string s] w (RetOwn w (Nm.labs (bl s))) := by
  have hv := valid_any s w hs
  cases hc : Nm.valid (bl s) with
  | false =>
    rw [hc] at hv
    have hfin := Go.Lib.hid (Nm.labs_not hc)
    have HV := Go.Lib.hid hv
    clear hv hc hs
    go_enter Tryz.func86, Tryz.ntmps86
    go_wp2_with (go_at_call 26; refine HV.out.mono ?_; rintro e w' ⟨rfl, rfl⟩)
    go_ret
    exact ⟨_, rfl, by rw [hfin.out]; exact World.ownsRow_nil _ _ _ _, Below.refl _ _⟩
  | true =>
    rw [hc] at hv
    have HLV := Go.Lib.hid (Nm.labs_valid hc)
    have HV := Go.Lib.hid hv
    clear hv hc hs
    generalize hg : w.heap.size = g at *
    have HG := Go.Lib.hid hg
    clear hg
    go_enter Tryz.func86, Tryz.ntmps86
    go_wp2_with (go_at_call 26; refine HV.out.mono ?_; rintro e w' ⟨rfl, rfl⟩)
    go_loopw [2, 0, 3] (fun v n _ wr => ∃ (done rest : List (List UInt8)) (s1 : ByteArray), n = .string s1 ∧ bl s1 = Nm.wire rest ∧ Nm.GoodL rest ∧ Nm.labs (bl s) = done ++ rest ∧ s1.size ≤ 255 ∧ done.length ≤ 255 ∧
        wr.ownsRow g 9 1 v done.length (encS done) ∧ Below g w wr)
      (fun _ n _ _ => szOf n)
    case atStart =>
      refine ⟨[], Nm.labs (bl s), s, rfl, HLV.out.1, HLV.out.2.1, rfl, by rw [size_bl]; exact HLV.out.2.2, by simp, World.ownsRow_nil _ _ _ _, Below.refl _ _⟩
    case round =>
      obtain ⟨done, rest, s1, rfl, hs1, hgr, hl, hsz, hdl, hown, hb⟩ := hrel
      have HO := Go.Lib.hid hown
      have HB := Go.Lib.hid hb
      have HL := Go.Lib.hid hl
      have hgw : g ≤ wr.heap.size := by have := HB.out.size; rw [HG.out] at this; exact this
      cases rest with
      | nil =>
        have h1 : (s1.toList == [0]) = true := by rw [toList_bl, hs1]; rfl
        clear hown hb hl hs1 hgr
        go_wp2
        go_ret
        exact ⟨_, rfl, by rw [HL.out, List.append_nil, HG.out]; exact HO.out, by rw [HG.out]; exact HB.out⟩
      | cons l rest =>
        have h1 : (s1.toList == [0]) = false := by rw [toList_bl, hs1, beq_eq_false_iff_ne]; exact Nm.wire_ne_root
        obtain ⟨h0, hc0, hfit, he1, he2, hsz2⟩ := wire_get hs1 hgr
        have hgl := Nm.good_cons.1 hgr
        have hll := hgl.1
        have hlen1 : done.length + 1 ≤ 255 := by
          have h5 := HL.out
          have h6 := Nm.wire_length_gt (Nm.labs (bl s))
          have h7 := HLV.out.1
          have h8 := HLV.out.2.2
          rw [h7] at h8
          rw [h5, List.length_append, List.length_cons] at h6
          rw [h5] at h8
          omega
        generalize hcc : s1[0] = c at hc0
        have hcb := c.toNat_lt
        have HC0 := Go.Lib.hid hc0
        rw [← hc0] at hfit he1 he2
        have HE1 := Go.Lib.hid he1
        have HE2 := Go.Lib.hid he2
        have HSZ2 := Go.Lib.hid hsz2
        have HGR := Go.Lib.hid hgl.2
        clear hown hb hl hs1 hgr he1 he2 hc0 hsz2 hgl
        go_wp2_with fail
        have p1 : 0 ≤ 1 + (c.toNat : Int) := by omega
        have p2 : 1 + (c.toNat : Int) ≤ (s1.size : Int) := by omega
        have p3 : (1 : Int) ≤ 1 + (c.toNat : Int) := by omega
        have p4 : (1 + (c.toNat : Int)).toNat = 1 + c.toNat := by omega
        refine Go.Mix.wp_region_mix (Es := [4, 5]) (fun _ => True) mixed (by kernel_rfl) trivial (fun _ => ?_)
        iterate 4 (refine Go.Mix.mix_step rfl (fun K hK => ?_); go_simp; refine hK _ _ ?_; clear hK K)
        (refine Go.Mix.mix_eff rfl (fun K hK => ?_); go_simp; refine hK _ _ trivial ?_; clear hK K)
        refine mix_app eiS (.tmp 13) (.tmp 17) rfl rfl rfl g rfl rfl ((HO.out.drew).alloc _) (slc_new _ 1 1 9 [.string (s1.extract 1 (1 + c.toNat))] rfl (by decide)).drew ?h1 ?h2 ?h3 ?h4 ?h5
        case h1 => intro u hu; simp at hu; subst hu; rfl
        case h2 => unfold maxLen; omega
        case h3 => omega
        case h4 => simp; omega
        intro v1 w1 hown1 hg1
        refine ⟨trivial, ?_⟩
        have hown2 : w1.ownsRow g 9 1 v1 (done ++ [l]).length (encS (done ++ [l])) := by
          rw [List.length_append, encS_snoc, ← HE1.out]; exact hown1
        have hb2 : Below g w w1 := below_app (HB.out.drew.alloc hgw _) ((HO.out.drew).alloc _) hg1 (Nat.le_refl _) (by simp; omega)
        have HO2 := Go.Lib.hid hown2
        have HB2 := Go.Lib.hid hb2
        clear hown1 hg1 hown2 hb2
        iterate 5 (refine Go.Mix.mix_step rfl (fun K hK => ?_); go_simp; refine hK _ _ ?_; clear hK K)
        refine Go.Mix.mix_nil ?_
        go_wp2_with fail
        go_roundw
        case rel => exact ⟨done ++ [l], rest, s1.extract (1 + c.toNat) s1.size, rfl, by rw [HE2.out, bl_mk], HGR.out, by rw [HL.out]; simp, by rw [HE2.out, size_mk]; have := HSZ2.out; omega, by simp; omega, HO2.out, HB2.out⟩
        case measure =>
          simp [szOf]
          omega

theorem labels_any (s : ByteArray) (w : World) (hs : s.size ≤ maxLen) :
    Calls Tryz.prog 86 #[.string s] w (RetStrs w (Nm.labs (bl s))) := by
  refine (labels_own s w hs).mono ?_
  rintro e w' ⟨v, rfl, h1, h2⟩
  exact ⟨v, rfl, strs_owned h1, h2⟩

set_option maxRecDepth 100000 in
theorem Count_any (s : ByteArray) (w : World) (hs : s.size ≤ maxLen) :
    Calls Tryz.prog 65 #[.string s] w fun e w' => e = .returned (.int .i64 (Nm.labs (bl s)).length) ∧ Below w.heap.size w w' := by
  have hl := labels_any s w hs
  have HL := Go.Lib.hid hl
  clear hl hs
  generalize (Nm.labs (bl s)) = ls at *
  go_enter Tryz.func65, Tryz.ntmps65
  go_wp2_with fail
  refine HL.out.mono ?_
  rintro e w1 ⟨v, rfl, hst, hb⟩
  obtain ⟨a, cap, rfl, _, _⟩ := hst.slice
  clear hst
  go_wp2_with fail
  go_ret
  exact ⟨rfl, hb⟩

theorem labs_le (s : List UInt8) : (Nm.labs s).length ≤ 255 := by
  rcases Nm.valid_cases s with ⟨_, h⟩ | ⟨_, h, _, h3⟩
  · rw [h]; simp
  · have := Nm.wire_length_gt (Nm.labs s)
    rw [← h] at this
    omega

theorem mk_root : mk [0] = ⟨#[0]⟩ := rfl

set_option maxRecDepth 100000 in
theorem Parent_any (s : ByteArray) (w : World) (hs : s.size ≤ maxLen) :
    Calls Tryz.prog 66 #[.string s] w fun e w' => e = .returned (.string (mk (Nm.parentN (bl s)))) ∧ w = w' := by
  have hv := valid_any s w hs
  cases hc : Nm.valid (bl s) with
  | false =>
    rw [hc] at hv
    have hfin : Hid (mk (Nm.parentN (bl s)) = ⟨#[0]⟩) := Go.Lib.hid (by unfold Nm.parentN; rw [Nm.labs_not hc]; rfl)
    have HV := Go.Lib.hid hv
    clear hv hc hs
    go_enter Tryz.func66, Tryz.ntmps66
    go_wp2_with (go_at_call 26; refine HV.out.mono ?_; rintro e w' ⟨rfl, rfl⟩)
    go_ret
    exact ⟨ret_str hfin.out.symm, rfl⟩
  | true =>
    rw [hc] at hv
    have HV := Go.Lib.hid hv
    obtain ⟨h1, h2, h3⟩ := Nm.labs_valid hc
    cases hl : Nm.labs (bl s) with
    | nil =>
      have hfin : Hid (mk (Nm.parentN (bl s)) = ⟨#[0]⟩) := Go.Lib.hid (by unfold Nm.parentN; rw [hl]; rfl)
      have heq : (s.toList == [0]) = true := by rw [toList_bl, h1, hl]; rfl
      clear hv hc hs h1 h2 h3 hl
      go_enter Tryz.func66, Tryz.ntmps66
      go_wp2_with (go_at_call 26; refine HV.out.mono ?_; rintro e w' ⟨rfl, rfl⟩)
      go_ret
      exact ⟨ret_str hfin.out.symm, rfl⟩
    | cons l r =>
      rw [hl] at h1 h2
      have heq : (s.toList == [0]) = false := by rw [toList_bl, h1, beq_eq_false_iff_ne]; exact Nm.wire_ne_root
      obtain ⟨h0, hc0, hfit, _, he2, hsz2⟩ := wire_get h1 h2
      have hfin : Hid (mk (Nm.parentN (bl s)) = s.extract (1 + l.length) s.size) := Go.Lib.hid (by unfold Nm.parentN; rw [hl, he2]; rfl)
      generalize hcc : s[0] = c at hc0
      have hcb := c.toNat_lt
      rw [← hc0] at hfin hfit
      clear hv hc hs h1 h2 h3 hl he2 hsz2 hc0
      have p2 : 1 + (c.toNat : Int) ≤ (s.size : Int) := by omega
      go_enter Tryz.func66, Tryz.ntmps66
      go_wp2_with (go_at_call 26; refine HV.out.mono ?_; rintro e w' ⟨rfl, rfl⟩)
      go_ret
      exact ⟨ret_str hfin.out.symm, rfl⟩

set_option maxRecDepth 100000 in
set_option maxHeartbeats 1000000 in
theorem Under_any (s t : ByteArray) (w : World) (hs : s.size ≤ maxLen) (ht : t.size ≤ maxLen) :
    Calls Tryz.prog 32 #[.string s, .string t] w fun e w' => e = .returned (.bool (Nm.underN (bl s) (bl t))) ∧ Below w.heap.size w w' := by
  have hv := valid_any s
  have hu := valid_any t
  have hls := labs_le (bl s)
  have hlt := labs_le (bl t)
  have HV := Go.Lib.hid hv
  have HU := Go.Lib.hid hu
  have HS := Go.Lib.hid hs
  have HT := Go.Lib.hid ht
  clear hv hu hs ht
  have hfin : Hid (Nm.valid (bl s) = false ∨ Nm.valid (bl t) = false ∨ (Nm.labs (bl s)).length < (Nm.labs (bl t)).length → Nm.underN (bl s) (bl t) = false) := Go.Lib.hid (by
    rintro (h | h | h)
    · simp [Nm.underN, h]
    · simp [Nm.underN, h]
    · exact Nm.under_short h)
  have hyes : Hid (Nm.valid (bl s) = true → Nm.valid (bl t) = true → (Nm.labs (bl t)).length ≤ (Nm.labs (bl s)).length → Nm.sameN (Nm.parents ((Nm.labs (bl s)).length - (Nm.labs (bl t)).length) (bl s)) (bl t) = Nm.underN (bl s) (bl t)) :=
    Go.Lib.hid Nm.under_parents
  generalize hA : Nm.valid (bl s) = va at *
  generalize hB : Nm.valid (bl t) = vb at *


  have HA := Go.Lib.hid hA
  have HB := Go.Lib.hid hB
  have hcs := Count_any s w HS.out
  generalize hNS : (Nm.labs (bl s)).length = ns at *
  have HCS := Go.Lib.hid hcs
  have hct := fun w => Count_any t w HT.out
  generalize hNT : (Nm.labs (bl t)).length = nt at *
  have HCT := Go.Lib.hid hct
  clear hA hB hNS hNT hcs hct
  have hpl : ∀ k, (Nm.parents k (bl s)).length ≤ maxLen := fun k => by
    have := Nm.parents_length k (bl s)
    have h2 := HS.out
    rw [size_bl] at h2
    unfold maxLen at *
    omega
  have HPL := Go.Lib.hid hpl
  clear hpl
  cases va with
  | false =>
    go_enter Tryz.func32, Tryz.ntmps32
    go_wp2_with fail
    refine HCS.out.mono ?_; rintro e w1 ⟨rfl, hb1⟩
    go_wp2_with fail
    refine (HCT.out w1).mono ?_; rintro e w2 ⟨rfl, hb2⟩
    go_wp2_with fail
    refine (HV.out w2 HS.out).mono ?_; rintro e w' ⟨rfl, rfl⟩
    go_wp2_with fail
    go_ret
    exact ⟨ret_bool (hfin.out (by first | exact .inl HA.out | simp)).symm, hb1.trans (hb2.mono hb1.size)⟩
  | true =>
    cases vb with
    | false =>
      go_enter Tryz.func32, Tryz.ntmps32
      go_wp2_with fail
      refine HCS.out.mono ?_; rintro e w1 ⟨rfl, hb1⟩
      go_wp2_with fail
      refine (HCT.out w1).mono ?_; rintro e w2 ⟨rfl, hb2⟩
      go_wp2_with fail
      refine (HV.out w2 HS.out).mono ?_; rintro e w' ⟨rfl, rfl⟩
      go_wp2_with fail
      refine (HU.out w2 HT.out).mono ?_; rintro e w' ⟨rfl, rfl⟩
      go_wp2_with fail
      go_ret
      exact ⟨ret_bool (hfin.out (by first | exact .inr (.inl HB.out) | simp)).symm, hb1.trans (hb2.mono hb1.size)⟩
    | true =>
      by_cases hk : nt ≤ ns
      · go_enter Tryz.func32, Tryz.ntmps32
        go_wp2_with fail
        refine HCS.out.mono ?_; rintro e w1 ⟨rfl, hb1⟩
        go_wp2_with fail
        refine (HCT.out w1).mono ?_; rintro e w2 ⟨rfl, hb2⟩
        go_wp2_with fail
        refine (HV.out w2 HS.out).mono ?_; rintro e w' ⟨rfl, rfl⟩
        go_wp2_with fail
        refine (HU.out w2 HT.out).mono ?_; rintro e w' ⟨rfl, rfl⟩
        go_wp2_with fail
        have HBW := Go.Lib.hid (hb1.trans (hb2.mono hb1.size))
        clear hb1 hb2
        go_loop [0, 24] (fun n i => ∃ k : Nat, i = .int .i64 k ∧ k ≤ ns - nt ∧ n = .string (mk (Nm.parents k (bl s)))) (fun _ i => (ns - nt) - (intOf i).toNat)
        case atStart => exact ⟨0, rfl, by omega, by simp [Nm.parents, mk_bl]⟩
        case round =>
          obtain ⟨k, rfl, hkk, rfl⟩ := hrel
          have hp := HPL.out k
          by_cases hlt2 : k < ns - nt
          · have hpar : ∀ w, _ := fun w => Parent_any (mk (Nm.parents k (bl s))) w (by rw [size_mk]; exact hp)
            have hsucc : Hid (Nm.parentN (bl (mk (Nm.parents k (bl s)))) = Nm.parents (k + 1) (bl s)) := Go.Lib.hid (by rw [bl_mk, Nm.parents_succ])
            have HPAR := Go.Lib.hid hpar
            clear hpar hp
            generalize mk (Nm.parents k (bl s)) = x at *
            have h5 : (k : Int) < (ns : Int) - nt := by omega
            go_wp2_with fail
            refine (HPAR.out _).mono ?_
            rintro e w' ⟨rfl, rfl⟩
            rw [hsucc.out]
            go_wp2_with fail
            go_round
            case rel => exact ⟨k + 1, by go_num, by omega, rfl⟩
            case measure => simp [intOf]; omega
          · have hke : k = ns - nt := by omega
            have hsame : Hid (Nm.sameN (bl (mk (Nm.parents k (bl s)))) (bl t) = Nm.underN (bl s) (bl t)) := Go.Lib.hid (by rw [bl_mk, hke]; exact hyes.out (by first | exact HA.out | simp) (by first | exact HB.out | simp) hk)
            have hsm := Same_any (mk (Nm.parents k (bl s))) t w2 (by rw [size_mk]; exact hp) HT.out
            have HSM := Go.Lib.hid hsm
            clear hsm hp hke
            generalize mk (Nm.parents k (bl s)) = x at *
            have h5 : (ns : Int) - nt ≤ (k : Int) := by omega
            go_wp2_with fail
            refine HSM.out.mono ?_
            rintro e w' ⟨rfl, hb3⟩
            go_wp2_with fail
            go_ret
            exact ⟨ret_bool hsame.out, HBW.out.trans (hb3.mono HBW.out.size)⟩
      · have hk' : (ns : Int) - nt < 0 := by omega
        go_enter Tryz.func32, Tryz.ntmps32
        go_wp2_with fail
        refine HCS.out.mono ?_; rintro e w1 ⟨rfl, hb1⟩
        go_wp2_with fail
        refine (HCT.out w1).mono ?_; rintro e w2 ⟨rfl, hb2⟩
        go_wp2_with fail
        refine (HV.out w2 HS.out).mono ?_; rintro e w' ⟨rfl, rfl⟩
        go_wp2_with fail
        refine (HU.out w2 HT.out).mono ?_; rintro e w' ⟨rfl, rfl⟩
        go_wp2_with fail
        go_ret
        exact ⟨ret_bool (hfin.out (.inr (.inr (by omega)))).symm, hb1.trans (hb2.mono hb1.size)⟩
end Go.Proofs.YtkpcmnckdappnaaGreat

/- The contracts of name.order, slices.Compare, name.Less, name.Common, and of the reference's Made, Parent, Under, Less, Common. -/
namespace Go.Proofs.YtkpcmnckdappnaaGreat
open Go.RowKit

/-! ### a row that is turned round -/
theorem Row.setCells {g : Nat} : ∀ (vs : List Value) (o : Nat) (cs : List Value) (w : World), Row w g cs → o + vs.length ≤ cs.length → Row (w.setCells g o vs) g (cs.take o ++ vs ++ cs.drop (o + vs.length))
  | [], o, cs, w, h, _ => by simpa [World.setCells] using h
  | v :: vs, o, cs, w, h, hl => by
    simp only [List.length_cons] at hl
    have h1 := Row.setCells vs (o + 1) (cs.set o v) (w.setCell ⟨g, o, none⟩ v) (h.set o v) (by rw [List.length_set]; omega)
    have e : (cs.set o v).take (o + 1) ++ vs ++ (cs.set o v).drop (o + 1 + vs.length) = cs.take o ++ (v :: vs) ++ cs.drop (o + (vs.length + 1)) := by
      rw [List.take_succ_eq_append_getElem (by rw [List.length_set]; omega), List.getElem_set_self, List.take_set_of_le (Nat.le_refl _), List.drop_set_of_lt (by omega)]
      simp [Nat.add_comm, Nat.add_left_comm]
    rw [e] at h1
    exact h1

theorem below_setCells {B g : Nat} (hg : B ≤ g) : ∀ (vs : List Value) (o : Nat) (w0 w : World), Below B w0 w → Below B w0 (w.setCells g o vs)
  | [], _, _, _, h => h
  | v :: vs, o, w0, _, h => below_setCells hg vs (o + 1) w0 _ (h.setCell (p := ⟨g, o, none⟩) hg v)

theorem row_of_owns {w : World} {base e g n cap : Nat} {cs : List Value} (h : w.ownsRow base e 1 (.slice (some ⟨g, 0, none⟩) n cap) n cs) : Row w g cs ∧ base ≤ g ∧ n ≤ cap ∧ cap ≤ maxLen := by
  obtain ⟨hl, h2⟩ := h
  rcases h2 with ⟨h2, _⟩ | ⟨g', cap', cur, hv, hb, hg, hn, hm, hs, ht⟩
  · cases h2
  · simp only [Value.slice.injEq, Option.some.injEq, Addr.mk.injEq] at hv
    obtain ⟨⟨rfl, _⟩, _, rfl⟩ := hv
    simp only [Nat.mul_one] at hl hs ht
    exact ⟨⟨cur, e, 0, 0, hg, by rw [hl]; exact ht, by omega, .inr rfl⟩, hb, hn, hm⟩

theorem reverse_any {w : World} {base : Nat} {v : Value} {ls : List (List UInt8)} (hown : w.ownsRow base 9 1 v ls.length (encS ls)) (hb : ls.length ≤ 4611686018427387904) :
    Calls Tryz.prog 126 #[v] w fun e w' => e = .returned (.tuple #[]) ∧ Strs w' v ls.reverse ∧ Below base w w' := by
  by_cases h0 : ls.length = 0
  · have hl : ls = [] := List.eq_nil_of_length_eq_zero h0
    subst hl
    obtain ⟨a, cap, rfl, _⟩ : ∃ a cap, v = .slice a 0 cap ∧ True := by
      rcases hown.2 with ⟨rfl, _⟩ | ⟨g, cap, cur, rfl, _⟩
      · exact ⟨_, _, rfl, trivial⟩
      · exact ⟨_, _, rfl, trivial⟩
    refine (Tryz.slices_Reverse_string_empty a cap w).mono ?_
    rintro e w' ⟨rfl, rfl⟩
    exact ⟨rfl, strs_owned hown, Below.refl _ _⟩
  · obtain ⟨g, cap, rfl⟩ : ∃ g cap, v = .slice (some ⟨g, 0, none⟩) ls.length cap := by
      rcases hown.2 with ⟨_, h⟩ | ⟨g, cap, cur, rfl, _⟩
      · exact absurd h h0
      · exact ⟨_, _, rfl⟩
    obtain ⟨hrow, hbg, hn, hm⟩ := row_of_owns hown
    have hlen : (encS ls).length = ls.length := by simp [encS]
    refine (Tryz.slices_Reverse_string_cells g 0 ls.length cap (fun i => mk (ls.getD i [])) w (by omega) (fun i hi => ?_) (fun j hj => ?_)).mono ?_
    · rw [Nat.zero_add, hrow.cell (by rw [hlen]; exact hi)]
      simp [encS, hi]
    · rw [Nat.zero_add]
      exact hrow.free (by rw [hlen]; exact hj)
    · rintro e w' ⟨rfl, q, rfl⟩
      have hstr : (Go.Lib.strsOf (fun i => mk (ls.getD i [])) ls.length).reverse.map encStr = encS ls.reverse := by
        have e : Go.Lib.strsOf (fun i => mk (ls.getD i [])) ls.length = ls := by
          unfold Go.Lib.strsOf
          refine List.ext_getElem? fun i => ?_
          by_cases hi : i < ls.length
          · simp [hi, mk]
          · simp [hi]
        rw [e]
        rfl
      rw [hstr]
      have hd : Row (w.drewN q) g (encS ls) := hrow
      have h1 := Row.setCells (encS ls.reverse) 0 (encS ls) (w.drewN q) hd (by simp [encS])
      have h2 : (encS ls).take 0 ++ encS ls.reverse ++ (encS ls).drop (0 + (encS ls.reverse).length) = encS ls.reverse := by
        rw [List.take_zero, List.nil_append, List.drop_of_length_le (by simp [encS]), List.append_nil]
      rw [h2] at h1
      refine ⟨rfl, ?_, below_setCells hbg _ _ _ _ ⟨rfl, rfl, rfl, Nat.le_refl _, fun _ _ => rfl⟩⟩
      unfold Strs
      rw [List.length_reverse]
      exact h1.slc (by simp [encS]) hn hm

/-! ### name.order -/
set_option maxRecDepth 100000 in
set_option maxHeartbeats 1000000 in
theorem order_any (s : ByteArray) (w : World) (hs : s.size ≤ maxLen) :
    Calls Tryz.prog 119 #[.string s] w (RetStrs w (Nm.orderF (Nm.labs (bl s)))) := by
  have hl := labels_any s w hs
  have hle := labs_le (bl s)
  have hsm : ∀ l ∈ Nm.labs (bl s), l.length ≤ 63 := by
    rcases Nm.valid_cases (bl s) with ⟨_, h⟩ | ⟨_, _, h, _⟩
    · rw [h]; simp
    · exact fun l hl => (h l hl).2
  have HL := Go.Lib.hid hl
  have HSM := Go.Lib.hid hsm
  clear hl hs hsm
  generalize Nm.labs (bl s) = ls at *
  generalize hg : w.heap.size = g at *
  have HG := Go.Lib.hid hg
  clear hg
  go_enter Tryz.func119, Tryz.ntmps119
  go_wp2_with fail
  refine HL.out.mono ?_
  rintro e w1 ⟨v, rfl, hst, hb⟩
  obtain ⟨a, cap, rfl, _, _⟩ := hst.slice
  rw [HG.out] at hb
  have HST := Go.Lib.hid hst
  have HB := Go.Lib.hid hb
  have hgw : g ≤ w1.heap.size := by have := hb.size; rw [HG.out] at this; exact this
  clear hst hb
  generalize hn : ls.length = n at *
  have HN := Go.Lib.hid hn
  clear hn
  go_wp2_with fail
  go_loopw [2, 8] (fun v i wr => ∃ k : Nat, i = .int .i64 k ∧ k ≤ n ∧ wr.ownsRow w1.heap.size 9 1 v k (encS ((ls.take k).map Nm.foldB)) ∧ Below w1.heap.size w1 wr) (fun _ i _ => n - (intOf i).toNat)
  case atStart => exact ⟨0, rfl, by omega, World.ownsRow_nil _ _ _ _, Below.refl _ _⟩
  case round =>
    obtain ⟨k, rfl, hk, hown, hbr⟩ := hrel
    have HO := Go.Lib.hid hown
    have HBR := Go.Lib.hid hbr
    have hws := hbr.size
    clear hown hbr
    by_cases hlt : k < n
    · have hst := HST.out
      have hn0 : 0 < ls.length := by rw [HN.out]; omega
      rw [← HN.out] at hst
      obtain ⟨b, off, rfl, hbw, hcell⟩ := Strs.at hst hn0
      have hc := hcell k (by rw [HN.out]; exact hlt)
      have hc2 : wr.cell? ⟨b, off + k, none⟩ = some (.string (mk (ls.getD k []))) := by rw [HBR.out.cell (p := ⟨b, off + k, none⟩) hbw]; exact hc
      have hx : (ls.getD k []).length ≤ 63 := HSM.out _ (by rw [List.getD_eq_getElem?_getD, List.getElem?_eq_getElem (by rw [HN.out]; exact hlt)]; simp)
      have hstep : Hid ((ls.take (k + 1)).map Nm.foldB = (ls.take k).map Nm.foldB ++ [Nm.foldB (ls.getD k [])]) := Go.Lib.hid (by
        rw [List.take_succ_eq_append_getElem (by rw [HN.out]; exact hlt), List.map_append]
        simp [HN.out, hlt])
      clear hst hcell hc
      have hfold := fold_any (mk (ls.getD k [])) wr (by rw [size_mk]; unfold maxLen; omega)
      rw [bl_mk] at hfold
      have HF := Go.Lib.hid hfold
      clear hfold
      generalize ls.getD k [] = x at *
      go_wp2_with fail
      refine HF.out.mono ?_
      rintro e w2 ⟨rfl, hb2⟩
      have HB2 := Go.Lib.hid hb2
      have HO2 := Go.Lib.hid (HO.out.kept (w' := w2) (row := none) ⟨hb2.os, hb2.tape, hb2.output, hb2.size, fun k hk _ => hb2.block k hk⟩ (by cases Value.ownBlock _ <;> simp))
      have hws2 := hb2.size
      clear hb2
      go_wp2_with (at_builtin; refine wpList_app eiS (.tmp 12) (.tmp 15) rfl rfl w1.heap.size rfl rfl (HO2.out.alloc _) (slc_new _ 1 1 9 [.string (mk (Nm.foldB x))] rfl (by decide)) ?h1 ?h2 ?h3 ?h4 ?h5; rotate_right; intro v1 w3 hown1 hg1)
      case h1 => intro u hu; simp at hu; subst hu; rfl
      case h2 => unfold maxLen; omega
      case h3 => omega
      case h4 => simp; omega
      go_roundw
      case rel => exact ⟨k + 1, by go_num, by omega, by rw [hstep.out, encS_snoc]; exact hown1, below_app ((HBR.out.trans (HB2.out.mono hws)).alloc (by omega) _) (HO2.out.alloc _) hg1 (Nat.le_refl _) (by simp; omega)⟩
      case measure => simp [intOf]; omega
    · have hke : k = n := by omega
      have hall : Hid ((ls.take k).map Nm.foldB = ls.map Nm.foldB) := Go.Lib.hid (by rw [hke, ← HN.out, List.take_length])
      have hown2 : wr.ownsRow w1.heap.size 9 1 u2 (ls.map Nm.foldB).length (encS (ls.map Nm.foldB)) := by
        have := HO.out
        rw [hall.out, hke] at this
        rw [List.length_map, HN.out]
        exact this
      have hrev := reverse_any hown2 (by rw [List.length_map, HN.out]; omega)
      have HREV := Go.Lib.hid hrev
      clear hke hown2 hrev
      go_wp2_with fail
      refine HREV.out.mono ?_
      rintro e w2 ⟨rfl, hst2, hb2⟩
      go_wp2_with fail
      go_ret
      exact ⟨_, rfl, hst2, by rw [HG.out]; exact HB.out.trans ((HBR.out.trans hb2).mono hgw)⟩

theorem bytesLess_ltB : ∀ (a b : List UInt8), Op.bytesLess a b = Nm.ltB a b
  | [], [] => rfl
  | _ :: _, [] => rfl
  | [], _ :: _ => rfl
  | a :: x, b :: y => by simp only [Op.bytesLess, Nm.ltB, bytesLess_ltB x y]

set_option maxRecDepth 100000 in
theorem cmp_any (a b : List UInt8) (w : World) :
    Calls Tryz.prog 125 #[.string (mk a), .string (mk b)] w fun e w' => e = .returned (.int .i64 (Nm.cmpB a b)) ∧ w = w' := by
  have ha : (mk a).toList = a := by rw [toList_bl, bl_mk]
  have hb : (mk b).toList = b := by rw [toList_bl, bl_mk]
  have hl := bytesLess_ltB a b
  by_cases h1 : Nm.ltB a b = true
  · have hfin : Hid (Nm.cmpB a b = -1) := Go.Lib.hid (by unfold Nm.cmpB; simp [h1])
    have h2 : Op.bytesLess (mk a).toList (mk b).toList = true := by rw [ha, hb, hl]; exact h1
    clear hl h1
    have HA := Go.Lib.hid ha
    have HB := Go.Lib.hid hb
    clear ha hb
    go_enter Tryz.func125, Tryz.ntmps125
    go_wp2
    go_ret
    exact ⟨ret_int hfin.out.symm, rfl⟩
  · have h1' : Nm.ltB a b = false := by simpa using h1
    have h2 : Op.bytesLess (mk a).toList (mk b).toList = false := by rw [ha, hb, hl]; exact h1'
    by_cases he : a = b
    · have hfin : Hid (Nm.cmpB a b = 0) := Go.Lib.hid (Nm.cmpB_zero.2 he)
      have h3 : ((mk a).toList == (mk b).toList) = true := by rw [ha, hb, he]; simp
      clear hl h1 h1' he ha hb
      go_enter Tryz.func125, Tryz.ntmps125
      go_wp2
      go_ret
      exact ⟨ret_int hfin.out.symm, rfl⟩
    · have hfin : Hid (Nm.cmpB a b = 1) := Go.Lib.hid (by unfold Nm.cmpB; simp [h1', he])
      have h3 : ((mk a).toList == (mk b).toList) = false := by rw [ha, hb, beq_eq_false_iff_ne]; exact he
      clear hl h1 h1' he ha hb
      go_enter Tryz.func125, Tryz.ntmps125
      go_wp2
      go_ret
      exact ⟨ret_int hfin.out.symm, rfl⟩

set_option maxRecDepth 100000 in
set_option maxHeartbeats 1000000 in
theorem compare_any (x y : List (List UInt8)) (ax ay : Option Addr) (cx cy : Nat) (w : World) (hx : Strs w (.slice ax x.length cx) x) (hy : Strs w (.slice ay y.length cy) y) (hlx : x.length ≤ 4611686018427387904) (hly : y.length ≤ 4611686018427387904) :
    Calls Tryz.prog 118 #[.slice ax x.length cx, .slice ay y.length cy] w fun e w' => e = .returned (.int .i64 (Nm.cmpL x y)) ∧ w = w' := by
  have HX := Go.Lib.hid hx
  have HY := Go.Lib.hid hy
  clear hx hy
  generalize hn : x.length = n at *
  generalize hm : y.length = m at *
  have HN := Go.Lib.hid hn
  have HM := Go.Lib.hid hm
  clear hn hm
  go_enter Tryz.func118, Tryz.ntmps118
  go_wp2_with fail
  go_loop [11] (fun i => ∃ k : Nat, i = .int .i64 k ∧ k ≤ n ∧ k ≤ m ∧ x.take k = y.take k) (fun i => n - (intOf i).toNat)
  case atStart => exact ⟨0, rfl, by omega, by omega, by simp⟩
  case round =>
    obtain ⟨k, rfl, hk, hkm, heq⟩ := hrel
    have hdrop : Hid (Nm.cmpL x y = Nm.cmpL (x.drop k) (y.drop k)) := Go.Lib.hid (Nm.cmpL_drop heq (by rw [HN.out]; exact hk) (by rw [HM.out]; exact hkm))
    have HEQ := Go.Lib.hid heq
    clear heq
    by_cases hlt : k < n
    · have hstx := HX.out
      rw [← HN.out] at hstx
      obtain ⟨b, off, rfl, hbw, hcell⟩ := Strs.at hstx (by rw [HN.out]; omega)
      have hcx := hcell k (by rw [HN.out]; exact hlt)
      have hdx : x.drop k = x.getD k [] :: x.drop (k + 1) := by
        rw [List.drop_eq_getElem_cons (by rw [HN.out]; exact hlt)]; simp [HN.out, hlt]
      clear hstx hcell
      by_cases hltm : k < m
      · have hsty := HY.out
        rw [← HM.out] at hsty
        obtain ⟨b2, off2, rfl, hbw2, hcell2⟩ := Strs.at hsty (by rw [HM.out]; omega)
        have hcy := hcell2 k (by rw [HM.out]; exact hltm)
        have hdy : y.drop k = y.getD k [] :: y.drop (k + 1) := by
          rw [List.drop_eq_getElem_cons (by rw [HM.out]; exact hltm)]; simp [HM.out, hltm]
        have htx : x.take (k + 1) = x.take k ++ [x.getD k []] := by rw [List.take_succ_eq_append_getElem (by rw [HN.out]; exact hlt)]; simp [HN.out, hlt]
        have hty : y.take (k + 1) = y.take k ++ [y.getD k []] := by rw [List.take_succ_eq_append_getElem (by rw [HM.out]; exact hltm)]; simp [HM.out, hltm]
        have HDX := Go.Lib.hid hdx
        have HDY := Go.Lib.hid hdy
        have HTX := Go.Lib.hid htx
        have HTY := Go.Lib.hid hty
        clear hsty hcell2 hdx hdy htx hty
        generalize x.getD k [] = p at *
        generalize y.getD k [] = q at *
        by_cases hc0 : Nm.cmpB p q = 0
        · have hpq := Nm.cmpB_zero.1 hc0
          have HPQ := Go.Lib.hid hpq
          have HC0 := Go.Lib.hid hc0
          clear hc0 hpq
          go_wp2_with (go_at_call 125; refine (cmp_any _ _ _).mono ?_; rintro e w' ⟨rfl, rfl⟩; rw [HC0.out])
          go_round
          case rel => exact ⟨k + 1, by go_num, by omega, by omega, by rw [HTX.out, HTY.out, HEQ.out, HPQ.out]⟩
          case measure => simp [intOf]; omega
        · have hfin : Hid (Nm.cmpL x y = Nm.cmpB p q) := Go.Lib.hid (by rw [hdrop.out, HDX.out, HDY.out]; simp [Nm.cmpL, hc0])
          have hb0 : (Nm.cmpB p q == 0) = false := by rw [beq_eq_false_iff_ne]; exact hc0
          have HC0 := Go.Lib.hid hc0
          clear hc0
          generalize hcp : Nm.cmpB p q = cc at *
          have HCP := Go.Lib.hid hcp
          clear hcp
          go_wp2_with (go_at_call 125; refine (cmp_any _ _ _).mono ?_; rintro e w' ⟨rfl, rfl⟩; rw [HCP.out])
          go_ret
          exact ⟨ret_int hfin.out.symm, rfl⟩
      · have hfin : Hid (Nm.cmpL x y = 1) := Go.Lib.hid (by
          rw [hdrop.out, hdx, List.drop_of_length_le (l := y) (by rw [HM.out]; omega)]; rfl)
        clear hdx
        go_wp2_with fail
        go_ret
        exact ⟨ret_int hfin.out.symm, rfl⟩
    · have hxe : x.drop k = [] := List.drop_of_length_le (by rw [HN.out]; omega)
      by_cases hnm : n < m
      · have hfin : Hid (Nm.cmpL x y = -1) := Go.Lib.hid (by
          rw [hdrop.out, hxe, List.drop_eq_getElem_cons (by rw [HM.out]; omega)]; rfl)
        clear hxe
        go_wp2_with fail
        go_ret
        exact ⟨ret_int hfin.out.symm, rfl⟩
      · have hfin : Hid (Nm.cmpL x y = 0) := Go.Lib.hid (by
          rw [hdrop.out, hxe, List.drop_of_length_le (l := y) (by rw [HM.out]; omega)]; rfl)
        clear hxe
        go_wp2_with fail
        go_ret
        exact ⟨ret_int hfin.out.symm, rfl⟩
end Go.Proofs.YtkpcmnckdappnaaGreat

