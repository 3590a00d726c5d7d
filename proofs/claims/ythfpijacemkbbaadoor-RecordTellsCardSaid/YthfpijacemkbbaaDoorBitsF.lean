/- Numbers of four bytes: put together, and taken apart. No conditions. -/
import Derived.Test.YthfpijacemkbbaaDoorKit
import Derived.Laws.BitsLemmas
namespace Go.Proofs.YthfpijacemkbbaaDoor
open Go.RowKit

theorem ofInt_nat (n : Nat) (h : n < 18446744073709551616) : (BitVec.ofInt IntKind.i64.bits (n : Int)).toNat = n := by
  rw [BitVec.toNat_ofInt]
  show ((n : Int) % 18446744073709551616).toNat = n
  omega
theorem or_low (a b k : Nat) (hb : b < 2 ^ k) (h : 2 ^ k * a + b < 9223372036854775808) : bits .or .i64 ((2 ^ k * a : Nat) : Int) (b : Int) = ((2 ^ k * a + b : Nat) : Int) := by
  have h4 : (BitVec.ofInt IntKind.i64.bits ((2 ^ k * a : Nat) : Int) ||| BitVec.ofInt IntKind.i64.bits (b : Int)).toNat = 2 ^ k * a + b := by
    rw [BitVec.toNat_or, ofInt_nat _ (by omega), ofInt_nat _ (by omega), Nat.two_pow_add_eq_or_of_lt hb]
  simp only [bits]
  rw [h4, IntKind.wrap_i64]
  omega
/-- the number of four bytes -/
def num4 (a b c d : UInt8) : Nat := a.toNat * 16777216 + b.toNat * 65536 + c.toNat * 256 + d.toNat
theorem or4 (a b c d : UInt8) : bits .or .i64 (bits .or .i64 (bits .or .i64 ((a.toNat : Int) * 16777216) ((b.toNat : Int) * 65536)) ((c.toNat : Int) * 256)) (d.toNat : Int) = (num4 a b c d : Int) := by
  have ha := a.toNat_lt
  have hb := b.toNat_lt
  have hc := c.toNat_lt
  have hd := d.toNat_lt
  have e1 := or_low a.toNat (b.toNat * 65536) 24 (by omega) (by omega)
  have e2 := or_low (a.toNat * 256 + b.toNat) (c.toNat * 256) 16 (by omega) (by omega)
  have e3 := or_low (a.toNat * 65536 + b.toNat * 256 + c.toNat) d.toNat 8 (by omega) (by omega)
  rw [show ((a.toNat : Int) * 16777216) = ((2 ^ 24 * a.toNat : Nat) : Int) by omega, show ((b.toNat : Int) * 65536) = ((b.toNat * 65536 : Nat) : Int) by omega, e1,
    show ((2 ^ 24 * a.toNat + b.toNat * 65536 : Nat) : Int) = ((2 ^ 16 * (a.toNat * 256 + b.toNat) : Nat) : Int) by omega, show ((c.toNat : Int) * 256) = ((c.toNat * 256 : Nat) : Int) by omega, e2,
    show ((2 ^ 16 * (a.toNat * 256 + b.toNat) + c.toNat * 256 : Nat) : Int) = ((2 ^ 8 * (a.toNat * 65536 + b.toNat * 256 + c.toNat) : Nat) : Int) by omega, e3]
  unfold num4
  omega
/-- a number's byte -/
def byteOf (n : Int) (k : Int) : UInt8 := UInt8.ofNat (n / k % 256).toNat
theorem byteOf_nat (n k : Int) : ((byteOf n k).toNat : Int) = n / k % 256 := by
  unfold byteOf
  rw [UInt8.toNat_ofNat']
  generalize n / k = m
  omega
def four (n : Int) : List UInt8 := [byteOf n 16777216, byteOf n 65536, byteOf n 256, byteOf n 1]
theorem num4_four (n : Int) (h0 : 0 ≤ n) (h1 : n < 4294967296) : (num4 (byteOf n 16777216) (byteOf n 65536) (byteOf n 256) (byteOf n 1) : Int) = n := by
  have e1 := byteOf_nat n 16777216
  have e2 := byteOf_nat n 65536
  have e3 := byteOf_nat n 256
  have e4 := byteOf_nat n 1
  unfold num4
  omega
end Go.Proofs.YthfpijacemkbbaaDoor
