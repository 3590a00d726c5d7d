/- Numbers' last sixteen bits. No conditions. -/
import Derived.Test.YtblbphnmflbepaaKit
import Derived.Laws.BitsLemmas
namespace Go.Proofs.Ytblbphnmflbepaa
open Go.RowKit

theorem and16 (x : Int) : bits .and .i64 x 65535 = x % 65536 := by
  have h1 : (BitVec.ofInt IntKind.i64.bits x).toNat = (x % 18446744073709551616).toNat := by
    rw [BitVec.toNat_ofInt]; rfl
  have h2 : (BitVec.ofInt IntKind.i64.bits 65535).toNat = 65535 := by decide
  have h3 : (x % 18446744073709551616).toNat &&& 65535 = (x % 18446744073709551616).toNat % 65536 := Nat.and_two_pow_sub_one_eq_mod _ 16
  have h4 : (BitVec.ofInt IntKind.i64.bits x &&& BitVec.ofInt IntKind.i64.bits 65535).toNat = (x % 18446744073709551616).toNat % 65536 := by
    rw [BitVec.toNat_and, h1, h2, h3]
  simp only [bits]
  rw [h4, IntKind.wrap_i64]
  omega
end Go.Proofs.Ytblbphnmflbepaa
