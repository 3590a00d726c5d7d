/- Small words for walks: sums that fit, one world, texts that are alike or not, and freshetalike.Round. No conditions. -/
import Derived.Test.YtblbphnmflbepaaNameA
namespace Go.Proofs.Ytblbphnmflbepaa
open Go.RowKit

theorem wrapi {n : Int} (h1 : -9223372036854775808 ≤ n) (h2 : n ≤ 9223372036854775807) : IntKind.i64.wrap n = n := by
  rw [IntKind.wrap_i64]; omega

/-- one world -/
def AtW (w0 w : World) : Prop := w = w0
theorem AtW.cell {w0 : World} {p : Addr} {v : Value} (h : w0.cell? p = some v) (w3 : Subtype (AtW w0)) : w3.1.cell? p = some v := by
  have := w3.2
  unfold AtW at this
  rw [this]; exact h

theorem bne_mk_false {a b : List UInt8} (h : a = b) : ((mk a).toList != (mk b).toList) = false := by rw [toList_bl, toList_bl, bl_mk, bl_mk, h, bne_self_eq_false]
theorem bne_mk_true {a b : List UInt8} (h : ¬ a = b) : ((mk a).toList != (mk b).toList) = true := by rw [toList_bl, toList_bl, bl_mk, bl_mk]; simpa using h

theorem beq_mk_true {a b : List UInt8} (h : a = b) : ((mk a).toList == (mk b).toList) = true := by rw [toList_bl, toList_bl, bl_mk, bl_mk, h, beq_self_eq_true]
theorem beq_mk_false {a b : List UInt8} (h : ¬ a = b) : ((mk a).toList == (mk b).toList) = false := by rw [toList_bl, toList_bl, bl_mk, bl_mk]; simpa using h
theorem ne_mk {a b : List UInt8} (h : ¬ a = b) : ¬ (mk a).toList = (mk b).toList := by rw [toList_bl, toList_bl, bl_mk, bl_mk]; exact h

theorem slc_bounds {w : World} {sz n m cap : Nat} {a : Option Addr} {cs : List Value} (h : SlC w sz (.slice a n cap) m cs) : n ≤ cap ∧ cap ≤ maxLen := by
  obtain ⟨_, a', cap', hv, h1, h2, _⟩ := h
  simp only [Value.slice.injEq] at hv
  obtain ⟨_, rfl, rfl⟩ := hv
  exact ⟨h1, h2⟩

theorem below_drewN {B : Nat} {w wr : World} (h : Below B w wr) (n : Nat) : Below B w (wr.drewN n) := ⟨h.os, h.tape, h.output, h.size, h.block⟩

theorem owns_below {w w' : World} {base e sz n : Nat} {v : Value} {xs : List Value} (h : w.ownsRow base e sz v n xs) (hb : Below w.heap.size w w') : w'.ownsRow base e sz v n xs :=
  h.kept (⟨hb.os, hb.tape, hb.output, hb.size, fun k hk _ => hb.block k hk⟩ : w.grownBy w' none) (by cases Value.ownBlock _ <;> simp)

set_option maxRecDepth 100000 in
theorem Round_any (k n : Int) (w : World) (h0 : 0 < n) (hn : n ≤ 4611686018427387904) :
    Calls Try.prog 21 #[.int .i64 k, .int .i64 n] w fun e w' => e = .returned (.int .i64 (k % n)) ∧ w = w' := by
  have hne : ¬ n = 0 := by omega
  have b1 : -n < k.tmod n ∧ k.tmod n < n := by
    have h1 := Int.tmod_lt_of_pos k h0
    have h2 : -n < k.tmod n := by
      have := Int.tmod_lt_of_pos (-k) h0
      rw [Int.neg_tmod] at this
      omega
    exact ⟨h2, h1⟩
  have hfin : Hid (k % n = (k.tmod n + n) % n) := Go.Lib.hid (by
    rw [Int.add_emod_right, Int.tmod_def, Int.sub_mul_emod_self_left])
  go_enter Try.func21, Try.ntmps21
  go_wp2
  go_ret
  exact ⟨ret_int hfin.out.symm, rfl⟩
end Go.Proofs.Ytblbphnmflbepaa

