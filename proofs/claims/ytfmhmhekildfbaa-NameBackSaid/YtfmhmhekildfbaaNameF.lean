/- The contracts of name.sign, Text: how a name is written. -/
import Derived.Test.YtfmhmhekildfbaaNameE
import Derived.Test.YtfmhmhekildfbaaStr
namespace Go.Proofs.Ytfmhmhekildfbaa
open Go.RowKit

theorem encode_ascii (c : UInt8) (h : c.toNat < 128) : Utf8.encode c.toNat = mk [c] := by
  have hv : Utf8.valid c.toNat = true := by unfold Utf8.valid; simp; omega
  unfold Utf8.encode
  simp only [hv, if_true, Int.toNat_natCast]
  rw [if_pos (by omega)]
  simp [mk]

theorem encode_wrap (c : UInt8) (h : c.toNat < 128) : Utf8.encode (wrap32 c.toNat) = mk [c] := by
  rw [show wrap32 (c.toNat : Int) = c.toNat from by unfold wrap32; omega]
  exact encode_ascii c h
theorem size_one (c : UInt8) : (mk [c]).size = 1 := rfl

theorem run_conv_new (w : World) (n : Nat) (cs : List Value) (l : List UInt8) (hn : cs.length = n) (h : cs = l.map fun b => .int .u8 b.toNat) (hm : n ≤ maxLen) :
    (convert 44 9 (.slice (some ⟨w.heap.size, 0, none⟩) n n)).run Try.prog (w.alloc (.cells cs.toArray 5)) = .ok (.string (mk l)) (w.alloc (.cells cs.toArray 5)) := by
  have hl : l.length = n := by rw [← hn, h]; simp
  refine run_conv_string ?_
  unfold Byts
  rw [hl, ← h]
  exact slc_new w 1 n _ cs (by rw [hn]; simp) hm

theorem sign_nums (c : UInt8) : [Value.int IntKind.u8 92, Value.int IntKind.u8 (48 + (c.toNat : Int) / 100), Value.int IntKind.u8 (48 + (c.toNat : Int) / 10 % 10), Value.int IntKind.u8 (48 + (c.toNat : Int) % 10)] = [92, 48 + c / 100, 48 + c / 10 % 10, 48 + c % 10].map fun b : UInt8 => Value.int .u8 b.toNat := by
  have h := c.toNat_lt
  have h1 : (48 + c / 100).toNat = 48 + c.toNat / 100 := by
    rw [UInt8.toNat_add, UInt8.toNat_div]; simp; omega
  have h2 : (48 + c / 10 % 10).toNat = 48 + c.toNat / 10 % 10 := by
    rw [UInt8.toNat_add, UInt8.toNat_mod, UInt8.toNat_div]; simp; omega
  have h3 : (48 + c % 10).toNat = 48 + c.toNat % 10 := by
    rw [UInt8.toNat_add, UInt8.toNat_mod]; simp; omega
  simp only [List.map_cons, List.map_nil, h1, h2, h3]
  rfl

set_option maxRecDepth 100000 in
set_option maxHeartbeats 1000000 in
theorem sign_any (c : UInt8) (w : World) :
    Calls Try.prog 46 #[.int .u8 c.toNat] w fun e w' => e = .returned (.string (mk (Nm.signB c))) ∧ Below w.heap.size w w' := by
  by_cases h1 : c.toNat = 46 ∨ c.toNat = 92
  · have hfin : Hid (mk (Nm.signB c) = mk [92, c]) := Go.Lib.hid (by unfold Nm.signB; rw [if_pos h1])
    have hcv := encode_wrap c (by omega)
    have hcv2 := encode_ascii c (by omega)
    have hs1 := size_one c
    have hcat : (⟨#[92]⟩ : ByteArray) ++ mk [c] = mk [92, c] := rfl
    have hsz : (mk [92, c]).size = 2 := rfl
    by_cases h2 : c.toNat = 46
    · have e1 : ((c.toNat : Int) == 46) = true := by rw [h2]; rfl
      clear h1 h2
      go_enter Try.func46, Try.ntmps46
      go_wp2_with fail
      go_ret
      exact ⟨ret_str hfin.out.symm, Below.refl _ _⟩
    · have e1 : ((c.toNat : Int) == 46) = false := by rw [beq_eq_false_iff_ne]; omega
      have e2 : ((c.toNat : Int) == 92) = true := by rw [h1.resolve_left h2]; rfl
      clear h1 h2
      go_enter Try.func46, Try.ntmps46
      go_wp2_with fail
      go_ret
      exact ⟨ret_str hfin.out.symm, Below.refl _ _⟩
  · have e1 : ((c.toNat : Int) == 46) = false := by rw [beq_eq_false_iff_ne]; omega
    have e2 : ((c.toNat : Int) == 92) = false := by rw [beq_eq_false_iff_ne]; omega
    by_cases h3 : c.toNat < 33 ∨ 126 < c.toNat
    · have hfin : Hid (mk (Nm.signB c) = mk [92, 48 + c / 100, 48 + c / 10 % 10, 48 + c % 10]) := Go.Lib.hid (by unfold Nm.signB; rw [if_neg h1, if_pos h3])
      have hcl := c.toNat_lt
      by_cases h4 : c.toNat < 33
      · have e3 : (c.toNat : Int) < 33 := by omega
        clear h1 h3 h4
        go_enter Try.func46, Try.ntmps46
        go_wp2_with fail
        rw [run_conv_new _ 4 _ _ rfl (sign_nums c) (by decide)]
        simp only [Result.andThen]
        rw [Oper.upon_value]
        go_wp2_with fail
        go_ret
        exact ⟨ret_str hfin.out.symm, (Below.refl _ _).alloc (Nat.le_refl _) _⟩
      · have e3 : ¬ ((c.toNat : Int) < 33) := by omega
        have e4 : 126 < (c.toNat : Int) := by omega
        clear h1 h3 h4
        go_enter Try.func46, Try.ntmps46
        go_wp2_with fail
        rw [run_conv_new _ 4 _ _ rfl (sign_nums c) (by decide)]
        simp only [Result.andThen]
        rw [Oper.upon_value]
        go_wp2_with fail
        go_ret
        exact ⟨ret_str hfin.out.symm, (Below.refl _ _).alloc (Nat.le_refl _) _⟩
    · have hfin : Hid (mk (Nm.signB c) = mk [c]) := Go.Lib.hid (by unfold Nm.signB; rw [if_neg h1, if_neg h3])
      have hcv := encode_wrap c (by omega)
      have hcv2 := encode_ascii c (by omega)
      have e3 : ¬ ((c.toNat : Int) < 33) := by omega
      have e4 : ¬ (126 < (c.toNat : Int)) := by omega
      clear h1 h3
      go_enter Try.func46, Try.ntmps46
      go_wp2_with fail
      go_ret
      exact ⟨ret_str hfin.out.symm, Below.refl _ _⟩
end Go.Proofs.Ytfmhmhekildfbaa

