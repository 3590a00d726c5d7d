/- The contracts of the reference's Decimal, TypeText. -/
import Derived.Test.YthfpijacemkbbaaDoorRqU
namespace Go.Proofs.YthfpijacemkbbaaDoor
open Go.RowKit
set_option linter.unusedVariables false

/-- is it the empty text? -/
def emptyS : Value → Nat | .string s => if s.size = 0 then 1 else 0 | _ => 0
theorem digits_next (x : Nat) (dl : List UInt8) : Lib.decDigits x ++ dl = (if x / 10 = 0 then [] else Lib.decDigits (x / 10)) ++ (UInt8.ofNat (48 + x % 10) :: dl) := by
  by_cases h : x < 10
  · rw [Lib.decDigits, dif_pos h, if_pos (by omega), show x % 10 = x by omega]
    rfl
  · rw [Lib.decDigits, dif_neg h, if_neg (by omega)]
    simp
theorem sign_byte (x : Nat) : [Value.int IntKind.u8 (48 + (x : Int) % 10)] = [UInt8.ofNat (48 + x % 10)].map fun b : UInt8 => Value.int .u8 b.toNat := by
  have h : (UInt8.ofNat (48 + x % 10)).toNat = 48 + x % 10 := by rw [UInt8.toNat_ofNat']; omega
  simp only [List.map_cons, List.map_nil, h]
  congr 2
set_option maxRecDepth 100000 in
set_option maxHeartbeats 8000000 in
theorem Decimal_pos (n : Int) (u0 : Nat) (w : World) (hn : n = (u0 : Int)) (h1 : u0 ≤ 9223372036854775807) (hlen : (Lib.decDigits u0).length ≤ 20) :
    Calls Tryd.prog 46 #[.int .i64 n] w fun e w' => e = .returned (.string (mk (([] : List UInt8) ++ Lib.decDigits u0))) ∧ Below w.heap.size w w' := by
  have HB := Go.Lib.hid (Below.refl w.heap.size w)
  subst hn
  go_enter Tryd.func46, Tryd.ntmps46
  go_wp2_with fail
  go_loopw [3, 5] (fun u d wr => ∃ (x : Nat) (dl : List UInt8), u = .int .u64 x ∧ x ≤ u0 ∧ d = .string (mk dl) ∧ Lib.decDigits u0 = (if x = 0 ∧ dl ≠ [] then [] else Lib.decDigits x) ++ dl ∧ Below w.heap.size w wr) (fun u d _ => 2 * (intOf u).toNat + emptyS d)
  case atStart => exact ⟨u0, [], rfl, Nat.le_refl _, rfl, by simp, HB.out⟩
  case round =>
    obtain ⟨x, dl, rfl, hxu, rfl, hdd, hbr⟩ := hrel
    clear HB
    have hdl : dl.length ≤ 20 := by
      have := congrArg List.length hdd
      rw [List.length_append] at this
      omega
    have HB := Go.Lib.hid hbr
    have HDD := Go.Lib.hid hdd
    clear hbr hdd
    have hsz : (mk dl).size = dl.length := size_mk dl
    by_cases hx : 0 < x
    · have e1 : ((0 : Int) < (x : Int)) := by omega
      have hcv := run_conv_nw wr 1 _ [UInt8.ofNat (48 + x % 10)] rfl (sign_byte x) (by decide)
      have hnx := digits_next x dl
      have e3 : mk [UInt8.ofNat (48 + x % 10)] ++ mk dl = mk (UInt8.ofNat (48 + x % 10) :: dl) := mk_app [_] dl
      have e4 : (mk [UInt8.ofNat (48 + x % 10)]).size = 1 := by rw [size_mk]; rfl
      have e5 : ¬ 9223372036854775807 < 1 + dl.length := by omega
      have e6 : (mk (UInt8.ofNat (48 + x % 10) :: dl)).size = dl.length + 1 := by rw [size_mk]; rfl
      have hrel : Hid (Lib.decDigits u0 = (if x / 10 = 0 ∧ UInt8.ofNat (48 + x % 10) :: dl ≠ [] then [] else Lib.decDigits (x / 10)) ++ (UInt8.ofNat (48 + x % 10) :: dl)) := Go.Lib.hid (by
        rw [HDD.out, if_neg (fun h => by omega), hnx]
        simp)
      have HNX := Go.Lib.hid hnx
      clear hnx
      clear HDD
      generalize UInt8.ofNat (48 + x % 10) = c at *
      go_wp2_with fail
      go_roundw
      case rel => exact ⟨x / 10, c :: dl, by go_num, by omega, rfl, hrel.out, HB.out.alloc HB.out.size _⟩
      case measure => simp [intOf, emptyS, e6]; omega
    · obtain rfl : 0 = x := by omega
      by_cases hd : dl = []
      · subst hd
        have q1 : (mk []).toList = [] := by decide +kernel
        have q2 : ((mk []).toList == []) = true := by decide +kernel
        have q3 : ((mk []).toList == (⟨#[]⟩ : ByteArray).toList) = true := by decide +kernel
        have hcv := run_conv_nw wr 1 [Value.int .u8 48] [UInt8.ofNat (48 + 0 % 10)] rfl rfl (by decide)
        have hnx := digits_next 0 []
        have e3 : mk [UInt8.ofNat (48 + 0 % 10)] ++ mk [] = mk (UInt8.ofNat (48 + 0 % 10) :: []) := mk_app [_] []
        have e4 : (mk [UInt8.ofNat (48 + 0 % 10)]).size = 1 := by rw [size_mk]; rfl
        have e5 : ¬ 9223372036854775807 < 1 + 0 := by omega
        have e6 : (mk (UInt8.ofNat (48 + 0 % 10) :: [])).size = 0 + 1 := by rw [size_mk]; rfl
        have hrel : Hid (Lib.decDigits u0 = (if 0 / 10 = 0 ∧ UInt8.ofNat (48 + 0 % 10) :: [] ≠ [] then [] else Lib.decDigits (0 / 10)) ++ (UInt8.ofNat (48 + 0 % 10) :: [])) := Go.Lib.hid (by
          rw [HDD.out, if_neg (fun h => h.2 rfl), hnx]
          simp)
        have HNX := Go.Lib.hid hnx
        clear hnx
        clear HDD
        generalize UInt8.ofNat (48 + 0 % 10) = c at *
        go_wp2_with fail
        go_roundw
        case rel => exact ⟨0 / 10, c :: [], by go_num, by omega, rfl, hrel.out, HB.out.alloc HB.out.size _⟩
        case measure => simp [intOf, emptyS, e6]; decide
      · have q1 : ¬ (mk dl).toList = [] := by rw [toList_bl, bl_mk]; exact hd
        have q2 : ((mk dl).toList == []) = false := beq_eq_false_iff_ne.2 q1
        have q4 : ¬ mk dl = ⟨#[]⟩ := fun h => hd (by have := congrArg bl h; rw [bl_mk] at this; exact this)
        have hfin : Hid (Lib.decDigits u0 = dl) := Go.Lib.hid (by rw [HDD.out, if_pos ⟨rfl, hd⟩, List.nil_append])
        have e3 : (⟨#[]⟩ : ByteArray) ++ mk dl = mk (([] : List UInt8) ++ dl) := mk_app ([] : List UInt8) dl
        have e5 : ¬ 9223372036854775807 < 1 + dl.length := by omega
        clear HDD hd
        go_wp2_with fail
        go_ret
        exact ⟨by rw [hfin.out]; rfl, HB.out⟩
set_option maxRecDepth 100000 in
set_option maxHeartbeats 8000000 in
theorem Decimal_neg (n : Int) (u0 : Nat) (w : World) (hn : n = -(u0 : Int)) (h1 : 0 < u0) (h2 : u0 ≤ 9223372036854775808) (hlen : (Lib.decDigits u0).length ≤ 20) :
    Calls Tryd.prog 46 #[.int .i64 n] w fun e w' => e = .returned (.string (mk (([45] : List UInt8) ++ Lib.decDigits u0))) ∧ Below w.heap.size w w' := by
  have HB := Go.Lib.hid (Below.refl w.heap.size w)
  have f0 : n < 0 := by omega
  have f1 : IntKind.u64.wrap n = n + 18446744073709551616 := by rw [IntKind.wrap_u64]; omega
  have f2 : IntKind.u64.wrap (-(n + 18446744073709551616)) = (u0 : Int) := by rw [IntKind.wrap_u64]; omega
  clear hn
  go_enter Tryd.func46, Tryd.ntmps46
  go_wp2_with fail
  go_loopw [3, 5] (fun u d wr => ∃ (x : Nat) (dl : List UInt8), u = .int .u64 x ∧ x ≤ u0 ∧ d = .string (mk dl) ∧ Lib.decDigits u0 = (if x = 0 ∧ dl ≠ [] then [] else Lib.decDigits x) ++ dl ∧ Below w.heap.size w wr) (fun u d _ => 2 * (intOf u).toNat + emptyS d)
  case atStart => exact ⟨u0, [], rfl, Nat.le_refl _, rfl, by simp, HB.out⟩
  case round =>
    obtain ⟨x, dl, rfl, hxu, rfl, hdd, hbr⟩ := hrel
    clear HB
    have hdl : dl.length ≤ 20 := by
      have := congrArg List.length hdd
      rw [List.length_append] at this
      omega
    have HB := Go.Lib.hid hbr
    have HDD := Go.Lib.hid hdd
    clear hbr hdd
    have hsz : (mk dl).size = dl.length := size_mk dl
    by_cases hx : 0 < x
    · have e1 : ((0 : Int) < (x : Int)) := by omega
      have hcv := run_conv_nw wr 1 _ [UInt8.ofNat (48 + x % 10)] rfl (sign_byte x) (by decide)
      have hnx := digits_next x dl
      have e3 : mk [UInt8.ofNat (48 + x % 10)] ++ mk dl = mk (UInt8.ofNat (48 + x % 10) :: dl) := mk_app [_] dl
      have e4 : (mk [UInt8.ofNat (48 + x % 10)]).size = 1 := by rw [size_mk]; rfl
      have e5 : ¬ 9223372036854775807 < 1 + dl.length := by omega
      have e6 : (mk (UInt8.ofNat (48 + x % 10) :: dl)).size = dl.length + 1 := by rw [size_mk]; rfl
      have hrel : Hid (Lib.decDigits u0 = (if x / 10 = 0 ∧ UInt8.ofNat (48 + x % 10) :: dl ≠ [] then [] else Lib.decDigits (x / 10)) ++ (UInt8.ofNat (48 + x % 10) :: dl)) := Go.Lib.hid (by
        rw [HDD.out, if_neg (fun h => by omega), hnx]
        simp)
      have HNX := Go.Lib.hid hnx
      clear hnx
      clear HDD
      generalize UInt8.ofNat (48 + x % 10) = c at *
      go_wp2_with fail
      go_roundw
      case rel => exact ⟨x / 10, c :: dl, by go_num, by omega, rfl, hrel.out, HB.out.alloc HB.out.size _⟩
      case measure => simp [intOf, emptyS, e6]; omega
    · obtain rfl : 0 = x := by omega
      by_cases hd : dl = []
      · subst hd
        have q1 : (mk []).toList = [] := by decide +kernel
        have q2 : ((mk []).toList == []) = true := by decide +kernel
        have q3 : ((mk []).toList == (⟨#[]⟩ : ByteArray).toList) = true := by decide +kernel
        have hcv := run_conv_nw wr 1 [Value.int .u8 48] [UInt8.ofNat (48 + 0 % 10)] rfl rfl (by decide)
        have hnx := digits_next 0 []
        have e3 : mk [UInt8.ofNat (48 + 0 % 10)] ++ mk [] = mk (UInt8.ofNat (48 + 0 % 10) :: []) := mk_app [_] []
        have e4 : (mk [UInt8.ofNat (48 + 0 % 10)]).size = 1 := by rw [size_mk]; rfl
        have e5 : ¬ 9223372036854775807 < 1 + 0 := by omega
        have e6 : (mk (UInt8.ofNat (48 + 0 % 10) :: [])).size = 0 + 1 := by rw [size_mk]; rfl
        have hrel : Hid (Lib.decDigits u0 = (if 0 / 10 = 0 ∧ UInt8.ofNat (48 + 0 % 10) :: [] ≠ [] then [] else Lib.decDigits (0 / 10)) ++ (UInt8.ofNat (48 + 0 % 10) :: [])) := Go.Lib.hid (by
          rw [HDD.out, if_neg (fun h => h.2 rfl), hnx]
          simp)
        have HNX := Go.Lib.hid hnx
        clear hnx
        clear HDD
        generalize UInt8.ofNat (48 + 0 % 10) = c at *
        go_wp2_with fail
        go_roundw
        case rel => exact ⟨0 / 10, c :: [], by go_num, by omega, rfl, hrel.out, HB.out.alloc HB.out.size _⟩
        case measure => simp [intOf, emptyS, e6]; decide
      · have q1 : ¬ (mk dl).toList = [] := by rw [toList_bl, bl_mk]; exact hd
        have q2 : ((mk dl).toList == []) = false := beq_eq_false_iff_ne.2 q1
        have q4 : ¬ mk dl = ⟨#[]⟩ := fun h => hd (by have := congrArg bl h; rw [bl_mk] at this; exact this)
        have hfin : Hid (Lib.decDigits u0 = dl) := Go.Lib.hid (by rw [HDD.out, if_pos ⟨rfl, hd⟩, List.nil_append])
        have e3 : (⟨#[45]⟩ : ByteArray) ++ mk dl = mk (([45] : List UInt8) ++ dl) := mk_app ([45] : List UInt8) dl
        have e5 : ¬ 9223372036854775807 < 1 + dl.length := by omega
        clear HDD hd
        go_wp2_with fail
        go_ret
        exact ⟨by rw [hfin.out]; rfl, HB.out⟩
end Go.Proofs.YthfpijacemkbbaaDoor

