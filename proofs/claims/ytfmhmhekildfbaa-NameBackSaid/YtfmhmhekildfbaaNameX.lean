/- freshetlaw1.awake returns true: the named answers, one by one. -/
import Derived.Test.YtfmhmhekildfbaaNameW
import Derived.Test.YtfmhmhekildfbaaAlike
import Derived.Test.YtfmhmhekildfbaaRefF
namespace Go.Proofs.Ytfmhmhekildfbaa
open Go.RowKit

theorem labs_two : Nm.labs [1, 97, 1, 98, 0] = [[97], [98]] := by decide +kernel

set_option maxRecDepth 100000 in
set_option maxHeartbeats 4000000 in
theorem awake_any (w : World) : Calls Try.prog 11 #[] w fun e w' => e = .returned (.bool true) ∧ Below w.heap.size w w' := by
  have p1 := fun w => Parse_any ⟨#[119, 119, 119, 46, 69, 120, 92, 46, 97, 46]⟩ w (by decide)
  rw [show nameEnd (Nm.parseN (bl ⟨#[119, 119, 119, 46, 69, 120, 92, 46, 97, 46]⟩)) = .returned (.tuple #[.string ⟨#[3, 119, 119, 119, 4, 69, 120, 46, 97, 0]⟩, .int .i64 0]) from by
    rw [show Nm.parseN (bl ⟨#[119, 119, 119, 46, 69, 120, 92, 46, 97, 46]⟩) = some [3, 119, 119, 119, 4, 69, 120, 46, 97, 0] from by decide +kernel]; rfl] at p1
  have p2 := fun w => Parse_any ⟨#[119, 119, 119]⟩ w (by decide)
  rw [show nameEnd (Nm.parseN (bl ⟨#[119, 119, 119]⟩)) = .returned (.tuple #[.string ⟨#[]⟩, .int .i64 2]) from by
    rw [show Nm.parseN (bl ⟨#[119, 119, 119]⟩) = none from by decide +kernel]; rfl] at p2
  have j1 := fun (a : Option Addr) (cap : Nat) w hst => Join_any a cap [[97], [98]] w hst (by decide) (by decide)
  rw [show nameEnd (Nm.joinN [[97], [98]]) = .returned (.tuple #[.string ⟨#[1, 97, 1, 98, 0]⟩, .int .i64 0]) from by
    rw [show Nm.joinN [[97], [98]] = some [1, 97, 1, 98, 0] from by decide +kernel]; rfl] at j1
  have t1 := fun w => Text_any ⟨#[3, 119, 119, 119, 4, 69, 120, 46, 97, 0]⟩ w (by decide)
  rw [show mk (Nm.textN (bl ⟨#[3, 119, 119, 119, 4, 69, 120, 46, 97, 0]⟩)) = ⟨#[119, 119, 119, 46, 69, 120, 92, 46, 97, 46]⟩ from by
    rw [show Nm.textN (bl ⟨#[3, 119, 119, 119, 4, 69, 120, 46, 97, 0]⟩) = [119, 119, 119, 46, 69, 120, 92, 46, 97, 46] from by decide +kernel]; rfl] at t1
  have v1 := fun w => valid_any ⟨#[0]⟩ w (by decide)
  rw [show Nm.valid (bl ⟨#[0]⟩) = true from by decide +kernel] at v1
  have v2 := fun w => valid_any ⟨#[]⟩ w (by decide)
  rw [show Nm.valid (bl ⟨#[]⟩) = false from by decide +kernel] at v2
  have f1 := fun w => Fold_any ⟨#[3, 119, 119, 119, 4, 69, 120, 46, 97, 0]⟩ w (by decide)
  rw [show mk (Nm.foldN (bl ⟨#[3, 119, 119, 119, 4, 69, 120, 46, 97, 0]⟩)) = ⟨#[3, 119, 119, 119, 4, 101, 120, 46, 97, 0]⟩ from by
    rw [show Nm.foldN (bl ⟨#[3, 119, 119, 119, 4, 69, 120, 46, 97, 0]⟩) = [3, 119, 119, 119, 4, 101, 120, 46, 97, 0] from by decide +kernel]; rfl] at f1
  have r1 := fun w => Parent_any ⟨#[1, 97, 1, 98, 0]⟩ w (by decide)
  rw [show mk (Nm.parentN (bl ⟨#[1, 97, 1, 98, 0]⟩)) = ⟨#[1, 98, 0]⟩ from by
    rw [show Nm.parentN (bl ⟨#[1, 97, 1, 98, 0]⟩) = [1, 98, 0] from by decide +kernel]; rfl] at r1
  have u1 := fun w => Under_any ⟨#[1, 97, 1, 98, 0]⟩ ⟨#[1, 66, 0]⟩ w (by decide) (by decide)
  rw [show Nm.underN (bl ⟨#[1, 97, 1, 98, 0]⟩) (bl ⟨#[1, 66, 0]⟩) = true from by decide +kernel] at u1
  have u2 := fun w => Under_any ⟨#[1, 98, 0]⟩ ⟨#[1, 97, 1, 98, 0]⟩ w (by decide) (by decide)
  rw [show Nm.underN (bl ⟨#[1, 98, 0]⟩) (bl ⟨#[1, 97, 1, 98, 0]⟩) = false from by decide +kernel] at u2
  have l1 := fun w => Less_any ⟨#[1, 98, 0]⟩ ⟨#[1, 97, 1, 98, 0]⟩ w (by decide) (by decide)
  rw [show Nm.lessN (bl ⟨#[1, 98, 0]⟩) (bl ⟨#[1, 97, 1, 98, 0]⟩) = true from by decide +kernel] at l1
  have c1 := fun w => Common_any ⟨#[1, 97, 1, 98, 0]⟩ ⟨#[1, 99, 1, 98, 0]⟩ w (by decide) (by decide)
  rw [show mk (Nm.commonN (bl ⟨#[1, 97, 1, 98, 0]⟩) (bl ⟨#[1, 99, 1, 98, 0]⟩)) = ⟨#[1, 98, 0]⟩ from by
    rw [show Nm.commonN (bl ⟨#[1, 97, 1, 98, 0]⟩) (bl ⟨#[1, 99, 1, 98, 0]⟩) = [1, 98, 0] from by decide +kernel]; rfl] at c1
  have k1 := fun w => walk_any ⟨#[1, 97, 1, 98, 0]⟩ (-1) w (by decide)
  rw [show walkL (-1) (Nm.labs (bl ⟨#[1, 97, 1, 98, 0]⟩)) = [[97], [98]] from by
    rw [show Nm.labs (bl ⟨#[1, 97, 1, 98, 0]⟩) = [[97], [98]] from labs_two]; rfl] at k1
  have P1 := Go.Lib.hid p1
  have P2 := Go.Lib.hid p2
  have J1 := Go.Lib.hid j1
  have T1 := Go.Lib.hid t1
  have V1 := Go.Lib.hid v1
  have V2 := Go.Lib.hid v2
  have F1 := Go.Lib.hid f1
  have R1 := Go.Lib.hid r1
  have U1 := Go.Lib.hid u1
  have U2 := Go.Lib.hid u2
  have L1 := Go.Lib.hid l1
  have C1 := Go.Lib.hid c1
  have K1 := Go.Lib.hid k1
  clear p1 p2 j1 t1 v1 v2 f1 r1 u1 u2 l1 c1 k1
  go_enter Try.func11, Try.ntmps11
  go_wp2_with fail
  refine (P1.out _).mono ?_; rintro e w1 ⟨rfl, hb1⟩
  go_wp2_with fail
  refine (P2.out _).mono ?_; rintro e w2 ⟨rfl, hb2⟩
  have hb := hb1.trans (hb2.mono hb1.size)
  have HB := Go.Lib.hid hb
  clear hb1 hb2 hb
  go_wp2_with fail
  refine (J1.out _ _ _ (slc_new w2 1 2 9 [.string (mk [97]), .string (mk [98])] rfl (by decide))).mono ?_
  rintro e w3 ⟨rfl, hb3⟩
  have hb := HB.out.trans (((Below.refl _ w2).alloc (Nat.le_refl _) (.cells #[.string (mk [97]), .string (mk [98])] 9)).mono HB.out.size)
  have hb' := hb.trans (hb3.mono hb.size)
  clear HB
  have HB := Go.Lib.hid hb'
  clear hb3 hb hb'
  go_wp2_with fail
  refine (T1.out _).mono ?_; rintro e w4 ⟨rfl, hb4⟩
  have hb := HB.out.trans (hb4.mono HB.out.size)
  clear HB
  have HB := Go.Lib.hid hb
  clear hb4 hb
  go_wp2_with fail
  refine (V1.out _ ).mono ?_; rintro e w' ⟨rfl, rfl⟩
  go_wp2_with fail
  refine (V2.out _ ).mono ?_; rintro e w' ⟨rfl, rfl⟩
  go_wp2_with fail
  refine (F1.out _).mono ?_; rintro e w5 ⟨rfl, hb4⟩
  have hb := HB.out.trans (hb4.mono HB.out.size)
  clear HB
  have HB := Go.Lib.hid hb
  clear hb4 hb
  go_wp2_with fail
  refine (R1.out _).mono ?_; rintro e w' ⟨rfl, rfl⟩
  go_wp2_with fail
  refine (U1.out _).mono ?_; rintro e w6 ⟨rfl, hb4⟩
  have hb := HB.out.trans (hb4.mono HB.out.size)
  clear HB
  have HB := Go.Lib.hid hb
  clear hb4 hb
  go_wp2_with fail
  refine (U2.out _).mono ?_; rintro e w7 ⟨rfl, hb4⟩
  have hb := HB.out.trans (hb4.mono HB.out.size)
  clear HB
  have HB := Go.Lib.hid hb
  clear hb4 hb
  go_wp2_with fail
  refine (L1.out _).mono ?_; rintro e w8 ⟨rfl, hb4⟩
  have hb := HB.out.trans (hb4.mono HB.out.size)
  clear HB
  have HB := Go.Lib.hid hb
  clear hb4 hb
  go_wp2_with fail
  refine (C1.out _).mono ?_; rintro e w9 ⟨rfl, hb4⟩
  have hb := HB.out.trans (hb4.mono HB.out.size)
  clear HB
  have HB := Go.Lib.hid hb
  clear hb4 hb
  go_wp2_with fail
  refine (K1.out _).mono ?_; rintro e w10 ⟨v, rfl, hst, hb4⟩
  have hb := HB.out.trans (hb4.mono HB.out.size)
  clear HB
  have HB := Go.Lib.hid hb
  have HST := Go.Lib.hid hst
  obtain ⟨a, cap, rfl, _, _⟩ := hst.slice
  clear hb4 hb hst
  go_wp2_with fail
  refine (Texts_any [[97], [98]] [[97], [98]] _ _ _ _ _ (HST.out.below ((Below.refl _ w10).alloc (Nat.le_refl _) _) (Nat.le_refl _)) (slc_new w10 1 2 9 [.string (mk [97]), .string (mk [98])] rfl (by decide))).mono ?_
  rintro e w11 ⟨rfl, hb4⟩
  have hb := HB.out.trans (((Below.refl _ w10).alloc (Nat.le_refl _) (.cells #[.string (mk [97]), .string (mk [98])] 9)).mono HB.out.size)
  have hb' := hb.trans (hb4.mono hb.size)
  have HB' := Go.Lib.hid hb'
  clear hb4 hb hb' HB
  have hd : decide ([[97], [98]] = ([[97], [98]] : List (List UInt8))) = true := by decide
  rw [hd]
  go_wp2_with fail
  go_ret
  exact ⟨rfl, HB'.out⟩
end Go.Proofs.Ytfmhmhekildfbaa

