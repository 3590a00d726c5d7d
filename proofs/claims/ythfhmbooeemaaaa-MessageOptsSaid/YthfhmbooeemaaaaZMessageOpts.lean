/- MessageOpts: EDNS is one record of the root's, behind all others, with its size; a second one, one elsewhere, or of another name, is refused. For every input; no conditions. -/
import Derived.Test.YthfhmbooeemaaaaG3
import Derived.Test.YthfhmbooeemaaaaG7
import Derived.Test.YthfhmbooeemaaaaG9
import Derived.Test.YthfhmbooeemaaaaG11
import Derived.Deep.OwnRows
import Derived.WalkSpells
namespace Go.Proofs.Ythfhmbooeemaaaa.messageOpts
open Go.ChangeShapes Go.WideShapes Go.ChangeAt Go.RowKit
open Go.ChangeMaps (open_string shut_string)
set_option linter.unusedVariables false
set_option maxRecDepth 100000

set_option maxHeartbeats 4000000 in
theorem t0 (z k : Int) (w : World) (hbad : z < 0 ∨ (¬ z < 0 ∧ 65535 < z)) (HAW : Hid (∀ W, Calls Try.prog 11 #[] W fun e w' => e = .returned (.bool true) ∧ Below W.heap.size W w')) :
    Calls Try.prog 8 #[.int .i64 z, .int .i64 k] w fun e w' => e = .returned (.bool true) ∧ Below w.heap.size w w' := by
  rcases hbad with h1 | ⟨h1, h2⟩
  all_goals
    go_enter Try.func8, Try.ntmps8
    go_wp2_with fail
    refine (HAW.out _).mono ?_; rintro e w1 ⟨rfl, hx⟩
    have HX := Go.Lib.hid hx
    clear hx
    go_wp2_with fail
    go_ret
    exact ⟨rfl, HX.out⟩
set_option maxHeartbeats 16000000 in
theorem t1 (z : Nat) (k : Int) (w : World) (hz : z < 65536) (HAW : Hid (∀ W, Calls Try.prog 11 #[] W fun e w' => e = .returned (.bool true) ∧ Below W.heap.size W w')) :
    Calls Try.prog 8 #[.int .i64 (z : Int), .int .i64 k] w fun e w' => e = .returned (.bool true) ∧ Below w.heap.size w w' := by
  have mixed : Try.prog.follows .mixedOrders = true := by kernel_rfl
  have h1 : ¬ (z : Int) < 0 := by omega
  have h2 : ¬ (65535 : Int) < (z : Int) := by omega
  have e1 : (z : Int) / 256 % 256 = (z : Int) / 256 := by omega
  have hone := one_nil w
  have henc0 := oM_enc (z : Int) (by omega)
  have d0 := dec0 (byteOf (z : Int) 256) (byteOf (z : Int) 1)
  have d1 := dec1 (byteOf (z : Int) 256) (byteOf (z : Int) 1)
  have d2 := dec2 (byteOf (z : Int) 256) (byteOf (z : Int) 1)
  have d3 := dec3 (byteOf (z : Int) 256) (byteOf (z : Int) 1)
  have d4 := dec4 (byteOf (z : Int) 256) (byteOf (z : Int) 1)
  have hzz : (((byteOf (z : Int) 256).toNat * 256 + (byteOf (z : Int) 1).toNat : Nat) : Int) = (z : Int) := by
    have a1 := byteOf_nat (z : Int) 256
    have a2 := byteOf_nat (z : Int) 1
    omega
  rw [hzz] at d4
  have htv := two_vals (z : Int)
  rw [e1] at htv
  have htwo : two2 (z : Int) = [byteOf (z : Int) 256, byteOf (z : Int) 1] := rfl
  rw [htwo] at htv
  generalize hhi : byteOf (z : Int) 256 = hi at *
  generalize hlo : byteOf (z : Int) 1 = lo at *
  have HONE := Go.Lib.hid hone
  have HENC0 := Go.Lib.hid henc0
  have D0 := Go.Lib.hid d0
  have D1 := Go.Lib.hid d1
  have D2 := Go.Lib.hid d2
  have D3 := Go.Lib.hid d3
  have D4 := Go.Lib.hid d4
  have HTV := Go.Lib.hid htv
  have HHI := Go.Lib.hid hhi
  have HLO := Go.Lib.hid hlo
  clear hone henc0 d0 d1 d2 d3 d4 htv hhi hlo
  clear hzz htwo
  go_enter Try.func8, Try.ntmps8
  go_wp2_with fail
  refine HONE.out.mono ?_; rintro e w1 ⟨aq, cq, rfl, hq, hb1⟩
  obtain ⟨X1, hX1⟩ : ∃ X1, w1.alloc (.cells (MC oneM (.slice aq 1 cq) nilS nilS nilS) 27) = X1 := ⟨_, rfl⟩
  have g1 : X1.heap[w1.heap.size]? = some (.cells (MC oneM (.slice aq 1 cq) nilS nilS nilS) 27 (0, 0)) := by rw [← hX1]; exact heap_alloc_new _ _
  have hbX : Below w1.heap.size w1 X1 := by rw [← hX1]; exact (Below.refl _ _).alloc (Nat.le_refl _) _
  have hqX := hq.below hbX
  have hbb := hb1.trans (hbX.mono hb1.size)
  have f12 : X1.frozen? ⟨w1.heap.size, 12, none⟩ = false := row_frozen g1 12
  have c12 : X1.cell? ⟨w1.heap.size, 12, none⟩ = some (.bool false) := row_cell g1 12 _ rfl
  have g2 := heap_set (i := 12) (v := .bool true) g1
  obtain ⟨X2, hX2⟩ : ∃ X2, X1.setCell ⟨w1.heap.size, 12, none⟩ (.bool true) = X2 := ⟨_, rfl⟩
  have hqX2 := hqX.setCell (i := 12) (u := .bool true) g1 (by decide)
  have hbX2 := hbb.setCell (p := ⟨w1.heap.size, 12, none⟩) hb1.size (.bool true)
  rw [hX2] at g2 hqX2 hbX2
  have f13 : X2.frozen? ⟨w1.heap.size, 13, none⟩ = false := row_frozen g2 13
  have c13 : X2.cell? ⟨w1.heap.size, 13, none⟩ = some (.int .i64 0) := row_cell g2 13 _ rfl
  have g3 : (X2.setCell ⟨w1.heap.size, 13, none⟩ (.int .i64 (z : Int))).heap[w1.heap.size]? = some (.cells (MC (oM (z : Int)) (.slice aq 1 cq) nilS nilS nilS) 27 (0, 0)) := heap_set g2
  obtain ⟨X3, hX3⟩ : ∃ X3, X2.setCell ⟨w1.heap.size, 13, none⟩ (.int .i64 (z : Int)) = X3 := ⟨_, rfl⟩
  have hqX3 := hqX2.setCell (i := 13) (u := .int .i64 (z : Int)) g2 (by decide)
  have hbX3 := hbX2.setCell (p := ⟨w1.heap.size, 13, none⟩) hb1.size (.int .i64 (z : Int))
  rw [hX3] at g3 hqX3 hbX3
  have hm3 : MsgL X3 (oM (z : Int)) (.slice aq 1 cq) nilS nilS nilS := ⟨hqX3.1, SlC.nil _ _, SlC.nil _ _, SlC.nil _ _⟩
  have henc := Encode_all (oM (z : Int)) _ _ _ _ X3 hm3 (oM_S _)
  rw [HENC0.out] at henc
  obtain ⟨fs, hu⟩ := undMsg
  have hNs : w.heap.size ≤ w1.heap.size := hb1.size
  have G3 := Go.Lib.hid g3
  have HB3 := Go.Lib.hid hbX3
  have HM3 := Go.Lib.hid hm3
  have HENC := Go.Lib.hid henc
  have HU := Go.Lib.hid hu
  have G1 := Go.Lib.hid g1
  have G2 := Go.Lib.hid g2
  clear g3 hbX3 hm3 henc hu g1 g2
  clear hq hb1 hbX hqX hbb hqX2 hbX2 hqX3 HONE
  generalize hN : w1.heap.size = N at *
  simp only [MC] at hX1
  go_wp2_with (refine wpList_load_rowG rfl 27 (.tmp 5) rfl N rfl _ _ (0, 0) _ G3.out HU.out rfl infoMsg ?_)
  clear hX1 hX2 hX3 f12 c12 f13 c13 hN
  refine HENC.out.mono ?_; rintro e w4 ⟨ab, cb, rfl, hsl, hb4⟩
  have g4 := (hb4.block _ (Array.getElem?_eq_some_iff.1 G3.out).1).trans G3.out
  have hbw4 := HB3.out.trans (hb4.mono HB3.out.size)
  have hm4 := HM3.out.below hb4 (Nat.le_refl _)
  simp only at hsl ⊢
  have hl30 : (o19 0 0 1 ++ oOpt hi lo).length = 30 := rfl
  have hby : Byts w4 (.slice ab (o19 0 0 1 ++ oOpt hi lo).length cb) (o19 0 0 1 ++ oOpt hi lo) := hsl.1
  rw [hl30] at hby ⊢
  obtain ⟨gb, off, rfl, hgb, hcell⟩ := Byts.at hby (by rw [hl30]; omega)
  have hcap : 30 ≤ cb := by
    obtain ⟨_, _, _, e, h2, _⟩ := hby
    cases e
    exact h2
  have G4 := Go.Lib.hid g4
  have HB4 := Go.Lib.hid hbw4
  have HM4 := Go.Lib.hid hm4
  have HBY := Go.Lib.hid hby
  have HL30 := Go.Lib.hid hl30
  clear g4 hbw4 hm4 hby hl30
  clear hb4 hsl hcell HENC HB3 HM3
  obtain ⟨X5, hX5⟩ : ∃ X5, w4.alloc (.cells #[.int .u8 ((z : Int) / 256), .int .u8 ((z : Int) % 256)] 5) = X5 := ⟨_, rfl⟩
  have hb5 : Below w4.heap.size w4 X5 := by rw [← hX5]; exact (Below.refl _ _).alloc (Nat.le_refl _) _
  have hcv1 : (convert 22 9 (.slice (some ⟨w4.heap.size, 0, none⟩) 2 2)).run Try.prog X5 = .ok (.string (mk [hi, lo])) X5 := by
    have hx : Byts X5 (.slice (some ⟨w4.heap.size, 0, none⟩) 2 2) [hi, lo] := by
      have := slc_new w4 1 2 5 (encB [hi, lo]) rfl (by decide)
      rw [← HTV.out] at this
      unfold Byts
      show SlC X5 1 _ 2 (encB [hi, lo])
      rw [← HTV.out, ← hX5]
      exact this
    exact run_conv_string hx
  have c1 : (⟨#[0, 0, 41]⟩ : ByteArray) ++ mk [hi, lo] = mk [0, 0, 41, hi, lo] := by apply bl_inj; rw [bl_append, bl_mk, bl_mk]; rfl
  have c2 : mk [0, 0, 41, hi, lo] ++ (⟨#[0, 0, 0, 0, 0, 0]⟩ : ByteArray) = mk (oOpt hi lo) := by apply bl_inj; rw [bl_append, bl_mk, bl_mk]; rfl
  have hby5 := HBY.out.below hb5 (Nat.le_refl _)
  have hcv2 : (convert 22 9 (.slice (some ⟨gb, off + 19, none⟩) 11 (cb - 19))).run Try.prog X5 = .ok (.string (mk (oOpt hi lo))) X5 := by
    have := Byts.rest (k := 19) hby5 (by rw [HL30.out]; omega)
    exact run_conv_string this
  have hb5w := HB4.out.trans (hb5.mono HB4.out.size)
  have g5 := (hb5.block _ (Array.getElem?_eq_some_iff.1 G4.out).1).trans G4.out
  have hm5 := HM4.out.below hb5 (Nat.le_refl _)
  have s1 : (mk [hi, lo]).size = 2 := size_mk _
  have s2 : (mk [0, 0, 41, hi, lo]).size = 5 := size_mk _
  have hcap2 : (19 : Int) ≤ (cb : Int) := by omega
  have hby6 : SlC (X5.alloc (.cells #[] 5)) 1 (.slice (some ⟨gb, off, none⟩) 30 cb) 30 (encB (o19 0 0 1 ++ oOpt hi lo)) := hby5.below ((Below.refl _ X5).alloc (Nat.le_refl _) (.cells #[] 5)) (Nat.le_refl _)
  have HB5 := Go.Lib.hid hb5w
  have G5 := Go.Lib.hid g5
  have HM5 := Go.Lib.hid hm5
  have HBY5 := Go.Lib.hid hby5
  have HBY6 := Go.Lib.hid hby6
  clear hb5w g5 hm5 hby5 hby6
  clear hb5 HB4 G4 HM4
  go_wp2_with (at_builtin; refine wpList_app byteEi (.tmp 53) (.tmp 54) rfl rfl X5.heap.size rfl rfl (owns_empty X5 X5.heap.size 5 1 (Nat.le_refl _)) HBY6.out ?a1 ?a2 ?a3 (by simp) ?a5)
  case a1 => exact one_byts (o19 0 0 1 ++ oOpt hi lo)
  case a2 => decide
  case a3 => decide
  case a5 =>
  intro v6 w6 hown6 hg6
  have hb6 := below_app ((Below.refl _ X5).alloc (Nat.le_refl _) (.cells #[] 5)) (owns_empty X5 X5.heap.size 5 1 (Nat.le_refl _)) hg6 (Nat.le_refl _) (by simp)
  obtain ⟨g, cap, rfl⟩ := ownsRow_succ (k := 29) hown6
  have hO6 : w6.ownsRow X5.heap.size 5 1 (.slice (some ⟨g, 0, none⟩) 30 cap) 30 (encB (o19 0 0 1 ++ oOpt hi lo)) := hown6
  have hgX : X5.heap.size ≤ g := (hown6.lt g rfl).1
  have hrd := fun W => Round_any k 5 W (by decide) (by decide)
  obtain ⟨r, hr1, hr2⟩ : ∃ r : Nat, k % 5 = (r : Int) ∧ r < 5 := ⟨(k % 5).toNat, by omega, by omega⟩
  rw [hr1] at hrd
  have hs6 := hb6.size
  have HO6 := Go.Lib.hid hO6
  have HB6 := Go.Lib.hid hb6
  have HRD := Go.Lib.hid hrd
  have HR1 := Go.Lib.hid hr1
  clear hO6 hb6 hrd hr1
  clear hown6 hg6 hX5 hcv1 hcv2 c1 c2 s1 s2 HBY6 HTV e1
  rcases (by omega : r = 0 ∨ r = 1 ∨ r = 2 ∨ r = 3 ∨ r = 4) with rfl | rfl | rfl | rfl | rfl
  · go_wp2_with fail
    refine (HRD.out _).mono ?_; rintro e _ ⟨rfl, rfl⟩
    go_wp2_with (at_builtin; refine wpList_app_str (.tmp 60) (.tmp 61) rfl rfl X5.heap.size (oOpt hi lo) rfl rfl HO6.out ?b1 ?b2 ?b3)
    case b1 => exact (by decide : (30 + 11 : Nat) ≤ 140737488355328)
    case b2 => exact hs6
    case b3 =>
    intro v7 w7 hown7 hg7
    have hb7 := below_app HB6.out HO6.out hg7 (Nat.le_refl _) hs6
    obtain ⟨g7, c7, rfl⟩ := ownsRow_succ (k := 40) hown7
    have hO7 : w7.ownsRow X5.heap.size 5 1 (.slice (some ⟨g7, 0, none⟩) 41 c7) 41 (encB (o19 0 0 1 ++ oOpt hi lo ++ oOpt hi lo)) := hown7
    have hg7X : X5.heap.size ≤ g7 := (hown7.lt g7 rfl).1
    have x0 := cellB hO7 11 (by omega)
    have z0 := hO7.frozenAt 11
    have o0 := stB hO7 11 2 (v := 2) rfl
    have hbyC : Byts (w7.setCell ⟨g7, 11, none⟩ (.int .u8 2)) (.slice (some ⟨g7, 0, none⟩) 41 c7) (o19 0 0 2 ++ oOpt hi lo ++ oOpt hi lo) := SlC.of_owns o0
    obtain ⟨M, hM⟩ : ∃ M, decN (o19 0 0 2 ++ oOpt hi lo ++ oOpt hi lo) = (M, true, 2) := ⟨(decN (o19 0 0 2 ++ oOpt hi lo ++ oOpt hi lo)).1, by rw [← D0.out]⟩
    have hdc := Decode_any (some ⟨g7, 0, none⟩) c7 (o19 0 0 2 ++ oOpt hi lo ++ oOpt hi lo) _ hbyC (by show 41 ≤ _; decide)
    rw [hM] at hdc
    have hbC := HB5.out.trans (Below.mono (hb7.setCell (p := ⟨g7, 11, none⟩) hg7X (.int .u8 2)) HB5.out.size)
    have HDC := Go.Lib.hid hdc
    have HBC := Go.Lib.hid hbC
    clear hdc hbC
    clear hbyC hM hown7 hg7 hO7 o0 hb7
    go_wp2_with fail
    refine HDC.out.mono ?_; rintro e w8 ⟨q8, a8, s8, d8', rfl, ht8, hb8⟩
    obtain ⟨bq, eq, ba, ea, bv, es, bd, ed', rfl, rfl, rfl, rfl⟩ := msg_places ht8
    simp only at ht8 ⊢
    obtain ⟨Y, hY⟩ : ∃ Y, w8.alloc (.cells (MC M (.slice bq M.qs.length eq) (.slice ba M.an.length ea) (.slice bv M.sv.length es) (.slice bd M.ad.length ed')) 27) = Y := ⟨_, rfl⟩
    have hbY : Below w8.heap.size w8 Y := by rw [← hY]; exact (Below.refl _ _).alloc (Nat.le_refl _) _
    have hbe := HBC.out.trans ((hb8.trans (hbY.mono hb8.size)).mono HBC.out.size)
    have HBE := Go.Lib.hid hbe
    clear hbe
    clear hb8 hbY ht8 HDC HBC
    simp only [MC] at hY
    go_wp2_with fail
    clear hY
    refine (HAW.out _).mono ?_; rintro e wz ⟨rfl, hx⟩
    have HXX := Go.Lib.hid hx
    clear hx
    go_wp2_with fail
    go_ret
    exact ⟨rfl, HBE.out.trans (HXX.out.mono HBE.out.size)⟩
  · skip
    have x0 := cellB HO6.out 7 (by omega)
    have z0 := HO6.out.frozenAt 7
    have o0 := stB HO6.out 7 1 (v := 1) rfl
    have x1 := cellB o0 11 (by omega)
    have z1 := o0.frozenAt 11
    have o1 := stB o0 11 0 (v := 0) rfl
    have hbyC : Byts ((w6.setCell ⟨g, 7, none⟩ (.int .u8 1)).setCell ⟨g, 11, none⟩ (.int .u8 0)) (.slice (some ⟨g, 0, none⟩) 30 cap) (o19 1 0 0 ++ oOpt hi lo) := SlC.of_owns o1
    obtain ⟨M, hM⟩ : ∃ M, decN (o19 1 0 0 ++ oOpt hi lo) = (M, true, 2) := ⟨(decN (o19 1 0 0 ++ oOpt hi lo)).1, by rw [← D1.out]⟩
    have hdc := Decode_any (some ⟨g, 0, none⟩) cap (o19 1 0 0 ++ oOpt hi lo) _ hbyC (by show 30 ≤ _; decide)
    rw [hM] at hdc
    have hbC := HB5.out.trans (Below.mono ((HB6.out.setCell (p := ⟨g, 7, none⟩) hgX (.int .u8 1)).setCell (p := ⟨g, 11, none⟩) hgX (.int .u8 0)) HB5.out.size)
    have O0 := Go.Lib.hid o0
    have O1 := Go.Lib.hid o1
    clear o0 o1
    have HRDx := HRD
    go_wp2_with fail
    refine (HRDx.out _).mono ?_; rintro e _ ⟨rfl, rfl⟩
    have HDC := Go.Lib.hid hdc
    have HBC := Go.Lib.hid hbC
    clear hdc hbC
    clear hbyC hM
    go_wp2_with fail
    refine HDC.out.mono ?_; rintro e w8 ⟨q8, a8, s8, d8', rfl, ht8, hb8⟩
    obtain ⟨bq, eq, ba, ea, bv, es, bd, ed', rfl, rfl, rfl, rfl⟩ := msg_places ht8
    simp only at ht8 ⊢
    obtain ⟨Y, hY⟩ : ∃ Y, w8.alloc (.cells (MC M (.slice bq M.qs.length eq) (.slice ba M.an.length ea) (.slice bv M.sv.length es) (.slice bd M.ad.length ed')) 27) = Y := ⟨_, rfl⟩
    have hbY : Below w8.heap.size w8 Y := by rw [← hY]; exact (Below.refl _ _).alloc (Nat.le_refl _) _
    have hbe := HBC.out.trans ((hb8.trans (hbY.mono hb8.size)).mono HBC.out.size)
    have HBE := Go.Lib.hid hbe
    clear hbe
    clear hb8 hbY ht8 HDC HBC
    simp only [MC] at hY
    go_wp2_with fail
    clear hY
    refine (HAW.out _).mono ?_; rintro e wz ⟨rfl, hx⟩
    have HXX := Go.Lib.hid hx
    clear hx
    go_wp2_with fail
    go_ret
    exact ⟨rfl, HBE.out.trans (HXX.out.mono HBE.out.size)⟩
  · skip
    have x0 := cellB HO6.out 9 (by omega)
    have z0 := HO6.out.frozenAt 9
    have o0 := stB HO6.out 9 1 (v := 1) rfl
    have x1 := cellB o0 11 (by omega)
    have z1 := o0.frozenAt 11
    have o1 := stB o0 11 0 (v := 0) rfl
    have hbyC : Byts ((w6.setCell ⟨g, 9, none⟩ (.int .u8 1)).setCell ⟨g, 11, none⟩ (.int .u8 0)) (.slice (some ⟨g, 0, none⟩) 30 cap) (o19 0 1 0 ++ oOpt hi lo) := SlC.of_owns o1
    obtain ⟨M, hM⟩ : ∃ M, decN (o19 0 1 0 ++ oOpt hi lo) = (M, true, 2) := ⟨(decN (o19 0 1 0 ++ oOpt hi lo)).1, by rw [← D2.out]⟩
    have hdc := Decode_any (some ⟨g, 0, none⟩) cap (o19 0 1 0 ++ oOpt hi lo) _ hbyC (by show 30 ≤ _; decide)
    rw [hM] at hdc
    have hbC := HB5.out.trans (Below.mono ((HB6.out.setCell (p := ⟨g, 9, none⟩) hgX (.int .u8 1)).setCell (p := ⟨g, 11, none⟩) hgX (.int .u8 0)) HB5.out.size)
    have O0 := Go.Lib.hid o0
    have O1 := Go.Lib.hid o1
    clear o0 o1
    have HRDx := HRD
    go_wp2_with fail
    refine (HRDx.out _).mono ?_; rintro e _ ⟨rfl, rfl⟩
    have HDC := Go.Lib.hid hdc
    have HBC := Go.Lib.hid hbC
    clear hdc hbC
    clear hbyC hM
    go_wp2_with fail
    refine HDC.out.mono ?_; rintro e w8 ⟨q8, a8, s8, d8', rfl, ht8, hb8⟩
    obtain ⟨bq, eq, ba, ea, bv, es, bd, ed', rfl, rfl, rfl, rfl⟩ := msg_places ht8
    simp only at ht8 ⊢
    obtain ⟨Y, hY⟩ : ∃ Y, w8.alloc (.cells (MC M (.slice bq M.qs.length eq) (.slice ba M.an.length ea) (.slice bv M.sv.length es) (.slice bd M.ad.length ed')) 27) = Y := ⟨_, rfl⟩
    have hbY : Below w8.heap.size w8 Y := by rw [← hY]; exact (Below.refl _ _).alloc (Nat.le_refl _) _
    have hbe := HBC.out.trans ((hb8.trans (hbY.mono hb8.size)).mono HBC.out.size)
    have HBE := Go.Lib.hid hbe
    clear hbe
    clear hb8 hbY ht8 HDC HBC
    simp only [MC] at hY
    go_wp2_with fail
    clear hY
    refine (HAW.out _).mono ?_; rintro e wz ⟨rfl, hx⟩
    have HXX := Go.Lib.hid hx
    clear hx
    go_wp2_with fail
    go_ret
    exact ⟨rfl, HBE.out.trans (HXX.out.mono HBE.out.size)⟩
  · go_wp2_with fail
    refine (HRD.out _).mono ?_; rintro e _ ⟨rfl, rfl⟩
    go_wp2_with fail
    have hne : Nonempty (Subtype (Below w6.heap.size w6)) := ⟨⟨w6, Below.refl _ _⟩⟩
    have t19 : (19 : Int) ≤ (cb : Int) := hcap2
    have n19 : ¬ cb = 19 := by omega
    have n20 : ¬ (cb : Int) = 19 := by omega
    have n21 : ¬ cb - 19 = 0 := by omega
    have hbw5 := HBY5.out
    have hbyD := hbw5.below (HB6.out) (Nat.le_refl _)
    have hE := (owns_empty w6 w6.heap.size 5 1 (Nat.le_refl _)).drew
    have hbE : Below w6.heap.size w6 (w6.alloc (.cells #[] 5)).drew := ((Below.refl _ w6).alloc (Nat.le_refl _) _).drew
    have HBYD := Go.Lib.hid hbyD
    have HE := Go.Lib.hid hE
    have HBE3 := Go.Lib.hid hbE
    clear hbyD hE hbE
    refine Go.Mix.wp_region_mix (Es := [0, 3, 4, 7]) (Below w6.heap.size w6) mixed (by kernel_rfl) (Below.refl _ _).drew (fun _ => ?_)
    refine Go.Mix.mix_eff rfl (fun K hK => ?_)
    have HKK := Go.Lib.hid hK
    clear hK
    go_simp
    refine HKK.out _ _ HBE3.out ?_
    clear HKK K
    iterate 2 (refine Go.Mix.mix_step rfl (fun K hK => ?_); have HKK := Go.Lib.hid hK; clear hK; go_simp; refine HKK.out _ _ ?_; clear HKK K)
    refine mix_app byteEi (.tmp 79) (.tmp 81) rfl rfl rfl w6.heap.size rfl rfl HE.out (show SlC _ 1 _ 19 (encB (o19 0 0 1)) from Byts.front (k := 19) (HBYD.out.below HBE3.out (Nat.le_refl _)) (by rw [HL30.out]; omega)) (one_byts (o19 0 0 1)) (by decide) (by decide) HBE3.out.size ?_
    intro v7 w7 hown7 hg7
    have hb7 := below_app HBE3.out HE.out hg7 (Nat.le_refl _) HBE3.out.size
    obtain ⟨g7, c7, rfl⟩ := ownsRow_succ (k := 18) hown7
    have hO7 : w7.ownsRow w6.heap.size 5 1 (.slice (some ⟨g7, 0, none⟩) 19 c7) 19 (encB (o19 0 0 1)) := hown7
    refine ⟨hb7, ?_⟩
    refine mix_app_str (.tmp 82) (.const (.string ⟨#[1, 98]⟩)) rfl rfl rfl w6.heap.size [1, 98] rfl rfl hO7 (by decide) hb7.size ?_
    intro v8 w8 hown8 hg8
    have hb8 := below_app hb7 hO7 hg8 (Nat.le_refl _) hb7.size
    obtain ⟨g8, c8, rfl⟩ := ownsRow_succ (k := 20) hown8
    have hO8 : w8.ownsRow w6.heap.size 5 1 (.slice (some ⟨g8, 0, none⟩) 21 c8) 21 (encB (o19 0 0 1 ++ [1, 98])) := hown8
    refine ⟨hb8, ?_⟩
    have HB8 := Go.Lib.hid hb8
    have HO8 := Go.Lib.hid hO8
    clear hb8 hO8
    clear hown7 hg7 hb7 hO7 hown8 hg8
    iterate 2 (refine Go.Mix.mix_step rfl (fun K hK => ?_); have HKK := Go.Lib.hid hK; clear hK; go_simp; refine HKK.out _ _ ?_; clear HKK K)
    refine mix_app byteEi (.tmp 83) (.tmp 85) rfl rfl rfl w6.heap.size rfl rfl HO8.out (show SlC _ 1 _ 11 (encB (oOpt hi lo)) from Byts.rest (k := 19) (HBYD.out.below HB8.out (Nat.le_refl _)) (by rw [HL30.out]; omega)) (one_byts (oOpt hi lo)) (by decide) (by decide) HB8.out.size ?_
    intro v9 w9 hown9 hg9
    have hb9 := below_app HB8.out HO8.out hg9 (Nat.le_refl _) HB8.out.size
    obtain ⟨g9, c9, rfl⟩ := ownsRow_succ (k := 31) hown9
    have hO9 : w9.ownsRow w6.heap.size 5 1 (.slice (some ⟨g9, 0, none⟩) 32 c9) 32 (encB (o19 0 0 1 ++ [1, 98] ++ oOpt hi lo)) := hown9
    refine ⟨hb9, ?_⟩
    obtain ⟨M, hM⟩ : ∃ M, decN (o19 0 0 1 ++ [1, 98] ++ oOpt hi lo) = (M, true, 2) := ⟨(decN (o19 0 0 1 ++ [1, 98] ++ oOpt hi lo)).1, by rw [← D3.out]⟩
    have hbyC : Byts w9 (.slice (some ⟨g9, 0, none⟩) 32 c9) (o19 0 0 1 ++ [1, 98] ++ oOpt hi lo) := SlC.of_owns hO9
    have hdc := Decode_any (some ⟨g9, 0, none⟩) c9 (o19 0 0 1 ++ [1, 98] ++ oOpt hi lo) _ hbyC (by show 32 ≤ _; decide)
    rw [hM] at hdc
    have hbC := (HB5.out.trans (HB6.out.mono HB5.out.size)).trans (Below.mono hb9 (HB5.out.trans (HB6.out.mono HB5.out.size)).size)
    have HDC := Go.Lib.hid hdc
    have HBC := Go.Lib.hid hbC
    clear hdc hbC
    clear hbyC hM hO9 hown9 hg9 hb9
    iterate 1 (refine Go.Mix.mix_step rfl (fun K hK => ?_); have HKK := Go.Lib.hid hK; clear hK; go_simp; refine HKK.out _ _ ?_; clear HKK K)
    refine Go.Mix.mix_nil ?_
    go_wp2_with fail
    refine HDC.out.mono ?_; rintro e wx ⟨q8, a8, s8, d8', rfl, ht8, hb8⟩
    obtain ⟨bq, eq, ba, ea, bv, es, bd, ed', rfl, rfl, rfl, rfl⟩ := msg_places ht8
    simp only at ht8 ⊢
    obtain ⟨Y, hY⟩ : ∃ Y, wx.alloc (.cells (MC M (.slice bq M.qs.length eq) (.slice ba M.an.length ea) (.slice bv M.sv.length es) (.slice bd M.ad.length ed')) 27) = Y := ⟨_, rfl⟩
    have hbY : Below wx.heap.size wx Y := by rw [← hY]; exact (Below.refl _ _).alloc (Nat.le_refl _) _
    have hbe := HBC.out.trans ((hb8.trans (hbY.mono hb8.size)).mono HBC.out.size)
    have HBE := Go.Lib.hid hbe
    clear hbe
    clear hb8 hbY ht8 HDC HBC
    simp only [MC] at hY
    go_wp2_with fail
    clear hY
    refine (HAW.out _).mono ?_; rintro e wz ⟨rfl, hx⟩
    have HXX := Go.Lib.hid hx
    clear hx
    go_wp2_with fail
    go_ret
    exact ⟨rfl, HBE.out.trans (HXX.out.mono HBE.out.size)⟩
  · skip
    have x0 := cellB HO6.out 24 (by omega)
    have z0 := HO6.out.frozenAt 24
    have o0 := stB HO6.out 24 9 (v := 9) rfl
    have x1 := cellB o0 25 (by omega)
    have z1 := o0.frozenAt 25
    have o1 := stB o0 25 9 (v := 9) rfl
    have x2 := cellB o1 26 (by omega)
    have z2 := o1.frozenAt 26
    have o2 := stB o1 26 9 (v := 9) rfl
    have x3 := cellB o2 27 (by omega)
    have z3 := o2.frozenAt 27
    have o3 := stB o2 27 9 (v := 9) rfl
    have hbS := (((HB6.out.setCell (p := ⟨g, 24, none⟩) hgX (.int .u8 9)).setCell (p := ⟨g, 25, none⟩) hgX (.int .u8 9)).setCell (p := ⟨g, 26, none⟩) hgX (.int .u8 9)).setCell (p := ⟨g, 27, none⟩) hgX (.int .u8 9)
    obtain ⟨S, hS⟩ : ∃ S, ((((w6.setCell ⟨g, 24, none⟩ (.int .u8 9)).setCell ⟨g, 25, none⟩ (.int .u8 9)).setCell ⟨g, 26, none⟩ (.int .u8 9)).setCell ⟨g, 27, none⟩ (.int .u8 9)) = S := ⟨_, rfl⟩
    have oS : S.ownsRow X5.heap.size 5 1 (.slice (some ⟨g, 0, none⟩) 30 cap) 30 (encB (o19 0 0 1 ++ [0, 0, 41, hi, lo, 9, 9, 9, 9, 0, 0])) := by rw [← hS]; exact o3
    rw [hS] at hbS
    have hsS := hbS.size
    have OS := Go.Lib.hid oS
    have O0 := Go.Lib.hid o0
    have O1 := Go.Lib.hid o1
    have O2 := Go.Lib.hid o2
    have O3 := Go.Lib.hid o3
    have HBS := Go.Lib.hid hbS
    clear oS o0 o1 o2 o3 hbS
    have HRDx := HRD
    go_wp2_with fail
    refine (HRDx.out _).mono ?_; rintro e _ ⟨rfl, rfl⟩
    go_wp2_with (at_builtin; refine wpList_app_str (.tmp 97) (.const (.string ⟨#[97, 98, 99, 100]⟩)) rfl rfl X5.heap.size [97, 98, 99, 100] rfl rfl OS.out ?e1 ?e2 ?e3)
    case e1 => decide
    case e2 => exact hsS
    case e3 =>
    intro v7 w7 hown7 hg7
    have hb7 := below_app HBS.out OS.out hg7 (Nat.le_refl _) hsS
    obtain ⟨g7, c7, rfl⟩ := ownsRow_succ (k := 33) hown7
    have hO7 : w7.ownsRow X5.heap.size 5 1 (.slice (some ⟨g7, 0, none⟩) 34 c7) 34 (encB (o19 0 0 1 ++ [0, 0, 41, hi, lo, 9, 9, 9, 9, 0, 0, 97, 98, 99, 100])) := hown7
    have hg7X : X5.heap.size ≤ g7 := (hown7.lt g7 rfl).1
    have y0 := cellB hO7 29 (by omega)
    have yz := hO7.frozenAt 29
    have hO8 : (w7.setCell ⟨g7, 29, none⟩ (.int .u8 4)).ownsRow X5.heap.size 5 1 (.slice (some ⟨g7, 0, none⟩) 34 c7) 34 (encB (o19 0 0 1 ++ [0, 0, 41, hi, lo, 9, 9, 9, 9, 0, 4, 97, 98, 99, 100])) := stB hO7 29 4 (v := 4) rfl
    have hbT := hb7.setCell (p := ⟨g7, 29, none⟩) hg7X (.int .u8 4)
    obtain ⟨T, hT⟩ : ∃ T, w7.setCell ⟨g7, 29, none⟩ (.int .u8 4) = T := ⟨_, rfl⟩
    rw [hT] at hO8 hbT
    have hbyC : Byts T (.slice (some ⟨g7, 0, none⟩) 34 c7) (o19 0 0 1 ++ [0, 0, 41, hi, lo, 9, 9, 9, 9, 0, 4, 97, 98, 99, 100]) := SlC.of_owns hO8
    have hdc := Decode_any (some ⟨g7, 0, none⟩) c7 (o19 0 0 1 ++ [0, 0, 41, hi, lo, 9, 9, 9, 9, 0, 4, 97, 98, 99, 100]) _ hbyC (by show 34 ≤ _; decide)
    rw [D4.out] at hdc
    have hbC := HB5.out.trans (Below.mono hbT HB5.out.size)
    have gC := (hbT.block _ (Array.getElem?_eq_some_iff.1 G5.out).1).trans G5.out
    have hmC := HM5.out.below hbT (Nat.le_refl _)
    have HDC := Go.Lib.hid hdc
    have HBC := Go.Lib.hid hbC
    have GC := Go.Lib.hid gC
    have HMC := Go.Lib.hid hmC
    clear hdc hbC gC hmC
    clear hbyC hown7 hg7 hO7 hO8 hb7 hbT hS x0 x1 x2 x3 z0 z1 z2 z3
    go_wp2_with fail
    refine HDC.out.mono ?_; rintro e wx ⟨q8, a8, s8, d8', rfl, ht8, hb8⟩
    obtain ⟨bq, eq, ba, ea, bv, es, bd, ed', rfl, rfl, rfl, rfl⟩ := msg_places ht8
    simp only at ht8 ⊢
    generalize hMM : oM (z : Int) = M at *
    obtain ⟨Y, hY⟩ : ∃ Y, wx.alloc (.cells (MC M (.slice bq M.qs.length eq) (.slice ba M.an.length ea) (.slice bv M.sv.length es) (.slice bd M.ad.length ed')) 27) = Y := ⟨_, rfl⟩
    have gY : Y.heap[wx.heap.size]? = some (.cells (MC M (.slice bq M.qs.length eq) (.slice ba M.an.length ea) (.slice bv M.sv.length es) (.slice bd M.ad.length ed')) 27 (0, 0)) := by rw [← hY]; exact heap_alloc_new _ _
    have hbY : Below wx.heap.size wx Y := by rw [← hY]; exact (Below.refl _ _).alloc (Nat.le_refl _) _
    have hb8Y := hb8.trans (hbY.mono hb8.size)
    have g9 := (hb8Y.block _ (Array.getElem?_eq_some_iff.1 GC.out).1).trans GC.out
    have hbe := HBC.out.trans (hb8Y.mono HBC.out.size)
    have hms := Message_same M _ _ _ _ _ _ _ _ Y (ht8.below hbY).lies (HMC.out.below hb8Y (Nat.le_refl _))
    have HBE := Go.Lib.hid hbe
    have GY := Go.Lib.hid gY
    have G9 := Go.Lib.hid g9
    have HMS := Go.Lib.hid hms
    have HMM := Go.Lib.hid hMM
    clear hbe gY g9 hms hMM
    clear hb8 hbY hb8Y ht8 HDC HBC hT y0 yz
    simp only [MC] at hY
    go_wp2_with (first | (refine wpList_load_rowG rfl 27 (.tmp 11) rfl wx.heap.size rfl _ _ (0, 0) _ GY.out HU.out rfl infoMsg ?_) | (refine wpList_load_rowG rfl 27 (.tmp 5) rfl N rfl _ _ (0, 0) _ G9.out HU.out rfl infoMsg ?_))
    refine HMS.out.mono ?_; rintro e wy ⟨rfl, hy⟩
    have hbz := HBE.out.trans (hy.mono HBE.out.size)
    have HBZ := Go.Lib.hid hbz
    clear hbz
    clear hy hY
    go_wp2_with fail
    refine (HAW.out _).mono ?_; rintro e wz ⟨rfl, hx⟩
    have HXX := Go.Lib.hid hx
    clear hx
    go_wp2_with fail
    go_ret
    exact ⟨rfl, HBZ.out.trans (HXX.out.mono HBZ.out.size)⟩
theorem walk (z k : Int) (w : World) (_ : Fits z) (_ : Fits k) :
    Calls Try.prog 8 #[.int .i64 z, .int .i64 k] w fun e w' => e = .returned (.bool true) ∧ Below w.heap.size w w' := by
  have haw := Go.Lib.hid awake4_any
  by_cases hbad : z < 0 ∨ (¬ z < 0 ∧ 65535 < z)
  · exact t0 z k w hbad haw
  · obtain ⟨i, rfl⟩ : ∃ i : Nat, z = i := ⟨z.toNat, by omega⟩
    exact t1 i k w (by omega) haw

set_option maxRecDepth 100000 in
theorem lifted (os : Os) (started : os.Started) (H : Type) (enc : TypeId × Value → H) :
    ReturnsInHanded {} Try.checked os 8 .any (Rows.messageOptsSpec.pre6 enc Try.prog Try.f8 Rows.messageOptsRow.domain false) (Rows.messageOptsSpec.post enc Try.prog Try.f8 false true false false) := by
  refine returnsInHanded_of_change (C := Try.checked) own started (by kernel_rfl) Try.func8
    (ChangeSpec.witness6 (enc := enc) (C := Try.checked) false ⟨#[], #[.int .i64 0, .int .i64 0], []⟩ 8 (by kernel_rfl) (by kernel_rfl) (by kernel_rfl) (by kernel_rfl)) ?_
  intro W base args ds gs before hval0 hW hcnd _
  have hval : ∀ (j : Nat) t v, Try.f8.params[j]? = some t → args[j]? = some v → Value.okWide Try.prog W .any base t v := hval0
  refine law_post enc 2 (by kernel_rfl) rfl rfl (by kernel_rfl) (fun ds h => match ds, h with | [_, _], _ => rfl) hW ?_
  obtain ⟨p, q, hA0, hV, rfl, _, _⟩ := hW
  have hA : DataW.TrodAll enc Try.prog W 0 (fun _ => true) true Try.f8.params.toList args.toList ds p := hA0
  rw [Try.params8] at hA hval
  obtain ⟨v0, vs0, d0, ds0, p0, q0, hargs, rfl, rfl, h0, r0⟩ := trodAll_cons hA
  obtain ⟨v1, vs1, d1, ds1, p1, q1, rfl, rfl, rfl, h1, r1⟩ := trodAll_cons r0
  obtain ⟨rfl, rfl, rfl⟩ := trodAll_nil r1
  obtain rfl : args = #[v0, v1] := by cases args; simp_all
  obtain ⟨a0, rfl, rfl, rfl, w0⟩ := open_int Try.underlying3 (hval 0 3 v0 rfl rfl) h0
  obtain ⟨a1, rfl, rfl, rfl, w1⟩ := open_int Try.underlying3 (hval 1 3 v1 rfl rfl) h1
  exact walk a0 a1 W (fits_of_wf w0) (fits_of_wf w1)

theorem over : Rows.messageOptsRow.holds Try.pinned (OpenSpec.ofChange Rows.messageOptsSpec) :=
  OpenClaim.holds_of_wide 8 Try.f8 rfl rfl rfl rfl rfl rfl rfl ⟨rfl, rfl, rfl, rfl, rfl⟩ rfl rfl rfl rfl rfl (by kernel_rfl) Try.func8 (by kernel_rfl)
    (of_decide_eq_true (by kernel_rfl)) (by unfold Func.isWrapper; first | (rw [if_pos (by decide +kernel)]; kernel_rfl) | (rw [if_neg (by decide +kernel)]; exact ⟨rfl, rfl⟩))
    (fun os started H enc _ => lifted os started H enc)

/-- the statement -/
theorem proved : Rows.MessageOptsSaid := over
#print axioms proved
end Go.Proofs.Ythfhmbooeemaaaa.messageOpts
