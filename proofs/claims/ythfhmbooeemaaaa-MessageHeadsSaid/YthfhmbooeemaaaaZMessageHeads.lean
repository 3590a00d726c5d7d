/- MessageHeads: the first twelve bytes say it all of a message of nothing. For every input; no conditions. -/
import Derived.Test.YthfhmbooeemaaaaG8
import Derived.Deep.OwnRows
import Derived.WalkSpells
namespace Go.Proofs.Ythfhmbooeemaaaa.messageHeads
open Go.ChangeShapes Go.WideShapes Go.ChangeAt Go.RowKit
open Go.ChangeMaps (open_string shut_string)
set_option linter.unusedVariables false
set_option maxRecDepth 100000

set_option maxHeartbeats 4000000 in
theorem t0 (id fl : Int) (w : World) (hbad : id < 0 ∨ (¬ id < 0 ∧ 65535 < id) ∨ (¬ id < 0 ∧ ¬ 65535 < id ∧ fl < 0) ∨ (¬ id < 0 ∧ ¬ 65535 < id ∧ ¬ fl < 0 ∧ 65535 < fl)) (HAW : Hid (∀ W, Calls Try.prog 11 #[] W fun e w' => e = .returned (.bool true) ∧ Below W.heap.size W w')) :
    Calls Try.prog 6 #[.int .i64 id, .int .i64 fl] w fun e w' => e = .returned (.bool true) ∧ Below w.heap.size w w' := by
  rcases hbad with h1 | ⟨h1, h2⟩ | ⟨h1, h2, h3⟩ | ⟨h1, h2, h3, h4⟩
  all_goals
    go_enter Try.func6, Try.ntmps6
    go_wp2_with fail
    refine (HAW.out _).mono ?_; rintro e w1 ⟨rfl, hx⟩
    have HX := Go.Lib.hid hx
    clear hx
    go_wp2_with fail
    go_ret
    exact ⟨rfl, HX.out⟩
set_option maxHeartbeats 8000000 in
theorem t1 (i f : Nat) (w : World) (hi : i < 65536) (hf : f < 65536) (HAW : Hid (∀ W, Calls Try.prog 11 #[] W fun e w' => e = .returned (.bool true) ∧ Below W.heap.size W w')) :
    Calls Try.prog 6 #[.int .i64 (i : Int), .int .i64 (f : Int)] w fun e w' => e = .returned (.bool true) ∧ Below w.heap.size w w' := by
  have t1 : ¬ (i : Int) < 0 := by omega
  have t2 : ¬ (65535 : Int) < (i : Int) := by omega
  have t3 : ¬ (f : Int) < 0 := by omega
  have t4 : ¬ (65535 : Int) < (f : Int) := by omega
  have hdh := dec_head i f hi hf
  obtain ⟨_, heh⟩ := enc_head i f hi hf
  have hwh := want_head i f hf
  obtain ⟨hby1, hby2⟩ := byte143 f
  have hb112 : bits .and .i64 (f : Int) 112 = ((f / 16 % 8 * 16 : Nat) : Int) := by rw [← (chk_facts f hf).2.1]; exact bits_and f 112 (by omega) (by decide)
  have hval : bits .and .u8 ((f : Int) % 256) 143 = ((byteOf ((f - f / 16 % 8 * 16 : Nat) : Int) 1).toNat : Int) := by
    rw [← hby1]
    have := byteOf_nat f 1
    rw [Int.ediv_one] at this
    rw [this]
  generalize hf2 : ((f - f / 16 % 8 * 16 : Nat) : Int) = f2 at *
  obtain ⟨r, hr⟩ : ∃ r : Int, r = (if f / 16 % 8 = 0 then 0 else 2) := ⟨_, rfl⟩
  rw [← hr] at hdh
  have hcase : (r = 0 ∧ bits .and .i64 (f : Int) 112 = 0) ∨ (r = 2 ∧ (bits .and .i64 (f : Int) 112 == 0) = false) := by
    rw [hr, hb112]
    by_cases hz : f / 16 % 8 = 0
    · left; rw [hz]; exact ⟨rfl, rfl⟩
    · right; rw [if_neg hz]; exact ⟨rfl, beq_eq_false_iff_ne.2 (by omega)⟩
  obtain ⟨k1, hk1⟩ : ∃ k, bits .and .i64 (f : Int) 32768 = k := ⟨_, rfl⟩
  obtain ⟨d2, hd2⟩ : ∃ k, bits .and .i64 ((f : Int) / 2048) 15 = k := ⟨_, rfl⟩
  obtain ⟨k3, hk3⟩ : ∃ k, bits .and .i64 (f : Int) 1024 = k := ⟨_, rfl⟩
  obtain ⟨k4, hk4⟩ : ∃ k, bits .and .i64 (f : Int) 512 = k := ⟨_, rfl⟩
  obtain ⟨k5, hk5⟩ : ∃ k, bits .and .i64 (f : Int) 256 = k := ⟨_, rfl⟩
  obtain ⟨k6, hk6⟩ : ∃ k, bits .and .i64 (f : Int) 128 = k := ⟨_, rfl⟩
  obtain ⟨d7, hd7⟩ : ∃ k, bits .and .i64 (f : Int) 15 = k := ⟨_, rfl⟩
  obtain ⟨d1, hd1⟩ : ∃ d, (k1 != 0) = d := ⟨_, rfl⟩
  obtain ⟨d3, hd3⟩ : ∃ d, (k3 != 0) = d := ⟨_, rfl⟩
  obtain ⟨d4, hd4⟩ : ∃ d, (k4 != 0) = d := ⟨_, rfl⟩
  obtain ⟨d5, hd5⟩ : ∃ d, (k5 != 0) = d := ⟨_, rfl⟩
  obtain ⟨d6, hd6⟩ : ∃ d, (k6 != 0) = d := ⟨_, rfl⟩
  have hwm : wantM i f = ⟨i, d1, d2, d3, d4, d5, d6, d7, [], [], [], [], false, 0⟩ := by unfold wantM; rw [hk1, hd2, hk3, hk4, hk5, hk6, hd7, hd1, hd3, hd4, hd5, hd6]
  rw [hwm] at hwh
  clear hwm
  obtain ⟨X1, hX1⟩ : ∃ X1, w.alloc (.cells #[.int .u8 ((i : Int) / 256), .int .u8 ((i : Int) % 256), .int .u8 ((f : Int) / 256), .int .u8 ((f : Int) % 256), .int .u8 0, .int .u8 0, .int .u8 0, .int .u8 0, .int .u8 0, .int .u8 0, .int .u8 0, .int .u8 0] 5) = X1 := ⟨_, rfl⟩
  have g1 : X1.heap[w.heap.size]? = some (.cells #[.int .u8 ((i : Int) / 256), .int .u8 ((i : Int) % 256), .int .u8 ((f : Int) / 256), .int .u8 ((f : Int) % 256), .int .u8 0, .int .u8 0, .int .u8 0, .int .u8 0, .int .u8 0, .int .u8 0, .int .u8 0, .int .u8 0] 5 (0, 0)) := by rw [← hX1]; exact heap_alloc_new _ _
  have hb1 : Below w.heap.size w X1 := by rw [← hX1]; exact (Below.refl _ _).alloc (Nat.le_refl _) _
  have e1 : (i : Int) / 256 % 256 = (i : Int) / 256 := by omega
  have e2 : (f : Int) / 256 % 256 = (f : Int) / 256 := by omega
  have hbyt : Byts X1 (.slice (some ⟨w.heap.size, 0, none⟩) 12 12) (bsN i f) := by
    have := slc_new w 1 12 5 (encB (bsN i f)) rfl (by decide)
    rw [enc_bsN, e1, e2] at this
    unfold Byts
    show SlC X1 1 _ 12 (encB (bsN i f))
    rw [enc_bsN, e1, e2, ← hX1]
    exact this
  have hdec := Decode_any (some ⟨w.heap.size, 0, none⟩) 12 (bsN i f) X1 hbyt (by show (12 : Nat) ≤ _; decide)
  rw [hdh] at hdec
  have HDEC := Go.Lib.hid hdec
  have G1 := Go.Lib.hid g1
  have HB := Go.Lib.hid hb1
  have HWH := Go.Lib.hid hwh
  have HEH := Go.Lib.hid heh
  have HBY2 := Go.Lib.hid hby2
  have HF2 := Go.Lib.hid hf2
  have HR := Go.Lib.hid hr
  clear hdec g1 hb1 hwh heh hby2 hf2 hr
  have HE2 := Go.Lib.hid e2
  have HE1 := Go.Lib.hid e1
  clear hdh hbyt hb112 hby1 e1 e2
  go_enter Try.func6, Try.ntmps6
  go_wp2_with fail
  refine HDEC.out.mono ?_; rintro e w2 ⟨q2, a2, s2, d2, rfl, ht2, hb2⟩
  obtain ⟨bq, eq, ba, ea, bv, es, bd, ed, rfl, rfl, rfl, rfl⟩ := msg_places ht2
  obtain ⟨X2, hX2⟩ : ∃ X2, w2.alloc (.cells (MC (headM i f) (.slice bq (headM i f).qs.length eq) (.slice ba (headM i f).an.length ea) (.slice bv (headM i f).sv.length es) (.slice bd (headM i f).ad.length ed)) 27) = X2 := ⟨_, rfl⟩
  obtain ⟨X3, hX3⟩ : ∃ X3, X2.alloc (.cells #[.int .i64 (i : Int), .bool d1, .int .i64 d2, .bool d3, .bool d4, .bool d5, .bool d6, .int .i64 d7, .slice none 0 0, .slice none 0 0, .slice none 0 0, .slice none 0 0, .bool false, .int .i64 0] 27) = X3 := ⟨_, rfl⟩
  have b2 : Below w2.heap.size w2 X2 := by rw [← hX2]; exact (Below.refl _ _).alloc (Nat.le_refl _) _
  have b3 : Below X2.heap.size X2 X3 := by rw [← hX3]; exact (Below.refl _ _).alloc (Nat.le_refl _) _
  have g2 : X2.heap[w2.heap.size]? = some (.cells (MC (headM i f) (.slice bq (headM i f).qs.length eq) (.slice ba (headM i f).an.length ea) (.slice bv (headM i f).sv.length es) (.slice bd (headM i f).ad.length ed)) 27 (0, 0)) := by rw [← hX2]; exact heap_alloc_new _ _
  have g3 : X3.heap[X2.heap.size]? = some (.cells #[.int .i64 (i : Int), .bool d1, .int .i64 d2, .bool d3, .bool d4, .bool d5, .bool d6, .int .i64 d7, .slice none 0 0, .slice none 0 0, .slice none 0 0, .slice none 0 0, .bool false, .int .i64 0] 27 (0, 0)) := by rw [← hX3]; exact heap_alloc_new _ _
  have g2' := (b3.block _ (Array.getElem?_eq_some_iff.1 g2).1).trans g2
  have b23 := b2.trans (b3.mono b2.size)
  have g1' := (b23.block _ (Nat.lt_of_lt_of_le (Array.getElem?_eq_some_iff.1 G1.out).1 hb2.size)).trans ((hb2.block _ (Array.getElem?_eq_some_iff.1 G1.out).1).trans G1.out)
  have hbX := HB.out.trans ((hb2.trans (b23.mono hb2.size)).mono HB.out.size)
  have ht3 := ht2.below b23
  have hmsg : Calls Try.prog 14 #[MV (headM i f) (.slice bq (headM i f).qs.length eq) (.slice ba (headM i f).an.length ea) (.slice bv (headM i f).sv.length es) (.slice bd (headM i f).ad.length ed), MV ⟨i, d1, d2, d3, d4, d5, d6, d7, [], [], [], [], false, 0⟩ nilS nilS nilS nilS] X3 fun e w' => e = .returned (.bool true) ∧ Below X3.heap.size X3 w' := by
    rw [HWH.out]
    exact Message_same (headM i f) _ _ _ _ _ _ _ _ _ ht3.lies ⟨SlC.nil _ _, SlC.nil _ _, SlC.nil _ _, SlC.nil _ _⟩
  have henc : ∀ W, Calls Try.prog 16 #[MV ⟨i, d1, d2, d3, d4, d5, d6, d7, [], [], [], [], false, 0⟩ nilS nilS nilS nilS] W (EncEnd W (bsN i f2, 0)) := fun W => by
    have := Encode_any (headM i f) nilS nilS nilS nilS W ⟨SlC.nil _ _, SlC.nil _ _, SlC.nil _ _, SlC.nil _ _⟩ (headS i f) (fun _ x hx => by simp [headM, allR, baseS, secL] at hx)
    rw [HEH.out] at this
    rw [HWH.out]
    exact this
  obtain ⟨fs, hu⟩ := undMsg
  have HMSG := Go.Lib.hid hmsg
  have HENC := Go.Lib.hid henc
  have G1b := Go.Lib.hid g1'
  have G3b := Go.Lib.hid g3
  have HBX := Go.Lib.hid hbX
  have G2b := Go.Lib.hid g2'
  have HU := Go.Lib.hid hu
  clear hmsg henc g1' g3 hbX g2' hu
  clear hb2 ht2 b2 b3 b23 g2 ht3 HB G1 HDEC HWH HEH
  simp only [MC] at hX2
  subst hX3
  rcases hcase with ⟨rfl, hz⟩ | ⟨rfl, hz⟩
  all_goals
    go_wp2_with (first | (refine wpList_load_rowG rfl 27 (.tmp 6) rfl w2.heap.size rfl _ _ (0, 0) _ G2b.out HU.out rfl infoMsg ?_) | (refine wpList_load_rowG rfl 27 (.tmp 9) rfl X2.heap.size rfl _ _ (0, 0) _ G3b.out HU.out rfl infoMsg ?_))
    refine HMSG.out.mono ?_; rintro e w3 ⟨rfl, hx3⟩
    have g1c := (hx3.block _ (Array.getElem?_eq_some_iff.1 G1b.out).1).trans G1b.out
    have g3c := (hx3.block _ (Array.getElem?_eq_some_iff.1 G3b.out).1).trans G3b.out
    have hb3 := HBX.out.trans (hx3.mono HBX.out.size)
    have G1c := Go.Lib.hid g1c
    have HB3 := Go.Lib.hid hb3
    have G3c := Go.Lib.hid g3c
    clear g1c hb3 g3c
    clear hx3 hX2 hX1
    go_wp2_with (refine wpList_load_rowG rfl 27 (.tmp 9) rfl X2.heap.size rfl _ _ (0, 0) _ G3c.out HU.out rfl infoMsg ?_)
    refine (HENC.out _).mono ?_; rintro e w4 ⟨ab, cb, rfl, hsl, hb4⟩
    have g1d := (hb4.block _ (Array.getElem?_eq_some_iff.1 G1c.out).1).trans G1c.out
    have hbb := HB3.out.trans (hb4.mono HB3.out.size)
    have k3 : w4.cell? ⟨w.heap.size, 3, none⟩ = some (.int .u8 ((f : Int) % 256)) := row_cell g1d 3 _ rfl
    have z3 : w4.frozen? ⟨w.heap.size, 3, none⟩ = false := row_frozen g1d 3
    have hu3 : (f2 % 256 : Int) = ((byteOf f2 1).toNat : Int) := by rw [byteOf_nat, Int.ediv_one]
    have hu2 : (f2 / 256 % 256 : Int) = (f : Int) / 256 := by
      have h1 := byteOf_nat f2 256
      have h2 := byteOf_nat (f : Int) 256
      rw [HBY2.out] at h1
      rw [← h1, h2, HE2.out]
    have henc2 := enc_bsN i f2
    rw [HE1.out, hu2, hu3] at henc2
    have hsl2 : SlC (w4.setCell ⟨w.heap.size, 3, none⟩ (.int .u8 ((byteOf f2 1).toNat : Int))) 1 (.slice ab (bsN (i : Int) f2).length cb) 12 (encB (bsN i f2)) := slc_set12 hsl.1 g1d rfl (fun _ => by rw [henc2]; rfl)
    have hrow2 := heap_set (i := 3) (v := .int .u8 ((byteOf f2 1).toNat : Int)) g1d
    have hlt2 := (Array.getElem?_eq_some_iff.1 hrow2).1
    have hsl3 : SlC (w4.setCell ⟨w.heap.size, 3, none⟩ (.int .u8 ((byteOf f2 1).toNat : Int))) 1 (.slice (some ⟨w.heap.size, 0, none⟩) 12 12) 12 (encB (bsN i f2)) := by
      refine ⟨rfl, _, _, rfl, Nat.le_refl _, by decide, fun h => (by cases h), .inr ⟨_, _, rfl, hlt2, fun j hj => ?_⟩⟩
      rw [henc2]
      rw [Nat.zero_add, cell_of_heap hrow2 j, ← Array.getElem?_toList]
      rfl
    have hcv1 := run_conv_string (v := .slice ab (bsN (i : Int) f2).length cb) (l := bsN i f2) hsl2
    have hcv2 := run_conv_string (v := .slice (some ⟨w.heap.size, 0, none⟩) 12 12) (l := bsN i f2) hsl3
    have hbs := hbb.setCell (p := ⟨w.heap.size, 3, none⟩) (Nat.le_refl _) (.int .u8 ((byteOf f2 1).toNat : Int))
    have G1d := Go.Lib.hid g1d
    have HBB := Go.Lib.hid hbs
    have HSL := Go.Lib.hid hsl
    have HU2 := Go.Lib.hid hu2
    have HU3 := Go.Lib.hid hu3
    have HENC2 := Go.Lib.hid henc2
    have HSL2 := Go.Lib.hid hsl2
    have HROW2 := Go.Lib.hid hrow2
    have HSL3 := Go.Lib.hid hsl3
    clear g1d hbs hsl hu2 hu3 henc2 hsl2 hrow2 hsl3
    clear hb4 hbb
    go_wp2_with fail
    refine (HAW.out _).mono ?_; rintro e wz ⟨rfl, hx⟩
    have HXX := Go.Lib.hid hx
    clear hx
    go_wp2_with fail
    go_ret
    exact ⟨rfl, HBB.out.trans (HXX.out.mono HBB.out.size)⟩
theorem walk (id fl : Int) (w : World) (_ : Fits id) (_ : Fits fl) :
    Calls Try.prog 6 #[.int .i64 id, .int .i64 fl] w fun e w' => e = .returned (.bool true) ∧ Below w.heap.size w w' := by
  have haw := Go.Lib.hid awake4_any
  by_cases hbad : id < 0 ∨ (¬ id < 0 ∧ 65535 < id) ∨ (¬ id < 0 ∧ ¬ 65535 < id ∧ fl < 0) ∨ (¬ id < 0 ∧ ¬ 65535 < id ∧ ¬ fl < 0 ∧ 65535 < fl)
  · exact t0 id fl w hbad haw
  · obtain ⟨i, rfl⟩ : ∃ i : Nat, id = i := ⟨id.toNat, by omega⟩
    obtain ⟨f, rfl⟩ : ∃ f : Nat, fl = f := ⟨fl.toNat, by omega⟩
    exact t1 i f w (by omega) (by omega) haw

set_option maxRecDepth 100000 in
theorem lifted (os : Os) (started : os.Started) (H : Type) (enc : TypeId × Value → H) :
    ReturnsInHanded {} Try.checked os 6 .any (Rows.messageHeadsSpec.pre6 enc Try.prog Try.f6 Rows.messageHeadsRow.domain false) (Rows.messageHeadsSpec.post enc Try.prog Try.f6 false true false false) := by
  refine returnsInHanded_of_change (C := Try.checked) own started (by kernel_rfl) Try.func6
    (ChangeSpec.witness6 (enc := enc) (C := Try.checked) false ⟨#[], #[.int .i64 0, .int .i64 0], []⟩ 8 (by kernel_rfl) (by kernel_rfl) (by kernel_rfl) (by kernel_rfl)) ?_
  intro W base args ds gs before hval0 hW hcnd _
  have hval : ∀ (j : Nat) t v, Try.f6.params[j]? = some t → args[j]? = some v → Value.okWide Try.prog W .any base t v := hval0
  refine law_post enc 2 (by kernel_rfl) rfl rfl (by kernel_rfl) (fun ds h => match ds, h with | [_, _], _ => rfl) hW ?_
  obtain ⟨p, q, hA0, hV, rfl, _, _⟩ := hW
  have hA : DataW.TrodAll enc Try.prog W 0 (fun _ => true) true Try.f6.params.toList args.toList ds p := hA0
  rw [Try.params6] at hA hval
  obtain ⟨v0, vs0, d0, ds0, p0, q0, hargs, rfl, rfl, h0, r0⟩ := trodAll_cons hA
  obtain ⟨v1, vs1, d1, ds1, p1, q1, rfl, rfl, rfl, h1, r1⟩ := trodAll_cons r0
  obtain ⟨rfl, rfl, rfl⟩ := trodAll_nil r1
  obtain rfl : args = #[v0, v1] := by cases args; simp_all
  obtain ⟨a0, rfl, rfl, rfl, w0⟩ := open_int Try.underlying3 (hval 0 3 v0 rfl rfl) h0
  obtain ⟨a1, rfl, rfl, rfl, w1⟩ := open_int Try.underlying3 (hval 1 3 v1 rfl rfl) h1
  exact walk a0 a1 W (fits_of_wf w0) (fits_of_wf w1)

theorem over : Rows.messageHeadsRow.holds Try.pinned (OpenSpec.ofChange Rows.messageHeadsSpec) :=
  OpenClaim.holds_of_wide 6 Try.f6 rfl rfl rfl rfl rfl rfl rfl ⟨rfl, rfl, rfl, rfl, rfl⟩ rfl rfl rfl rfl rfl (by kernel_rfl) Try.func6 (by kernel_rfl)
    (of_decide_eq_true (by kernel_rfl)) (by unfold Func.isWrapper; first | (rw [if_pos (by decide +kernel)]; kernel_rfl) | (rw [if_neg (by decide +kernel)]; exact ⟨rfl, rfl⟩))
    (fun os started H enc _ => lifted os started H enc)

/-- the statement -/
theorem proved : Rows.MessageHeadsSaid := over
#print axioms proved
end Go.Proofs.Ythfhmbooeemaaaa.messageHeads
