/- MessageDecodes: of any bytes the message, its head alone, or nothing, is as the document says. For every input; no conditions. -/
import Derived.Test.YthfhmbooeemaaaaG8
import Derived.Test.YthfhmbooeemaaaaG14
import Derived.Test.YthfhmbooeemaaaaG15
import Derived.Deep.OwnRows
import Derived.WalkSpells
namespace Go.Proofs.Ythfhmbooeemaaaa.messageDecodes
open Go.ChangeShapes Go.WideShapes Go.ChangeAt Go.RowKit
open Go.ChangeMaps (open_string shut_string)
set_option linter.unusedVariables false
set_option maxRecDepth 100000

theorem refDecode_any (sa : Option Addr) (cap : Nat) (zs : List UInt8) (w : World) (hz : Byts w (.slice sa zs.length cap) zs) (hl : zs.length ≤ 1099511627776) :
    Calls Try.prog 13 #[.slice sa zs.length cap] w (RefEnd w (refDec zs)) := by
  by_cases hn : zs.length < 12
  · exact refDecode_short sa cap zs w hn
  · have hn := Nat.le_of_not_lt hn
    by_cases hf : 4096 < zs.length ∨ (bits .and .i64 (n2 zs 2) 112 != 0) = true
    · exact refDecode_flags sa cap zs w hz hn hl hf
    · by_cases h4 : 4 < n2 zs 4
      · exact refDecode_many sa cap zs w hz hn hl hf h4
      · cases hr : runQ zs (n2 zs 4) ([], 12) with
        | none => exact refDecode_noq sa cap zs w hz hn hl hf h4 hr
        | some s => exact refDecode_rest sa cap zs w hz hn hl hf h4 s.1 s.2 hr
set_option maxHeartbeats 4000000 in
theorem t0 (sa : Option Addr) (n cap : Nat) (w : World) (hbad : 5000 < n) (HAW : Hid (∀ W, Calls Try.prog 11 #[] W fun e w' => e = .returned (.bool true) ∧ Below W.heap.size W w')) :
    Calls Try.prog 3 #[.slice sa n cap] w fun e w' => e = .returned (.bool true) ∧ Below w.heap.size w w' := by
  have e1 : (5000 : Int) < n := by omega
  clear hbad
  go_enter Try.func3, Try.ntmps3
  go_wp2_with fail
  refine (HAW.out _).mono ?_; rintro e w1 ⟨rfl, hx⟩
  have HX := Go.Lib.hid hx
  clear hx
  go_wp2_with fail
  go_ret
  exact ⟨rfl, HX.out⟩
set_option maxHeartbeats 8000000 in
theorem t1 (sa : Option Addr) (cap : Nat) (zs : List UInt8) (w : World) (hz : Byts w (.slice sa zs.length cap) zs) (hl : zs.length ≤ 5000) (HAW : Hid (∀ W, Calls Try.prog 11 #[] W fun e w' => e = .returned (.bool true) ∧ Below W.heap.size W w')) :
    Calls Try.prog 3 #[.slice sa zs.length cap] w fun e w' => e = .returned (.bool true) ∧ Below w.heap.size w w' := by
  have t1 : ¬ (5000 : Int) < zs.length := by omega
  have hdec := Decode_any sa cap zs w hz (by omega)
  have href := fun (W : World) (h : Below w.heap.size w W) => refDecode_any sa cap zs W (hz.below h (Nat.le_refl _)) (by omega)
  have hcs : (decN zs).2.2 = 0 ∨ (decN zs).2.2 = 2 := by
    unfold decN
    split
    · exact .inr rfl
    · split
      · exact .inr rfl
      · exact .inl rfl
  simp only [ref_dec] at href
  generalize decN zs = D at *
  obtain ⟨m, hd, er⟩ := D
  simp only at hcs href
  obtain ⟨fs, hu⟩ := undMsg
  have HDEC := Go.Lib.hid hdec
  have HREF := Go.Lib.hid href
  have HU := Go.Lib.hid hu
  clear hdec href hu
  clear hz hl
  generalize zs.length = N at *
  go_enter Try.func3, Try.ntmps3
  go_wp2_with fail
  refine HDEC.out.mono ?_; rintro e w2 ⟨q2, a2, s2, d2, rfl, ht2, hb2⟩
  obtain ⟨bq, eq, ba, ea, bv, es, bd, ed, rfl, rfl, rfl, rfl⟩ := msg_places ht2
  obtain ⟨X2, hX2⟩ : ∃ X2, w2.alloc (.cells (MC m (.slice bq m.qs.length eq) (.slice ba m.an.length ea) (.slice bv m.sv.length es) (.slice bd m.ad.length ed)) 27) = X2 := ⟨_, rfl⟩
  have b2 : Below w2.heap.size w2 X2 := by rw [← hX2]; exact (Below.refl _ _).alloc (Nat.le_refl _) _
  have g2 : X2.heap[w2.heap.size]? = some (.cells (MC m (.slice bq m.qs.length eq) (.slice ba m.an.length ea) (.slice bv m.sv.length es) (.slice bd m.ad.length ed)) 27 (0, 0)) := by rw [← hX2]; exact heap_alloc_new _ _
  have hl2 := (ht2.below b2).lies
  have hwX := hb2.trans (b2.mono hb2.size)
  have hrf := HREF.out X2 hwX
  have G2 := Go.Lib.hid g2
  have HL2 := Go.Lib.hid hl2
  have HWX := Go.Lib.hid hwX
  have HRF := Go.Lib.hid hrf
  clear g2 hl2 hwX hrf
  clear ht2 hb2 b2 HDEC HREF
  simp only [MC] at hX2
  subst hX2
  go_wp2_with fail
  refine HRF.out.mono ?_; rintro e w3 ⟨q3, a3, s3, d3, rfl, ht3, hb3⟩
  obtain ⟨bq3, eq3, rfl, _, _⟩ := ht3.qs.slice
  obtain ⟨ba3, ea3, rfl, _, _⟩ := ht3.an.slice
  obtain ⟨bv3, es3, rfl, _, _⟩ := ht3.sv.slice
  obtain ⟨bd3, ed3, rfl, _, _⟩ := ht3.ad.slice
  simp only at ht3 ⊢
  obtain ⟨X3, hX3⟩ : ∃ X3, w3.alloc (.cells (MC m (.slice bq3 m.qs.length eq3) (.slice ba3 m.an.length ea3) (.slice bv3 m.sv.length es3) (.slice bd3 m.ad.length ed3)) 27) = X3 := ⟨_, rfl⟩
  have b3 : Below w3.heap.size w3 X3 := by rw [← hX3]; exact (Below.refl _ _).alloc (Nat.le_refl _) _
  have g3 : X3.heap[w3.heap.size]? = some (.cells (MC m (.slice bq3 m.qs.length eq3) (.slice ba3 m.an.length ea3) (.slice bv3 m.sv.length es3) (.slice bd3 m.ad.length ed3)) 27 (0, 0)) := by rw [← hX3]; exact heap_alloc_new _ _
  have b33 := hb3.trans (b3.mono hb3.size)
  have g2' := (b33.block _ (Array.getElem?_eq_some_iff.1 G2.out).1).trans G2.out
  have hsm := Message_same m _ _ _ _ _ _ _ _ X3 (HL2.out.below b33 (Nat.le_refl _)) (ht3.below b3 (Nat.le_refl _))
  have hbX := HWX.out.trans (b33.mono HWX.out.size)
  have G2b := Go.Lib.hid g2'
  have G3 := Go.Lib.hid g3
  have HSM := Go.Lib.hid hsm
  have HBX := Go.Lib.hid hbX
  clear g2' g3 hsm hbX
  clear hb3 b3 b33 ht3 HWX G2 HL2 HRF
  simp only [MC] at hX3
  subst hX3
  rcases hcs with rfl | rfl
  all_goals
    go_wp2_with (first | (refine wpList_load_rowG rfl 27 (.tmp 3) rfl w2.heap.size rfl _ _ (0, 0) _ G2b.out HU.out rfl infoMsg ?_) | (refine wpList_load_rowG rfl 27 (.tmp 6) rfl w3.heap.size rfl _ _ (0, 0) _ G3.out HU.out rfl infoMsg ?_))
    refine HSM.out.mono ?_; rintro e w4 ⟨rfl, hx4⟩
    have hb4 := HBX.out.trans (hx4.mono HBX.out.size)
    have HB4 := Go.Lib.hid hb4
    clear hb4
    clear hx4
    go_wp2_with fail
    refine (HAW.out _).mono ?_; rintro e wz ⟨rfl, hx⟩
    have HXX := Go.Lib.hid hx
    clear hx
    go_wp2_with fail
    go_ret
    exact ⟨rfl, HB4.out.trans (HXX.out.mono HB4.out.size)⟩
theorem walk (a : Option Addr) (zs : List UInt8) (c : Nat) (w : World) (hz : Byts w (.slice a zs.length c) zs) :
    Calls Try.prog 3 #[.slice a zs.length c] w fun e w' => e = .returned (.bool true) ∧ Below w.heap.size w w' := by
  by_cases h : 5000 < zs.length
  · exact t0 a zs.length c w h (Go.Lib.hid awake4_any)
  · exact t1 a c zs w hz (by omega) (Go.Lib.hid awake4_any)

set_option maxRecDepth 100000 in
theorem lifted (os : Os) (started : os.Started) (H : Type) (enc : TypeId × Value → H) :
    ReturnsInHanded {} Try.checked os 3 .any (Rows.messageDecodesSpec.pre6 enc Try.prog Try.f3 Rows.messageDecodesRow.domain false) (Rows.messageDecodesSpec.post enc Try.prog Try.f3 false true false false) := by
  refine returnsInHanded_of_change (C := Try.checked) own started (by kernel_rfl) Try.func3
    (ChangeSpec.witness6 (enc := enc) (C := Try.checked) false ⟨#[], #[.slice none 0 0], []⟩ 8 (by kernel_rfl) (by kernel_rfl) (by kernel_rfl) (by kernel_rfl)) ?_
  intro W base args ds gs before hval0 hW hcnd _
  have hval : ∀ (j : Nat) t v, Try.f3.params[j]? = some t → args[j]? = some v → Value.okWide Try.prog W .any base t v := hval0
  refine law_post enc 1 (by kernel_rfl) rfl rfl (by kernel_rfl) (fun ds h => match ds, h with | [_], _ => rfl) hW ?_
  obtain ⟨p, q, hA0, hV, rfl, _, _⟩ := hW
  have hA : DataW.TrodAll enc Try.prog W 0 (fun _ => true) true Try.f3.params.toList args.toList ds p := hA0
  rw [Try.params3] at hA hval
  obtain ⟨v0, vs0, d0, ds0, p0, q0, hargs, rfl, rfl, h0, r0⟩ := trodAll_cons hA
  obtain ⟨rfl, rfl, rfl⟩ := trodAll_nil r0
  obtain rfl : args = #[v0] := by cases args; simp_all
  obtain ⟨a0, z0, c0, rfl, w0⟩ := open_Byts Try.underlying22 Try.underlying5 (by kernel_rfl) (hval 0 22 v0 rfl rfl) h0
  exact walk a0 z0 c0 W w0

theorem over : Rows.messageDecodesRow.holds Try.pinned (OpenSpec.ofChange Rows.messageDecodesSpec) :=
  OpenClaim.holds_of_wide 3 Try.f3 rfl rfl rfl rfl rfl rfl rfl ⟨rfl, rfl, rfl, rfl, rfl⟩ rfl rfl rfl rfl rfl (by kernel_rfl) Try.func3 (by kernel_rfl)
    (of_decide_eq_true (by kernel_rfl)) (by unfold Func.isWrapper; first | (rw [if_pos (by decide +kernel)]; kernel_rfl) | (rw [if_neg (by decide +kernel)]; exact ⟨rfl, rfl⟩))
    (fun os started H enc _ => lifted os started H enc)

/-- the statement -/
theorem proved : Rows.MessageDecodesSaid := over
#print axioms proved
end Go.Proofs.Ythfhmbooeemaaaa.messageDecodes
