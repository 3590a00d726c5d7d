/- MessageBack: what was written is read as it was; cut off it is none, but its head; turned anywhere it ends, and what is read may be written. For every input; no conditions. -/
import Derived.Test.YthfhmbooeemaaaaG3
import Derived.Test.YthfhmbooeemaaaaG7
import Derived.Test.YthfhmbooeemaaaaG8
import Derived.Deep.OwnRows
import Derived.WalkSpells
namespace Go.Proofs.Ythfhmbooeemaaaa.messageBack
open Go.ChangeShapes Go.WideShapes Go.ChangeAt Go.RowKit
open Go.ChangeMaps (open_string shut_string)
set_option linter.unusedVariables false
set_option maxRecDepth 100000

theorem smallS {m : Msg} {top : Nat} (ht : top ≤ 100000) (h : smallB m top = true) (hf : MsgOk m) : MsgS m := by
  unfold smallB at h
  simp only [Bool.and_eq_true, decide_eq_true_eq] at h
  obtain ⟨⟨⟨⟨h1, _⟩, h3⟩, h4⟩, h5⟩ := h
  have a1 := (recordsB_true h3).1
  have a2 := (recordsB_true h4).1
  have a3 := (recordsB_true h5).1
  refine ⟨by omega, by omega, by omega, by omega, hf.qs, fun x hx => ?_⟩
  obtain ⟨s, r⟩ := x
  rcases mem_allR.1 ⟨s, hx⟩ with h | h | h
  · exact hf.an r h
  · exact hf.sv r h
  · exact hf.ad r h
theorem encN_cases (m : Msg) : (∃ e, encN m = ([], e) ∧ (e = 1 ∨ e = 3)) ∨ ∃ b, encN m = (b, 0) ∧ 12 ≤ b.length ∧ b.length ≤ 4096 := by
  cases h : encN m with
  | mk b e =>
    by_cases he : e = 0
    · subst he
      obtain ⟨h1, h2, h3⟩ := encN_ok h
      refine .inr ⟨b, rfl, ?_, h3⟩
      rw [h2]
      unfold bytesM
      simp only [List.length_append, hdrB_len]
      omega
    · left
      unfold encN outN at h
      split at h
      · split at h
        · simp only [Prod.mk.injEq] at h
          exact ⟨e, by rw [← h.1], .inr h.2.symm⟩
        · simp only [Prod.mk.injEq] at h
          exact absurd h.2.symm he
      · simp only [Prod.mk.injEq] at h
        exact ⟨e, by rw [← h.1], .inl h.2.symm⟩
theorem decN_err (zs : List UInt8) : (decN zs).2.2 = 0 ∨ (decN zs).2.2 = 2 := by
  unfold decN
  split
  · exact .inr rfl
  · split
    · exact .inr rfl
    · exact .inl rfl
theorem Byts.take {w : World} {a : Option Addr} {n cap k : Nat} {l : List UInt8} (h : Byts w (.slice a n cap) l) (hk : k ≤ l.length) : Byts w (.slice a k cap) (l.take k) := by
  obtain ⟨h1, a', cap', e, h2, h3, h4, h5⟩ := h
  simp only [Value.slice.injEq] at e
  obtain ⟨rfl, rfl, rfl⟩ := e
  have hl : (l.take k).length = k := by rw [List.length_take]; omega
  refine ⟨by simp, a, cap, by rw [hl], by omega, h3, h4, ?_⟩
  rw [hl]
  by_cases h0 : k = 0
  · exact .inl h0
  · rcases h5 with h5 | ⟨b, off, rfl, h6, h7⟩
    · omega
    · refine .inr ⟨b, off, rfl, h6, fun j hj => ?_⟩
      rw [h7 j (by omega)]
      simp only [List.getElem?_map, List.getElem?_take]
      rw [if_pos (by omega)]
set_option maxHeartbeats 4000000 in
/-- not looked at -/
theorem t0 (m : Msg) (q a s d : Value) (c1 c2 c3 : Int) (w : World) (hm : MsgL w m q a s d) (hsm : ∀ W, Below w.heap.size w W → Calls Try.prog 15 #[MV m q a s d, .int .i64 (3000 : Nat)] W fun e w' => e = .returned (.bool false) ∧ Below W.heap.size W w')
    (HAW : Hid (∀ W, Calls Try.prog 11 #[] W fun e w' => e = .returned (.bool true) ∧ Below W.heap.size W w')) :
    Calls Try.prog 4 #[MV m q a s d, .int .i64 c1, .int .i64 c2, .int .i64 c3] w fun e w' => e = .returned (.bool true) ∧ Below w.heap.size w w' := by
  have mixed : Try.prog.follows .mixedOrders = true := by kernel_rfl
  obtain ⟨aq, cq, rfl, _, _⟩ := hm.qs.slice
  obtain ⟨aa, ca, rfl, _, _⟩ := hm.an.slice
  obtain ⟨av, cs, rfl, _, _⟩ := hm.sv.slice
  obtain ⟨ad, cd, rfl, _, _⟩ := hm.ad.slice
  obtain ⟨X, hX⟩ : ∃ X, w.alloc (.cells (MC m (.slice aq m.qs.length cq) (.slice aa m.an.length ca) (.slice av m.sv.length cs) (.slice ad m.ad.length cd)) 27) = X := ⟨_, rfl⟩
  have hb : Below w.heap.size w X := by rw [← hX]; exact (Below.refl _ w).alloc (Nat.le_refl _) _
  have g1 : X.heap[w.heap.size]? = some (.cells (MC m (.slice aq m.qs.length cq) (.slice aa m.an.length ca) (.slice av m.sv.length cs) (.slice ad m.ad.length cd)) 27 (0, 0)) := by rw [← hX]; exact heap_alloc_new _ _
  have hc := hsm X hb
  obtain ⟨fs, hu⟩ := undMsg
  have HC := Go.Lib.hid hc
  have G1 := Go.Lib.hid g1
  have HB := Go.Lib.hid hb
  have HU := Go.Lib.hid hu
  clear hc g1 hb hu
  clear hm hsm
  simp only [MC] at hX
  go_enter Try.func4, Try.ntmps4
  go_wp2_with (refine wpList_load_row rfl 27 (.tmp 4) rfl w.heap.size rfl _ _ (0, 0) _ G1.out HU.out rfl infoMsg ?_)
  refine HC.out.mono ?_; rintro e w1 ⟨rfl, hx⟩
  have hb1 := HB.out.trans (hx.mono HB.out.size)
  have HB1 := Go.Lib.hid hb1
  clear hb1
  clear hx hX
  go_wp2_with fail
  refine (HAW.out _).mono ?_; rintro e wz ⟨rfl, hx⟩
  have HXX := Go.Lib.hid hx
  clear hx
  go_wp2_with fail
  go_ret
  exact ⟨rfl, HB1.out.trans (HXX.out.mono HB1.out.size)⟩
set_option maxHeartbeats 8000000 in
theorem t1 (m : Msg) (q a s d : Value) (c1 c2 c3 : Int) (w : World) (hm : MsgL w m q a s d) (hs : MsgS m) (hsm : ∀ W, Below w.heap.size w W → Calls Try.prog 15 #[MV m q a s d, .int .i64 (3000 : Nat)] W fun e w' => e = .returned (.bool true) ∧ Below W.heap.size W w')
    (HAW : Hid (∀ W, Calls Try.prog 11 #[] W fun e w' => e = .returned (.bool true) ∧ Below W.heap.size W w')) :
    Calls Try.prog 4 #[MV m q a s d, .int .i64 c1, .int .i64 c2, .int .i64 c3] w fun e w' => e = .returned (.bool true) ∧ Below w.heap.size w w' := by
  have mixed : Try.prog.follows .mixedOrders = true := by kernel_rfl
  obtain ⟨aq, cq, rfl, _, _⟩ := hm.qs.slice
  obtain ⟨aa, ca, rfl, _, _⟩ := hm.an.slice
  obtain ⟨av, cs, rfl, _, _⟩ := hm.sv.slice
  obtain ⟨ad, cd, rfl, _, _⟩ := hm.ad.slice
  obtain ⟨X, hX⟩ : ∃ X, w.alloc (.cells (MC m (.slice aq m.qs.length cq) (.slice aa m.an.length ca) (.slice av m.sv.length cs) (.slice ad m.ad.length cd)) 27) = X := ⟨_, rfl⟩
  have hb : Below w.heap.size w X := by rw [← hX]; exact (Below.refl _ w).alloc (Nat.le_refl _) _
  have g1 : X.heap[w.heap.size]? = some (.cells (MC m (.slice aq m.qs.length cq) (.slice aa m.an.length ca) (.slice av m.sv.length cs) (.slice ad m.ad.length cd)) 27 (0, 0)) := by rw [← hX]; exact heap_alloc_new _ _
  have hc := hsm X hb
  obtain ⟨fs, hu⟩ := undMsg
  have HC := Go.Lib.hid hc
  have G1 := Go.Lib.hid g1
  have HB := Go.Lib.hid hb
  have HU := Go.Lib.hid hu
  have HM := Go.Lib.hid hm
  have HS := Go.Lib.hid hs
  clear hc g1 hb hu hm hs
  clear hsm
  simp only [MC] at hX
  go_enter Try.func4, Try.ntmps4
  go_wp2_with (refine wpList_load_row rfl 27 (.tmp 4) rfl w.heap.size rfl _ _ (0, 0) _ G1.out HU.out rfl infoMsg ?_)
  refine HC.out.mono ?_; rintro e w1 ⟨rfl, hx⟩
  have hb1 := HB.out.trans (hx.mono HB.out.size)
  have g1b := (hx.block _ (Array.getElem?_eq_some_iff.1 G1.out).1).trans G1.out
  have henc := Encode_all m _ _ _ _ w1 (HM.out.below hb1 (Nat.le_refl _)) HS.out
  have HB1 := Go.Lib.hid hb1
  have G2 := Go.Lib.hid g1b
  have HENC := Go.Lib.hid henc
  clear hb1 g1b henc
  clear hx hX HC G1 HB
  go_wp2_with (refine wpList_load_row rfl 27 (.tmp 4) rfl w.heap.size rfl _ _ (0, 0) _ G2.out HU.out rfl infoMsg ?_)
  refine HENC.out.mono ?_; rintro e w2 ⟨ab, cb, rfl, hsl, hb2⟩
  have hb3 := HB1.out.trans (hb2.mono HB1.out.size)
  have g3 := (hb2.block _ (Array.getElem?_eq_some_iff.1 G2.out).1).trans G2.out
  rcases encN_cases m with ⟨e0, he, h13⟩ | ⟨b, he, hlo, hhi⟩
  · rw [he] at hsl ⊢
    have t1 : (e0 != 0) = true := by rcases h13 with rfl | rfl <;> rfl
    have t2 : ¬ e0 = 0 := by rcases h13 with rfl | rfl <;> decide
    have HB3 := Go.Lib.hid hb3
    clear hb3
    clear hb2 g3 hsl he HENC
    go_wp2_with fail
    refine (HAW.out _).mono ?_; rintro e wz ⟨rfl, hx⟩
    have HXX := Go.Lib.hid hx
    clear hx
    go_wp2_with fail
    go_ret
    exact ⟨rfl, HB3.out.trans (HXX.out.mono HB3.out.size)⟩
  · have hdec := dec_enc he
    have hcut := fun (k : Nat) (hk : k < b.length) => dec_cut hdec hk
    rw [he] at hsl ⊢
    simp only at hsl ⊢
    have hby : Byts w2 (.slice ab b.length cb) b := hsl.1
    have hdc := Decode_any ab cb b w2 hby (by omega)
    rw [hdec] at hdc
    have HB3 := Go.Lib.hid hb3
    have G3 := Go.Lib.hid g3
    have HBY := Go.Lib.hid hby
    have HDC := Go.Lib.hid hdc
    have HCUT := Go.Lib.hid hcut
    clear hb3 g3 hby hdc hcut
    clear hb2 hsl HENC he hdec
    go_wp2_with fail
    refine HDC.out.mono ?_; rintro e w3 ⟨q3, a3, s3, d3, rfl, ht3, hb3⟩
    obtain ⟨bq, eq, ba, ea, bv, es, bd, ed, rfl, rfl, rfl, rfl⟩ := msg_places ht3
    simp only at ht3 ⊢
    obtain ⟨X3, hX3⟩ : ∃ X3, w3.alloc (.cells (MC m (.slice bq m.qs.length eq) (.slice ba m.an.length ea) (.slice bv m.sv.length es) (.slice bd m.ad.length ed)) 27) = X3 := ⟨_, rfl⟩
    have g5 : X3.heap[w3.heap.size]? = some (.cells (MC m (.slice bq m.qs.length eq) (.slice ba m.an.length ea) (.slice bv m.sv.length es) (.slice bd m.ad.length ed)) 27 (0, 0)) := by rw [← hX3]; exact heap_alloc_new _ _
    have hbX : Below w3.heap.size w3 X3 := by rw [← hX3]; exact (Below.refl _ _).alloc (Nat.le_refl _) _
    have hb3X := hb3.trans (hbX.mono hb3.size)
    have hb4 := HB3.out.trans (hb3X.mono HB3.out.size)
    have g4 := (hb3X.block _ (Array.getElem?_eq_some_iff.1 G3.out).1).trans G3.out
    have hby3 := HBY.out.below hb3X (Nat.le_refl _)
    have hms := Message_same m _ _ _ _ _ _ _ _ X3 (ht3.below hbX).lies (HM.out.below hb4 (Nat.le_refl _))
    have t12 : ¬ (b.length : Int) < 12 := by omega
    have HB4 := Go.Lib.hid hb4
    have G4 := Go.Lib.hid g4
    have G5 := Go.Lib.hid g5
    have HBY3 := Go.Lib.hid hby3
    have HMS := Go.Lib.hid hms
    clear hb4 g4 g5 hby3 hms
    clear hb3 hbX hb3X ht3 HBY HDC G3 HB3
    simp only [MC] at hX3
    go_wp2_with (first | (refine wpList_load_rowG rfl 27 (.tmp 11) rfl w3.heap.size rfl _ _ (0, 0) _ G5.out HU.out rfl infoMsg ?_) | (refine wpList_load_rowG rfl 27 (.tmp 4) rfl w.heap.size rfl _ _ (0, 0) _ G4.out HU.out rfl infoMsg ?_))
    refine HMS.out.mono ?_; rintro e w4 ⟨rfl, hx4⟩
    have hb5 := HB4.out.trans (hx4.mono HB4.out.size)
    have hby4 := HBY3.out.below hx4 (Nat.le_refl _)
    have HB5 := Go.Lib.hid hb5
    have HBY4 := Go.Lib.hid hby4
    clear hb5 hby4
    clear hx4 hX3 HB4 G4 G5 HBY3 HMS
    have hrd := fun W => Round_any c1 (b.length : Int) W (by omega) (by omega)
    have HRD := Go.Lib.hid hrd
    clear hrd
    go_wp2_with fail
    refine (HRD.out _).mono ?_; rintro e _ ⟨rfl, rfl⟩
    obtain ⟨k, hk1, hk2⟩ : ∃ k : Nat, c1 % (b.length : Int) = (k : Int) ∧ k < b.length := ⟨(c1 % (b.length : Int)).toNat, by have := Int.emod_nonneg c1 (show (b.length : Int) ≠ 0 by omega); omega, by have := Int.emod_nonneg c1 (show (b.length : Int) ≠ 0 by omega); have := Int.emod_lt_of_pos c1 (show (0 : Int) < (b.length : Int) by omega); omega⟩
    rw [hk1]
    have hcapb : b.length ≤ cb := by
      obtain ⟨_, _, _, e, h2, _⟩ := HBY4.out
      cases e
      exact h2
    have hck := HCUT.out k hk2
    have hbk := Byts.take HBY4.out (Nat.le_of_lt hk2)
    have hdk := Decode_any ab cb (b.take k) w4 (by rw [take_len (Nat.le_of_lt hk2)]; exact hbk) (by rw [take_len (Nat.le_of_lt hk2)]; omega)
    rw [take_len (Nat.le_of_lt hk2)] at hdk
    obtain ⟨M2, hM2⟩ : ∃ M2, decN (b.take k) = (M2, decide (12 ≤ k), 2) := ⟨(decN (b.take k)).1, by rw [← hck]⟩
    rw [hM2] at hdk
    have t1 : (0 : Int) ≤ (k : Int) := by omega
    have t2 : (k : Int) ≤ (b.length : Int) := by omega
    have t3 : (k : Int) ≤ (cb : Int) := by omega
    have HDK := Go.Lib.hid hdk
    have HCK := Go.Lib.hid hck
    have HM2 := Go.Lib.hid hM2
    clear hdk hck hM2
    clear hk1 hbk HCUT HRD
    go_wp2_with fail
    refine HDK.out.mono ?_; rintro e w5 ⟨q5, a5, s5, d5, rfl, ht5, hb5⟩
    obtain ⟨kq, kqe, ka, kae, kv, kve, kd, kde, rfl, rfl, rfl, rfl⟩ := msg_places ht5
    simp only
    obtain ⟨X5, hX5⟩ : ∃ X5, w5.alloc (.cells (MC M2 (.slice kq M2.qs.length kqe) (.slice ka M2.an.length kae) (.slice kv M2.sv.length kve) (.slice kd M2.ad.length kde)) 27) = X5 := ⟨_, rfl⟩
    have hbX : Below w5.heap.size w5 X5 := by rw [← hX5]; exact (Below.refl _ _).alloc (Nat.le_refl _) _
    have hb5X := hb5.trans (hbX.mono hb5.size)
    have hb6 := HB5.out.trans (hb5X.mono HB5.out.size)
    have hby5 := (HBY4.out.below hb5X (Nat.le_refl _)).below ((Below.refl _ X5).alloc (Nat.le_refl _) (.cells #[] 5)) (Nat.le_refl _)
    have HB6 := Go.Lib.hid hb6
    have HBY5 := Go.Lib.hid hby5
    clear hb6 hby5
    clear hb5 hbX hb5X ht5 HBY4 HDK HB5 HM2
    simp only [MC] at hX5
    have hz0 : (0 : Nat) + b.length = b.length := Nat.zero_add _
    go_wp2_with (at_builtin; refine wpList_app byteEi (.tmp 75) (.tmp 76) rfl rfl X5.heap.size rfl rfl (owns_empty X5 X5.heap.size 5 1 (Nat.le_refl _)) HBY5.out ?a1 ?a2 ?a3 (by simp) ?a5)
    case a1 => exact one_byts b
    case a2 => unfold maxLen; omega
    case a3 => omega
    case a5 =>
    intro v6 w6 hown6 hg6
    have hb7 := below_app ((Below.refl _ X5).alloc (Nat.le_refl _) (.cells #[] 5)) (owns_empty X5 X5.heap.size 5 1 (Nat.le_refl _)) hg6 (Nat.le_refl _) (by simp)
    obtain ⟨nb, hnb⟩ : ∃ nb, b.length = nb + 1 := ⟨b.length - 1, by omega⟩
    obtain ⟨g, cap, rfl⟩ := ownsRow_succ (k := nb) (by rw [← hnb]; exact hown6)
    rw [← hnb] at hown6 ⊢
    have hb8 := HB6.out.trans (hb7.mono HB6.out.size)
    have hwg : w.heap.size ≤ g := Nat.le_trans HB6.out.size (hown6.lt g rfl).1
    have hrd := fun W => Round_any c2 (b.length : Int) W (by omega) (by omega)
    obtain ⟨i, hi1, hi2⟩ : ∃ i : Nat, c2 % (b.length : Int) = (i : Int) ∧ i < b.length := ⟨(c2 % (b.length : Int)).toNat, by have := Int.emod_nonneg c2 (show (b.length : Int) ≠ 0 by omega); omega, by have := Int.emod_nonneg c2 (show (b.length : Int) ≠ 0 by omega); have := Int.emod_lt_of_pos c2 (show (0 : Int) < (b.length : Int) by omega); omega⟩
    rw [hi1] at hrd
    have HO6 := Go.Lib.hid hown6
    have HB8 := Go.Lib.hid hb8
    have HRD2 := Go.Lib.hid hrd
    clear hown6 hb8 hrd
    clear hb7 hg6 HBY5 HB6 hX5 hz0 hnb hi1
    go_wp2_with fail
    refine (HRD2.out _).mono ?_; rintro e _ ⟨rfl, rfl⟩
    have x0 : w6.cell? ⟨g, i, none⟩ = some (.int .u8 ((b.getD i 0).toNat : Int)) := by
      have := HO6.out.cellAt i (by omega)
      rw [this]
      simp [hi2]
    have f0 := HO6.out.frozenAt i
    have hg8 : g < w6.heap.size := (HO6.out.lt g rfl).2
    have hrd3 := fun W => Round_any c3 255 W (by decide) (by decide)
    obtain ⟨r3, hr3, hr4⟩ : ∃ r : Nat, c3 % 255 = (r : Int) ∧ r < 255 := ⟨(c3 % 255).toNat, by omega, by omega⟩
    rw [hr3] at hrd3
    have hbn := (b.getD i 0).toNat_lt
    generalize hbi : (b.getD i 0).toNat = bi at *
    have c0 := BelowC.cell (W := w6) x0 hg8
    have hne : Nonempty (Subtype (Below w6.heap.size w6)) := ⟨⟨w6, Below.refl _ _⟩⟩
    have t1 : (0 : Int) ≤ (i : Int) := by omega
    have t2 : (i : Int) < (b.length : Int) := by omega
    have q1 : IntKind.u8.wrap ((r3 : Int)) = (r3 : Int) := by rw [IntKind.wrap_u8]; omega
    have HRD3 := Go.Lib.hid hrd3
    have HR3 := Go.Lib.hid hr3
    have HBI := Go.Lib.hid hbi
    clear hrd3 hr3 hbi
    clear HRD2
    go_wp2_with fail
    refine Go.Mix.wp_region_mixT (Es := [8]) 12 (Below w6.heap.size w6) mixed (by kernel_rfl) (Below.refl _ _).drew ?_
    iterate 8 (refine Go.Mix.mixT_step rfl (fun K hK => ?_); have HKK := Go.Lib.hid hK; clear hK; go_simp; refine HKK.out _ _ ?_; clear HKK K)
    refine Go.Mix.mixT_eff rfl (fun K hK => ?_)
    have HKK := Go.Lib.hid hK
    clear hK
    go_simp
    refine (HRD3.out _).mono ?_; rintro e _ ⟨rfl, rfl⟩
    go_simp
    refine HKK.out _ _ (Below.refl _ _).drew ?_
    clear HKK K
    iterate 3 (refine Go.Mix.mixT_step rfl (fun K hK => ?_); have HKK := Go.Lib.hid hK; clear hK; go_simp; refine HKK.out _ _ ?_; clear HKK K)
    have f1 : w6.drew.frozen? ⟨g, i, none⟩ = false := f0
    refine Go.Mix.mixT_last rfl (fun K hK => ?_)
    have HKK := Go.Lib.hid hK
    clear hK
    go_simp
    obtain ⟨V, hV⟩ : ∃ V, IntKind.u8.wrap (IntKind.u8.wrap ((bi : Int) + 1) + (r3 : Int)) = V := ⟨_, rfl⟩
    rw [hV]
    obtain ⟨x, hx⟩ : ∃ x : UInt8, (x.toNat : Int) = V := ⟨byteOf (IntKind.u8.wrap ((bi : Int) + 1) + (r3 : Int)) 1, by rw [byteOf_nat, ← hV, Int.ediv_one]; exact (IntKind.wrap_u8 _).symm⟩
    obtain ⟨hst, hgr⟩ := HO6.out.stored i (.int .u8 V)
    have hset : (List.map (fun n : UInt8 => Value.int .u8 (n.toNat : Int)) b).set i (.int .u8 V) = List.map (fun n : UInt8 => Value.int .u8 (n.toNat : Int)) (b.set i x) := by rw [List.map_set, hx]
    have hsetl : (b.set i x).length = b.length := List.length_set
    rw [hset] at hst
    have hby9 : Byts (w6.setCell ⟨g, i, none⟩ (.int .u8 V)).drew (.slice (some ⟨g, 0, none⟩) (b.set i x).length cap) (b.set i x) := by
      have := SlC.of_owns hst.drew
      unfold Byts
      rw [hsetl]
      exact this
    have hb9 : Below w.heap.size w (w6.setCell ⟨g, i, none⟩ (.int .u8 V)).drew := (HB8.out.setCell (p := ⟨g, i, none⟩) hwg _).drew
    have hdl := Decode_any (some ⟨g, 0, none⟩) cap (b.set i x) _ hby9 (by rw [hsetl]; omega)
    have herr := decN_err (b.set i x)
    have hmay := fun (m' : Msg) (h' : Bool) (e : decN (b.set i x) = (m', h', 0)) => dec_may e
    rw [hsetl] at hdl
    generalize hDD : decN (b.set i x) = DD at *
    obtain ⟨M4, h4, e4⟩ := DD
    simp only at herr
    have HDL := Go.Lib.hid hdl
    have HB9 := Go.Lib.hid hb9
    have HMAY := Go.Lib.hid hmay
    clear hdl hb9 hmay
    clear hst hgr hset hby9 hx hV hsetl hDD HO6 HB8 x0 f0 f1 c0
    refine HKK.out _ _ ?_
    clear HKK K
    generalize (w6.setCell ⟨g, i, none⟩ (.int .u8 V)).drew = w9 at *
    go_wp2_with fail
    refine HDL.out.mono ?_; rintro e w10 ⟨q10, a10, s10, d10, rfl, ht10, hb10⟩
    obtain ⟨zq, zqe, za, zae, zv, zve, zd, zde, rfl, rfl, rfl, rfl⟩ := msg_places ht10
    simp only at ht10 ⊢
    obtain ⟨Z, hZ⟩ : ∃ Z, w10.alloc (.cells (MC M4 (.slice zq M4.qs.length zqe) (.slice za M4.an.length zae) (.slice zv M4.sv.length zve) (.slice zd M4.ad.length zde)) 27) = Z := ⟨_, rfl⟩
    have hbZ : Below w10.heap.size w10 Z := by rw [← hZ]; exact (Below.refl _ _).alloc (Nat.le_refl _) _
    have gZ : Z.heap[w10.heap.size]? = some (.cells (MC M4 (.slice zq M4.qs.length zqe) (.slice za M4.an.length zae) (.slice zv M4.sv.length zve) (.slice zd M4.ad.length zde)) 27 (0, 0)) := by rw [← hZ]; exact heap_alloc_new _ _
    have hb10Z := hb10.trans (hbZ.mono hb10.size)
    have hbe := HB9.out.trans (hb10Z.mono HB9.out.size)
    have htz := ht10.below hbZ
    have hk12 : (decide (12 ≤ k) = true ∧ 12 ≤ (k : Int)) ∨ (decide (12 ≤ k) = false ∧ ¬ 12 ≤ (k : Int)) := by
      by_cases h : 12 ≤ k
      · exact .inl ⟨decide_eq_true h, by omega⟩
      · exact .inr ⟨decide_eq_false h, by omega⟩
    have HBE := Go.Lib.hid hbe
    have HTZ := Go.Lib.hid htz
    have GZ := Go.Lib.hid gZ
    clear hbe htz gZ
    clear hb10 hbZ hb10Z ht10 HDL HB9
    simp only [MC] at hZ
    generalize decide (12 ≤ k) = bk at *
    rcases herr with rfl | rfl
    · have hck := HMAY.out M4 h4 rfl
      have hcm := MCheck_any M4 _ _ _ _ Z HTZ.out.lies (may_S hck)
      rw [hck] at hcm
      have HCM := Go.Lib.hid hcm
      clear hcm
      clear hck
      rcases hk12 with ⟨rfl, k12⟩ | ⟨rfl, k12⟩
      all_goals
        go_wp2_with (refine wpList_load_rowG rfl 27 (.tmp 20) rfl w10.heap.size rfl _ _ (0, 0) _ GZ.out HU.out rfl infoMsg ?_)
        refine HCM.out.mono ?_; rintro e wy ⟨rfl, hy⟩
        have hby := HBE.out.trans (hy.mono HBE.out.size)
        have HBY9 := Go.Lib.hid hby
        clear hby
        clear hy
        go_wp2_with fail
        refine (HAW.out _).mono ?_; rintro e wz ⟨rfl, hx⟩
        have HXX := Go.Lib.hid hx
        clear hx
        go_wp2_with fail
        go_ret
        exact ⟨rfl, HBY9.out.trans (HXX.out.mono HBY9.out.size)⟩
    · rcases hk12 with ⟨rfl, k12⟩ | ⟨rfl, k12⟩
      · go_wp2_with fail
        refine (HAW.out _).mono ?_; rintro e wz ⟨rfl, hx⟩
        have HXX := Go.Lib.hid hx
        clear hx
        go_wp2_with fail
        go_ret
        exact ⟨rfl, HBE.out.trans (HXX.out.mono HBE.out.size)⟩
      · go_wp2_with fail
        refine (HAW.out _).mono ?_; rintro e wz ⟨rfl, hx⟩
        have HXX := Go.Lib.hid hx
        clear hx
        go_wp2_with fail
        go_ret
        exact ⟨rfl, HBE.out.trans (HXX.out.mono HBE.out.size)⟩
theorem walk (m : Msg) (q a s d : Value) (c1 c2 c3 : Int) (w : World) (hm : MsgL w m q a s d) (hmf : MsgFit m) (_ : Fits c1) (_ : Fits c2) (_ : Fits c3) :
    Calls Try.prog 4 #[MV m q a s d, .int .i64 c1, .int .i64 c2, .int .i64 c3] w fun e w' => e = .returned (.bool true) ∧ Below w.heap.size w w' := by
  have haw := Go.Lib.hid awake4_any
  cases hb : smallB m 3000 with
  | false => exact t0 m q a s d c1 c2 c3 w hm (fun W h => hb ▸ Small_any m _ _ _ _ 3000 W (hm.below h (Nat.le_refl _)) (by decide) hmf.ok) haw
  | true => exact t1 m q a s d c1 c2 c3 w hm (smallS (by decide) hb hmf.ok) (fun W h => hb ▸ Small_any m _ _ _ _ 3000 W (hm.below h (Nat.le_refl _)) (by decide) hmf.ok) haw

set_option maxRecDepth 100000 in
theorem lifted (os : Os) (started : os.Started) (H : Type) (enc : TypeId × Value → H) :
    ReturnsInHanded {} Try.checked os 4 .any (Rows.messageBackSpec.pre6 enc Try.prog Try.f4 Rows.messageBackRow.domain false) (Rows.messageBackSpec.post enc Try.prog Try.f4 false true false false) := by
  refine returnsInHanded_of_change (C := Try.checked) own started (by kernel_rfl) Try.func4
    (ChangeSpec.witness6 (enc := enc) (C := Try.checked) false ⟨#[], #[.agg #[.int .i64 0, .bool false, .int .i64 0, .bool false, .bool false, .bool false, .bool false, .int .i64 0, .slice none 0 0, .slice none 0 0, .slice none 0 0, .slice none 0 0, .bool false, .int .i64 0], .int .i64 0, .int .i64 0, .int .i64 0], []⟩ 8 (by kernel_rfl) (by kernel_rfl) (by kernel_rfl) (by kernel_rfl)) ?_
  intro W base args ds gs before hval0 hW hcnd _
  have hval : ∀ (j : Nat) t v, Try.f4.params[j]? = some t → args[j]? = some v → Value.okWide Try.prog W .any base t v := hval0
  refine law_post enc 4 (by kernel_rfl) rfl rfl (by kernel_rfl) (fun ds h => match ds, h with | [_, _, _, _], _ => rfl) hW ?_
  obtain ⟨p, q, hA0, hV, rfl, _, _⟩ := hW
  have hA : DataW.TrodAll enc Try.prog W 0 (fun _ => true) true Try.f4.params.toList args.toList ds p := hA0
  rw [Try.params4] at hA hval
  obtain ⟨v0, vs0, d0, ds0, p0, q0, hargs, rfl, rfl, h0, r0⟩ := trodAll_cons hA
  obtain ⟨v1, vs1, d1, ds1, p1, q1, rfl, rfl, rfl, h1, r1⟩ := trodAll_cons r0
  obtain ⟨v2, vs2, d2, ds2, p2, q2, rfl, rfl, rfl, h2, r2⟩ := trodAll_cons r1
  obtain ⟨v3, vs3, d3, ds3, p3, q3, rfl, rfl, rfl, h3, r3⟩ := trodAll_cons r2
  obtain ⟨rfl, rfl, rfl⟩ := trodAll_nil r3
  obtain rfl : args = #[v0, v1, v2, v3] := by cases args; simp_all
  obtain ⟨m0, a0, b0, c0, e0, rfl, l0, w0⟩ := open_Msg (hval 0 27 v0 rfl rfl) h0
  obtain ⟨a1, rfl, rfl, rfl, w1⟩ := open_int Try.underlying3 (hval 1 3 v1 rfl rfl) h1
  obtain ⟨a2, rfl, rfl, rfl, w2⟩ := open_int Try.underlying3 (hval 2 3 v2 rfl rfl) h2
  obtain ⟨a3, rfl, rfl, rfl, w3⟩ := open_int Try.underlying3 (hval 3 3 v3 rfl rfl) h3
  exact walk m0 a0 b0 c0 e0 a1 a2 a3 W l0 w0 (fits_of_wf w1) (fits_of_wf w2) (fits_of_wf w3)

theorem over : Rows.messageBackRow.holds Try.pinned (OpenSpec.ofChange Rows.messageBackSpec) :=
  OpenClaim.holds_of_wide 4 Try.f4 rfl rfl rfl rfl rfl rfl rfl ⟨rfl, rfl, rfl, rfl, rfl⟩ rfl rfl rfl rfl rfl (by kernel_rfl) Try.func4 (by kernel_rfl)
    (of_decide_eq_true (by kernel_rfl)) (by unfold Func.isWrapper; first | (rw [if_pos (by decide +kernel)]; kernel_rfl) | (rw [if_neg (by decide +kernel)]; exact ⟨rfl, rfl⟩))
    (fun os started H enc _ => lifted os started H enc)

/-- the statement -/
theorem proved : Rows.MessageBackSaid := over
#print axioms proved
end Go.Proofs.Ythfhmbooeemaaaa.messageBack
