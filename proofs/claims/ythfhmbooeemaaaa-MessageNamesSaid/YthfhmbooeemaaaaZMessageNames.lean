/- MessageNames: a name that a message has many times stands there once; data's names are squeezed where the document says, and whole where it says that. For every input; no conditions. -/
import Derived.Test.YthfhmbooeemaaaaG3
import Derived.Test.YthfhmbooeemaaaaG12
import Derived.Deep.OwnRows
import Derived.WalkSpells
namespace Go.Proofs.Ythfhmbooeemaaaa.messageNames
open Go.ChangeShapes Go.WideShapes Go.ChangeAt Go.RowKit
open Go.ChangeMaps (open_string shut_string)
set_option linter.unusedVariables false
set_option maxRecDepth 100000

set_option maxHeartbeats 4000000 in
theorem t0 (n : List UInt8) (t : Int) (w : World) (hn : n.length ≤ 9223372036854775807) (hbad : ¬ (n.length ≤ 100 ∧ Nm.valid n = true ∧ n ≠ [0] ∧ 0 ≤ t ∧ t ≤ 20)) (HAW : Hid (∀ W, Calls Try.prog 11 #[] W fun e w' => e = .returned (.bool true) ∧ Below W.heap.size W w')) :
    Calls Try.prog 9 #[.string (mk n), .int .i64 t] w fun e w' => e = .returned (.bool true) ∧ Below w.heap.size w w' := by
  have hsz : (mk n).size = n.length := size_mk n
  have hv := fun W => refValid_any (mk n) W
  rw [bl_mk] at hv
  by_cases h1 : n.length ≤ 100
  · have t1 : ¬ (100 : Int) < (n.length : Int) := by omega
    cases hval : Nm.valid n with
    | false =>
      rw [hval] at hv
      have HV := Go.Lib.hid hv
      have HVAL := Go.Lib.hid hval
      clear hv hval
      clear hbad
      go_enter Try.func9, Try.ntmps9
      go_wp2_with fail
      refine (HV.out _).mono ?_; rintro e w0 ⟨rfl, hw⟩
      have HW := Go.Lib.hid hw
      clear hw
      go_wp2_with fail
      refine (HAW.out _).mono ?_; rintro e w1 ⟨rfl, hx⟩
      have HX := Go.Lib.hid hx
      clear hx
      go_wp2_with fail
      go_ret
      exact ⟨rfl, HW.out.trans (HX.out.mono HW.out.size)⟩
    | true =>
      rw [hval] at hv
      by_cases h0 : n = [0]
      · have e1 : ((mk n).toList == [0]) = true := by rw [toList_bl, bl_mk, h0]; rfl
        have HV := Go.Lib.hid hv
        have HVAL := Go.Lib.hid hval
        have H0 := Go.Lib.hid h0
        clear hv hval h0
        clear hbad
        go_enter Try.func9, Try.ntmps9
        go_wp2_with fail
        refine (HV.out _).mono ?_; rintro e w0 ⟨rfl, hw⟩
        have HW := Go.Lib.hid hw
        clear hw
        go_wp2_with fail
        refine (HAW.out _).mono ?_; rintro e w1 ⟨rfl, hx⟩
        have HX := Go.Lib.hid hx
        clear hx
        go_wp2_with fail
        go_ret
        exact ⟨rfl, HW.out.trans (HX.out.mono HW.out.size)⟩
      · have e1 : ((mk n).toList == [0]) = false := by rw [toList_bl, bl_mk, beq_eq_false_iff_ne]; exact h0
        have hcs : t < 0 ∨ (¬ t < 0 ∧ 20 < t) := by
          by_cases h : t < 0
          · exact .inl h
          · exact .inr ⟨h, by
              by_cases h2 : t ≤ 20
              · exact absurd ⟨h1, hval, h0, by omega, h2⟩ hbad
              · omega⟩
        have HV := Go.Lib.hid hv
        have HVAL := Go.Lib.hid hval
        have H0 := Go.Lib.hid h0
        clear hv hval h0
        clear hbad
        rcases hcs with u1 | ⟨u1, u2⟩
        all_goals
          go_enter Try.func9, Try.ntmps9
          go_wp2_with fail
          refine (HV.out _).mono ?_; rintro e w0 ⟨rfl, hw⟩
          have HW := Go.Lib.hid hw
          clear hw
          go_wp2_with fail
          refine (HAW.out _).mono ?_; rintro e w1 ⟨rfl, hx⟩
          have HX := Go.Lib.hid hx
          clear hx
          go_wp2_with fail
          go_ret
          exact ⟨rfl, HW.out.trans (HX.out.mono HW.out.size)⟩
  · have t1 : (100 : Int) < (n.length : Int) := by omega
    clear hbad hv
    go_enter Try.func9, Try.ntmps9
    go_wp2_with fail
    refine (HAW.out _).mono ?_; rintro e w1 ⟨rfl, hx⟩
    have HX := Go.Lib.hid hx
    clear hx
    go_wp2_with fail
    go_ret
    exact ⟨rfl, HX.out⟩
set_option maxHeartbeats 8000000 in
theorem t1 (n : List UInt8) (t : Nat) (w : World) (hl : n.length ≤ 100) (hval : Nm.valid n = true) (hne : n ≠ [0]) (ht : t ≤ 20) (HAW : Hid (∀ W, Calls Try.prog 11 #[] W fun e w' => e = .returned (.bool true) ∧ Below W.heap.size W w')) :
    Calls Try.prog 9 #[.string (mk n), .int .i64 t] w fun e w' => e = .returned (.bool true) ∧ Below w.heap.size w w' := by
  have hsz : (mk n).size = n.length := size_mk n
  have hv := fun W => refValid_any (mk n) W
  rw [bl_mk, hval] at hv
  have u1 : ¬ (100 : Int) < (n.length : Int) := by omega
  have u2 : ¬ (t : Int) < 0 := by omega
  have u3 : ¬ (20 : Int) < (t : Int) := by omega
  have e1 : ((mk n).toList == [0]) = false := by rw [toList_bl, bl_mk, beq_eq_false_iff_ne]; exact hne
  have c1 : (⟨#[49, 50]⟩ : ByteArray) ++ mk n = mk ([49, 50] ++ n) := by apply bl_inj; rw [bl_append, bl_mk, bl_mk]; rfl
  have c2 : (⟨#[49, 50, 51, 52, 53, 54]⟩ : ByteArray) ++ mk n = mk ([49, 50, 51, 52, 53, 54] ++ n) := by apply bl_inj; rw [bl_append, bl_mk, bl_mk]; rfl
  have c3 : ¬ 9223372036854775807 < 2 + n.length := by omega
  have c4 : ¬ 9223372036854775807 < 6 + n.length := by omega
  have q1 : IntKind.i64.wrap (12 + (n.length : Int)) = 12 + (n.length : Int) := wrapi (by omega) (by omega)
  have q2 : IntKind.i64.wrap (12 + (n.length : Int) + 4) = 12 + (n.length : Int) + 4 := wrapi (by omega) (by omega)
  have HV := Go.Lib.hid hv
  have HVAL := Go.Lib.hid hval
  have HNE := Go.Lib.hid hne
  clear hv hval hne
  go_enter Try.func9, Try.ntmps9
  go_wp2_with fail
  refine (HV.out _).mono ?_; rintro e w0 ⟨rfl, hw⟩
  have HW := Go.Lib.hid hw
  clear hw
  have hhead : ∃ X1, w0.alloc (.cells #[.string (mk n), .int .i64 1, .int .i64 1] 47) = X1 := ⟨_, rfl⟩
  obtain ⟨X1, hX1⟩ := hhead
  have hq1 : SlT X1 47 3 (.slice (some ⟨w0.heap.size, 0, none⟩) 1 1) 1 (encQn [⟨n, 1, 1⟩]) := by rw [← hX1]; exact slt_new w0 3 1 47 (encQn [⟨n, 1, 1⟩]) rfl (by decide)
  have hb1 : Below w.heap.size w X1 := by rw [← hX1]; exact HW.out.alloc HW.out.size _
  obtain ⟨X2, hX2⟩ : ∃ X2, X1.alloc (.cells #[.int .i64 0, .bool false, .int .i64 0, .bool false, .bool false, .bool false, .bool false, .int .i64 0, .slice (some ⟨w0.heap.size, 0, none⟩) 1 1, .slice none 0 0, .slice none 0 0, .slice none 0 0, .bool false, .int .i64 0] 27) = X2 := ⟨_, rfl⟩
  have hf0 : NFill w X1.heap.size n (.slice (some ⟨w0.heap.size, 0, none⟩) 1 1) nilS 0 X2 := by
    rw [← hX2]
    exact ⟨heap_alloc_new _ _, hq1.below ((Below.refl _ _).alloc (Nat.le_refl _) _), World.ownsRow_nil _ _ _ _, hb1.alloc hb1.size _⟩
  have hwN : w.heap.size ≤ X1.heap.size := hb1.size
  have hXs : X1.heap.size + 1 ≤ X2.heap.size := by rw [← hX2]; simp
  obtain ⟨N, hN⟩ : ∃ N, X1.heap.size = N := ⟨_, rfl⟩
  rw [hN] at hf0 hwN hXs
  have HF0 := Go.Lib.hid hf0
  have HWN := Go.Lib.hid hwN
  have HXS := Go.Lib.hid hXs
  clear hf0 hwN hXs
  clear hq1 hb1
  subst hX2
  go_wp2_with fail
  go_loopw [6, 7] (fun s i wr => ∃ (k : Nat) (z : Int) (va : Value), s = .int .i64 z ∧ i = .int .i64 k ∧ z = ((12 + n.length + 4 + k * (46 + 2 * n.length) : Nat) : Int) ∧ k ≤ t ∧ NFill w N n (.slice (some ⟨w0.heap.size, 0, none⟩) 1 1) va k wr ∧ N + 1 ≤ wr.heap.size) (fun _ i _ => t - (intOf i).toNat)
  case atStart => exact ⟨0, _, _, rfl, rfl, by simp, Nat.zero_le _, HF0.out, HXS.out⟩
  case round =>
    obtain ⟨k, z, va, rfl, rfl, hz, hk, hf, hws⟩ := hrel
    obtain ⟨aa, ca, rfl, _, _⟩ := (SlC.of_owns hf.a).slice
    have hP : k * (46 + 2 * n.length) ≤ 20 * 246 := Nat.mul_le_mul (by omega) (by omega)
    by_cases hlt : k < t
    · have t1 : (k : Int) < (t : Int) := by omega
      have k1 : IntKind.i64.wrap ((k : Int) + 1) = (k : Int) + 1 := wrapi (by omega) (by omega)
      have s1 : IntKind.i64.wrap (z + 2) = z + 2 := wrapi (by omega) (by omega)
      have s2 : IntKind.i64.wrap (z + 2 + 10) = z + 2 + 10 := wrapi (by omega) (by omega)
      have s3 : IntKind.i64.wrap (z + 2 + 10 + 4) = z + 2 + 10 + 4 := wrapi (by omega) (by omega)
      have s4 : IntKind.i64.wrap (z + 2 + 10 + 4 + 2) = z + 2 + 10 + 4 + 2 := wrapi (by omega) (by omega)
      have s5 : IntKind.i64.wrap (z + 2 + 10 + 4 + 2 + 10) = z + 2 + 10 + 4 + 2 + 10 := wrapi (by omega) (by omega)
      have s6 : IntKind.i64.wrap (z + 2 + 10 + 4 + 2 + 10 + 6) = z + 2 + 10 + 4 + 2 + 10 + 6 := wrapi (by omega) (by omega)
      have s7 : IntKind.i64.wrap (z + 2 + 10 + 4 + 2 + 10 + 6 + (n.length : Int)) = z + 2 + 10 + 4 + 2 + 10 + 6 + (n.length : Int) := wrapi (by omega) (by omega)
      have s8 : IntKind.i64.wrap (z + 2 + 10 + 4 + 2 + 10 + 6 + (n.length : Int) + 2) = z + 2 + 10 + 4 + 2 + 10 + 6 + (n.length : Int) + 2 := wrapi (by omega) (by omega)
      have s9 : IntKind.i64.wrap (z + 2 + 10 + 4 + 2 + 10 + 6 + (n.length : Int) + 2 + 10) = z + 2 + 10 + 4 + 2 + 10 + 6 + (n.length : Int) + 2 + 10 := wrapi (by omega) (by omega)
      have s10 : IntKind.i64.wrap (z + 2 + 10 + 4 + 2 + 10 + 6 + (n.length : Int) + 2 + 10 + (n.length : Int)) = z + 2 + 10 + 4 + 2 + 10 + 6 + (n.length : Int) + 2 + 10 + (n.length : Int) := wrapi (by omega) (by omega)
      have hz2 : z + 2 + 10 + 4 + 2 + 10 + 6 + (n.length : Int) + 2 + 10 + (n.length : Int) = ((12 + n.length + 4 + (k + 1) * (46 + 2 * n.length) : Nat) : Int) := by rw [Nat.add_mul, Nat.one_mul]; omega
      have x9 : wr.cell? ⟨N, 9, none⟩ = some (.slice aa (3 * k) ca) := row_cell hf.row 9 _ rfl
      have hone : ∀ u ∈ encR (triN n), u.oneCell' = true := by
        intro u hu
        simp only [triN, rMX, rSRV, r99, encR, List.flatMap_cons, List.flatMap_nil, List.append_nil, List.cons_append, List.nil_append, List.mem_cons, List.not_mem_nil, or_false] at hu
        rcases hu with rfl | rfl | rfl | rfl | rfl | rfl | rfl | rfl | rfl | rfl | rfl | rfl | rfl | rfl | rfl <;> rfl
      have HF := Go.Lib.hid hf
      have HZ := Go.Lib.hid hz
      have HZ2 := Go.Lib.hid hz2
      have HONE := Go.Lib.hid hone
      have HP := Go.Lib.hid hP
      clear hf hz hz2 hone hP
      go_wp2_with (at_builtin; refine wpList_app eiRR (.tmp 48) (.tmp 60) rfl rfl (N + 1) rfl rfl (HF.out.a.alloc _) (show SlC _ 5 _ 3 (encR (triN n)) from slc_new wr 5 3 45 (encR (triN n)) rfl (by decide)) HONE.out ?a1 ?a2 ?a3 ?_)
      case a1 => unfold maxLen; omega
      case a2 => omega
      case a3 => simp; omega
      intro v1 W1 hown1 hg1
      obtain ⟨gv, cv, rfl⟩ := ownsRow_succ (k := 3 * k + 2) hown1
      have hf2 := HF.out.app HWN.out hg1 hown1
      have hrow := HF.out.row2 hg1
      have z9 := row_frozen hrow 9
      have z8 : W1.cell? ⟨N, 9, none⟩ = some (.slice aa (3 * k) ca) := row_cell hrow 9 _ rfl
      have hws2 : N + 1 ≤ (W1.setCell ⟨N, 9, none⟩ (.slice (some ⟨gv, 0, none⟩) (3 * k + 3) cv)).heap.size := by have := hg1.size; simp at this ⊢; omega
      have HF2 := Go.Lib.hid hf2
      have HROW := Go.Lib.hid hrow
      have HWS2 := Go.Lib.hid hws2
      clear hf2 hrow hws2
      clear hown1 hg1 HF x9
      go_wp2_with fail
      go_roundw
      case rel => exact ⟨k + 1, _, _, rfl, by go_num, HZ2.out, by omega, HF2.out, HWS2.out⟩
      case measure => simp [intOf]; omega
    · obtain rfl : k = t := by omega
      have t1 : ¬ (k : Int) < (k : Int) := by omega
      have hmsg := hf.msg
      have hchk := nM_check HVAL.out hl ht
      have henc := Encode_all _ _ _ _ _ wr hmsg (may_S hchk)
      have hnm := nM_enc HVAL.out hl HNE.out ht
      have hlen := nM_len (t := k) HVAL.out hl HNE.out
      rw [hnm] at henc
      obtain ⟨fs, hu⟩ := undMsg
      have m1 : IntKind.i64.wrap (3 * (k : Int)) = 3 * (k : Int) := wrapi (by omega) (by omega)
      have m2 : ¬ (64 : Int) < 3 * (k : Int) := by omega
      by_cases hbig : 4096 < 12 + n.length + 4 + k * (46 + 2 * n.length)
      · rw [if_pos hbig] at henc
        have b1 : (4096 : Int) < z := by omega
        have HF := Go.Lib.hid hf
        have HENC := Go.Lib.hid henc
        have HU := Go.Lib.hid hu
        have HZ := Go.Lib.hid hz
        clear hf henc hu hz
        clear hmsg hchk hnm hlen hbig hP
        go_wp2_with (refine wpList_load_rowG rfl 27 (.tmp 5) rfl N rfl _ _ (0, 0) _ HF.out.row HU.out rfl infoMsg ?_)
        refine HENC.out.mono ?_; rintro e w3 ⟨ab, cb, rfl, hsl, hb3⟩
        have hbw3 := HF.out.hb.trans (hb3.mono HF.out.hb.size)
        have HBW3 := Go.Lib.hid hbw3
        clear hbw3
        clear hsl hb3 HENC HF
        go_wp2_with fail
        refine (HAW.out _).mono ?_; rintro e wz ⟨rfl, hx⟩
        have HXX := Go.Lib.hid hx
        clear hx
        go_wp2_with fail
        go_ret
        exact ⟨rfl, HBW3.out.trans (HXX.out.mono HBW3.out.size)⟩
      · rw [if_neg hbig] at henc hnm
        have b1 : ¬ (4096 : Int) < z := by omega
        have hdec := dec_enc hnm
        generalize hBB : bytesM (nM n k) = B at *
        have hL : (B.length : Int) = z := by rw [hz, hlen]
        have hB : B.length ≤ 4096 := by omega
        have HF := Go.Lib.hid hf
        have HENC := Go.Lib.hid henc
        have HU := Go.Lib.hid hu
        have HZ := Go.Lib.hid hz
        have HMSG := Go.Lib.hid hmsg
        have HL := Go.Lib.hid hL
        have HDECN := Go.Lib.hid hdec
        clear hf henc hu hz hmsg hL hdec
        clear hchk hnm hlen hbig hP hBB
        go_wp2_with (refine wpList_load_rowG rfl 27 (.tmp 5) rfl N rfl _ _ (0, 0) _ HF.out.row HU.out rfl infoMsg ?_)
        refine HENC.out.mono ?_; rintro e w3 ⟨ab, cb, rfl, hsl, hb3⟩
        simp only at hsl ⊢
        have hby : Byts w3 (.slice ab B.length cb) B := hsl.1
        have hdc := Decode_any ab cb B w3 hby (by omega)
        rw [HDECN.out] at hdc
        have g3 := (hb3.block _ (Array.getElem?_eq_some_iff.1 HF.out.row).1).trans HF.out.row
        have hbw3 := HF.out.hb.trans (hb3.mono HF.out.hb.size)
        have hm3 := HMSG.out.below hb3 (Nat.le_refl _)
        have hlz : ((B.length : Int) == z) = true := by rw [HL.out]; simp
        have G3 := Go.Lib.hid g3
        have HBW3 := Go.Lib.hid hbw3
        have HM3 := Go.Lib.hid hm3
        have HDC := Go.Lib.hid hdc
        clear g3 hbw3 hm3 hdc
        clear hsl hb3 hby HENC HMSG HF
        generalize hM : nM n k = M at *
        generalize B.length = LB at *
        go_wp2_with fail
        refine HDC.out.mono ?_; rintro e w4 ⟨q4, a4, s4, d4, rfl, ht4, hb4⟩
        obtain ⟨bq, eq, ba, ea, bv, es, bd, ed', rfl, rfl, rfl, rfl⟩ := msg_places ht4
        simp only at ht4 ⊢
        obtain ⟨Y, hY⟩ : ∃ Y, w4.alloc (.cells (MC M (.slice bq M.qs.length eq) (.slice ba M.an.length ea) (.slice bv M.sv.length es) (.slice bd M.ad.length ed')) 27) = Y := ⟨_, rfl⟩
        have gY : Y.heap[w4.heap.size]? = some (.cells (MC M (.slice bq M.qs.length eq) (.slice ba M.an.length ea) (.slice bv M.sv.length es) (.slice bd M.ad.length ed')) 27 (0, 0)) := by rw [← hY]; exact heap_alloc_new _ _
        have hbY : Below w4.heap.size w4 Y := by rw [← hY]; exact (Below.refl _ _).alloc (Nat.le_refl _) _
        have hb3Y := hb4.trans (hbY.mono hb4.size)
        have g3Y := (hb3Y.block _ (Array.getElem?_eq_some_iff.1 G3.out).1).trans G3.out
        have hbe := HBW3.out.trans (hb3Y.mono HBW3.out.size)
        have hms := Message_same M _ _ _ _ _ _ _ _ Y (ht4.below hbY).lies (HM3.out.below hb3Y (Nat.le_refl _))
        have GY := Go.Lib.hid gY
        have G3Y := Go.Lib.hid g3Y
        have HBE := Go.Lib.hid hbe
        have HMS := Go.Lib.hid hms
        clear gY g3Y hbe hms
        clear hb4 hbY hb3Y ht4 G3 HBW3 HM3 HDC
        simp only [MC] at hY
        go_wp2_with (first | (refine wpList_load_rowG rfl 27 (.tmp 10) rfl w4.heap.size rfl _ _ (0, 0) _ GY.out HU.out rfl infoMsg ?_) | (refine wpList_load_rowG rfl 27 (.tmp 5) rfl N rfl _ _ (0, 0) _ G3Y.out HU.out rfl infoMsg ?_))
        refine HMS.out.mono ?_; rintro e w5 ⟨rfl, hx5⟩
        have hb5 := HBE.out.trans (hx5.mono HBE.out.size)
        have HB5 := Go.Lib.hid hb5
        clear hb5
        clear hx5 hY
        go_wp2_with fail
        refine (HAW.out _).mono ?_; rintro e wz ⟨rfl, hx⟩
        have HXX := Go.Lib.hid hx
        clear hx
        go_wp2_with fail
        go_ret
        exact ⟨rfl, HB5.out.trans (HXX.out.mono HB5.out.size)⟩
theorem walk (s : ByteArray) (t : Int) (w : World) (hs : s.size ≤ maxLen) (_ : Fits t) :
    Calls Try.prog 9 #[.string s, .int .i64 t] w fun e w' => e = .returned (.bool true) ∧ Below w.heap.size w w' := by
  have haw := Go.Lib.hid awake4_any
  obtain ⟨n, rfl⟩ : ∃ n, s = mk n := ⟨bl s, (mk_bl s).symm⟩
  rw [size_mk] at hs
  unfold maxLen at hs
  by_cases hok : n.length ≤ 100 ∧ Nm.valid n = true ∧ n ≠ [0] ∧ 0 ≤ t ∧ t ≤ 20
  · obtain ⟨h1, h2, h3, h4, h5⟩ := hok
    obtain ⟨i, rfl⟩ : ∃ i : Nat, t = i := ⟨t.toNat, by omega⟩
    exact t1 n i w h1 h2 h3 (by omega) haw
  · exact t0 n t w hs hok haw

set_option maxRecDepth 100000 in
theorem lifted (os : Os) (started : os.Started) (H : Type) (enc : TypeId × Value → H) :
    ReturnsInHanded {} Try.checked os 9 .any (Rows.messageNamesSpec.pre6 enc Try.prog Try.f9 Rows.messageNamesRow.domain false) (Rows.messageNamesSpec.post enc Try.prog Try.f9 false true false false) := by
  refine returnsInHanded_of_change (C := Try.checked) own started (by kernel_rfl) Try.func9
    (ChangeSpec.witness6 (enc := enc) (C := Try.checked) false ⟨#[], #[.string ⟨#[]⟩, .int .i64 0], []⟩ 8 (by kernel_rfl) (by kernel_rfl) (by kernel_rfl) (by kernel_rfl)) ?_
  intro W base args ds gs before hval0 hW hcnd _
  have hval : ∀ (j : Nat) t v, Try.f9.params[j]? = some t → args[j]? = some v → Value.okWide Try.prog W .any base t v := hval0
  refine law_post enc 2 (by kernel_rfl) rfl rfl (by kernel_rfl) (fun ds h => match ds, h with | [_, _], _ => rfl) hW ?_
  obtain ⟨p, q, hA0, hV, rfl, _, _⟩ := hW
  have hA : DataW.TrodAll enc Try.prog W 0 (fun _ => true) true Try.f9.params.toList args.toList ds p := hA0
  rw [Try.params9] at hA hval
  obtain ⟨v0, vs0, d0, ds0, p0, q0, hargs, rfl, rfl, h0, r0⟩ := trodAll_cons hA
  obtain ⟨v1, vs1, d1, ds1, p1, q1, rfl, rfl, rfl, h1, r1⟩ := trodAll_cons r0
  obtain ⟨rfl, rfl, rfl⟩ := trodAll_nil r1
  obtain rfl : args = #[v0, v1] := by cases args; simp_all
  obtain ⟨s0, rfl, rfl, rfl, w0⟩ := open_string Try.underlying9 (hval 0 9 v0 rfl rfl) h0
  obtain ⟨a1, rfl, rfl, rfl, w1⟩ := open_int Try.underlying3 (hval 1 3 v1 rfl rfl) h1
  exact walk s0 a1 W w0 (fits_of_wf w1)

theorem over : Rows.messageNamesRow.holds Try.pinned (OpenSpec.ofChange Rows.messageNamesSpec) :=
  OpenClaim.holds_of_wide 9 Try.f9 rfl rfl rfl rfl rfl rfl rfl ⟨rfl, rfl, rfl, rfl, rfl⟩ rfl rfl rfl rfl rfl (by kernel_rfl) Try.func9 (by kernel_rfl)
    (of_decide_eq_true (by kernel_rfl)) (by unfold Func.isWrapper; first | (rw [if_pos (by decide +kernel)]; kernel_rfl) | (rw [if_neg (by decide +kernel)]; exact ⟨rfl, rfl⟩))
    (fun os started H enc _ => lifted os started H enc)

/-- the statement -/
theorem proved : Rows.MessageNamesSaid := over
#print axioms proved
end Go.Proofs.Ythfhmbooeemaaaa.messageNames
