/- MatchOrder: sets come in the order their keys are met first, and each one's records in theirs, duplicates dropped. For every input; no conditions. -/
import Derived.Test.YtcamopppeanipaaMgF
import Derived.Test.YtcamopppeanipaaRpC
import Derived.Test.YtcamopppeanipaaOpnM
import Derived.Test.YtcamopppeanipaaMgI
import Derived.WalkSpells
namespace Go.Proofs.Ytcamopppeanipaa.matchOrder
open Go.ChangeShapes Go.WideShapes Go.ChangeAt Go.RowKit
open Go.ChangeMaps (open_string shut_string)
set_option linter.unusedVariables false

theorem less_one {x y : Nat} (h : x < y) (hy : y < 256) : Op.bytesLess (mk [UInt8.ofNat x]).toList (mk [UInt8.ofNat y]).toList = true := by
  have e : ∀ a : UInt8, (mk [a]).toList = [a] := fun a => by rw [toList_bl]; exact bl_mk _
  rw [e, e]
  have hlt : UInt8.ofNat x < UInt8.ofNat y := by
    rw [UInt8.lt_iff_toNat_lt, UInt8.toNat_ofNat', UInt8.toNat_ofNat']
    omega
  simp [Op.bytesLess, hlt]

set_option maxRecDepth 100000 in
set_option maxHeartbeats 16000000 in
theorem t1 (na ta : Option Addr) (nc tc n m : Nat) (w : World) (hbad : 20 < n ∨ (n ≤ 20 ∧ m < n) ∨ (n ≤ 20 ∧ n ≤ m ∧ 40 < m))
    (HAW : Hid (∀ W, Calls Try.prog 10 #[] W fun e w' => e = .returned (.bool true) ∧ Below W.heap.size W w')) :
    Calls Try.prog 7 #[.slice na n nc, .slice ta m tc] w fun e w' => e = .returned (.bool true) ∧ Below w.heap.size w w' := by
  have HB := Go.Lib.hid (Below.refl w.heap.size w)
  rcases hbad with h1 | ⟨h1, h2⟩ | ⟨h1, h2, h3⟩
  · have e1 : (20 : Int) < n := by omega
    clear h1
    go_enter Try.func7, Try.ntmps7
    go_wp2_with fail
    refine (HAW.out _).mono ?_; rintro e wb1 ⟨rfl, hx⟩
    have hb := HB.out.trans (hx.mono HB.out.size)
    clear HB
    have HB := Go.Lib.hid hb
    clear hx hb
    go_wp2_with fail
    go_ret
    exact ⟨rfl, HB.out⟩
  · have e1 : ¬ (20 : Int) < n := by omega
    have e2 : (m : Int) < n := by omega
    clear h1 h2
    go_enter Try.func7, Try.ntmps7
    go_wp2_with fail
    refine (HAW.out _).mono ?_; rintro e wb2 ⟨rfl, hx⟩
    have hb := HB.out.trans (hx.mono HB.out.size)
    clear HB
    have HB := Go.Lib.hid hb
    clear hx hb
    go_wp2_with fail
    go_ret
    exact ⟨rfl, HB.out⟩
  · have e1 : ¬ (20 : Int) < n := by omega
    have e2 : ¬ (m : Int) < n := by omega
    have e3 : (40 : Int) < m := by omega
    clear h1 h2 h3
    go_enter Try.func7, Try.ntmps7
    go_wp2_with fail
    refine (HAW.out _).mono ?_; rintro e wb3 ⟨rfl, hx⟩
    have hb := HB.out.trans (hx.mono HB.out.size)
    clear HB
    have HB := Go.Lib.hid hb
    clear hx hb
    go_wp2_with fail
    go_ret
    exact ⟨rfl, HB.out⟩

set_option maxRecDepth 100000 in
set_option maxHeartbeats 32000000 in
theorem t2 (na ta : Option Addr) (nc tc n m : Nat) (ns ts : List Int) (w : World) (hns : Ints w (.slice na n nc) ns) (hnl : ns.length = n) (hts : Ints w (.slice ta m tc) ts) (htl : ts.length = m) (h1 : n ≤ 20) (h2 : n ≤ m) (h3 : m ≤ 40)
    (HAW : Hid (∀ W, Calls Try.prog 10 #[] W fun e w' => e = .returned (.bool true) ∧ Below W.heap.size W w'))
    (HR4 : Hid (∀ W (q : Int), Calls Try.prog 25 #[.int .i64 q, .int .i64 4] W fun e w' => e = .returned (.int .i64 (q % 4)) ∧ W = w'))
    (HR2 : Hid (∀ W (q : Int), Calls Try.prog 25 #[.int .i64 q, .int .i64 2] W fun e w' => e = .returned (.int .i64 (q % 2)) ∧ W = w'))
    (HGR : Hid (∀ W a c, RRs W (.slice a n c) (oL ns ts n) → Calls Try.prog 21 #[.slice a n c, .int .i64 (-1)] W fun e w' => ∃ v, e = .returned v ∧ GrpV w' v (groupsN (oL ns ts n)) ∧ Below W.heap.size W w')) :
    Calls Try.prog 7 #[.slice na n nc, .slice ta m tc] w fun e w' => e = .returned (.bool true) ∧ Below w.heap.size w w' := by
  have HB := Go.Lib.hid (Below.refl w.heap.size w)
  have HNS := Go.Lib.hid hns
  have HNL := Go.Lib.hid hnl
  have HTS := Go.Lib.hid hts
  have HTL := Go.Lib.hid htl
  clear hns hnl hts htl
  have e1 : ¬ (20 : Int) < n := by omega
  have e2 : ¬ (m : Int) < n := by omega
  have e3 : ¬ (40 : Int) < m := by omega
  go_enter Try.func7, Try.ntmps7
  go_wp2_with fail
  clear e1 e2 e3
  go_loopw [5, 6, 7, 8] (fun v5 v6 v7 i wr => ∃ k : Nat, i = .int .i64 k ∧ k ≤ n ∧ Tri wr w.heap.size v5 v6 v7 (oL ns ts k) (groupsN (oL ns ts k)) (groupsN (oL ns ts k)) ∧ Below w.heap.size w wr) (fun _ _ _ i _ => n - (intOf i).toNat)
  case atStart => exact ⟨0, rfl, by omega, Tri.nil _ _, HB.out⟩
  case round =>
    obtain ⟨k, rfl, hk, htri, hbr⟩ := hrel
    generalize wr = w1 at *
    clear HB
    have hgl := groupsN_length (oL ns ts k)
    have hap := groupsN_apart (oL ns ts k)
    have hnx := order_next ns ts k (by omega)
    rw [oL_length] at hgl
    obtain ⟨a5, c5, h5, _, hc5⟩ := (SlC.of_owns htri.1).slice
    obtain ⟨a6, c6, h6, _, hc6⟩ := (SlC.of_owns htri.2.1).slice
    obtain ⟨a7, c7, h7, _, hc7⟩ := (SlC.of_owns htri.2.2).slice
    rw [oL_length] at h5
    have hLl := oL_length ns ts k
    have hLs := oL_succ ns ts k
    generalize hL : oL ns ts k = L at *
    have HLS := Go.Lib.hid hLs
    have HL := Go.Lib.hid hL
    clear hLs hL
    generalize hgs : groupsN L = gs at *
    generalize hN : gs.length = N at *
    subst h5 h6 h7
    have hk20 : k ≤ 20 := by omega
    have hN20 : N ≤ 20 := by omega
    have hsum := sumG_le L
    rw [hgs] at hsum
    have HSUM := Go.Lib.hid (show sumG gs ≤ 20 by have := hLl; omega)
    clear hsum
    have HLL := Go.Lib.hid hLl
    have HGS := Go.Lib.hid hgs
    have HN := Go.Lib.hid hN
    have HTRI := Go.Lib.hid htri
    have HB := Go.Lib.hid hbr
    have HAP := Go.Lib.hid hap
    have HNX := Go.Lib.hid hnx
    clear hLl hgs hN htri hbr hap hnx
    by_cases hlt : k < n
    · obtain ⟨b, off, rfl, hbw, hcell⟩ := Ints.at (HNS.out.below HB.out (Nat.le_refl _)) (by rw [HNL.out]; omega)
      obtain ⟨b', off', rfl, hbw', hcell'⟩ := Ints.at (HTS.out.below HB.out (Nat.le_refl _)) (by rw [HTL.out]; omega)
      have f0 := hcell k (by rw [HNL.out]; exact hlt)
      have f1 := hcell' k (by rw [HTL.out]; omega)
      obtain ⟨a, ha⟩ : ∃ a, ns.getD k 0 = a := ⟨_, rfl⟩
      obtain ⟨t, ht⟩ : ∃ t, ts.getD k 0 = t := ⟨_, rfl⟩
      have hnx := HNX.out
      rw [ha, ht] at hnx
      rw [ha] at f0
      rw [ht] at f1
      have hkm : k < m := by omega
      have hoN : oN a = [1, UInt8.ofNat (97 + a % 4).toNat, 0] := rfl
      have hcv : 97 + a % 4 = ((UInt8.ofNat (97 + a % 4).toNat).toNat : Int) := by
        rw [UInt8.toNat_ofNat']
        omega
      have hr4 := HR4.out w1 a
      have hx0 : 0 ≤ a % 4 := by omega
      have hx1 : a % 4 < 4 := by omega
      generalize UInt8.ofNat (97 + a % 4).toNat = c at *
      generalize a % 4 = x at *
      have hw1 : IntKind.i64.wrap (97 + x) = (c.toNat : Int) := by rw [wrapi (by omega) (by omega)]; exact hcv
      have hconv := run_conv_new w1 1 [.int .u8 c.toNat] [c] rfl rfl (by decide)
      have hcat1 : (⟨#[1]⟩ : ByteArray) ++ mk [c] = mk [1, c] := cat_mk [1] [c]
      have hcat2 : mk [1, c] ++ (⟨#[0]⟩ : ByteArray) = mk [1, c, 0] := cat_mk [1, c] [0]
      have hs1 : (mk [c]).size = 1 := rfl
      have hs2 : (mk [1, c]).size = 2 := rfl
      have hcc := c.toNat_lt
      have hbX : Below w1.heap.size w1 (w1.alloc (.cells #[.int .u8 c.toNat] 5)) := (Below.refl _ _).alloc (Nat.le_refl _) _
      have htX := HTRI.out.alloc (.cells #[.int .u8 c.toNat] 5)
      obtain ⟨d, hd⟩ : ∃ d : UInt8, d = UInt8.ofNat k := ⟨_, rfl⟩
      have hdk : d.toNat = k := by rw [hd, UInt8.toNat_ofNat']; omega
      obtain ⟨tt, htt⟩ : ∃ tt, 99 + t % 2 = tt := ⟨_, rfl⟩
      have hw2 : IntKind.i64.wrap (99 + t % 2) = tt := by rw [wrapi (by omega) (by omega)]; exact htt
      have hw3 : IntKind.u8.wrap (k : Int) = (d.toNat : Int) := (show IntKind.u8.wrap (k : Int) = (k : Int) % 256 from rfl).trans (by rw [hdk]; omega)
      have hrr : oR a t k = ⟨[1, c, 0], tt, 1, 0, [d]⟩ := by unfold oR; rw [hoN, htt, ← hd]
      have hlr := HLS.out
      rw [ha, ht, hrr] at hlr
      rw [hrr] at hnx
      have hb7 := HB.out
      have hbXX := hb7.trans (hbX.mono hb7.size)
      have HNX2 := Go.Lib.hid hnx
      have HR4C := Go.Lib.hid hr4
      have HCV := Go.Lib.hid hcv
      have HA := Go.Lib.hid ha
      have HT := Go.Lib.hid ht
      have HON := Go.Lib.hid hoN
      have HBX := Go.Lib.hid hbX
      have HTX := Go.Lib.hid htX
      have HD := Go.Lib.hid hd
      have HDK := Go.Lib.hid hdk
      have HTT := Go.Lib.hid htt
      have HRR := Go.Lib.hid hrr
      have HLR := Go.Lib.hid hlr
      have HBXX := Go.Lib.hid hbXX
      clear hnx hr4 hcv ha ht hoN hbX htX hd hdk htt hrr hlr hbXX
      clear hcell hcell' hb7
      go_wp2_with fail
      refine HR4C.out.mono ?_; rintro e _ ⟨rfl, rfl⟩
      go_wp2_with fail
      generalize w1.alloc (.cells #[.int .u8 c.toNat] 5) = X at *
      have hconv2 := run_conv_new X 1 [.int .u8 d.toNat] [d] rfl rfl (by decide)
      have hone5 := one_rr ⟨[1, c, 0], tt, 1, 0, [d]⟩
      have hrow := (HTX.out.alloc (.cells #[.int .u8 d.toNat] 5)).1.alloc (.cells #[.string (mk [1, c, 0]), .int .i64 tt, .int .i64 1, .int .i64 0, .string (mk [d])] 49)
      have hzX := HBXX.out.size
      have hsrc : SlC ((X.alloc (.cells #[.int .u8 d.toNat] 5)).alloc (.cells #[.string (mk [1, c, 0]), .int .i64 tt, .int .i64 1, .int .i64 0, .string (mk [d])] 49)) 5 (.slice (some ⟨X.heap.size + 1, 0, none⟩) 1 1) 1 [.string (mk [1, c, 0]), .int .i64 tt, .int .i64 1, .int .i64 0, .string (mk [d])] := by
        have h := slc_new (X.alloc (.cells #[.int .u8 d.toNat] 5)) 5 1 49 [.string (mk [1, c, 0]), .int .i64 tt, .int .i64 1, .int .i64 0, .string (mk [d])] rfl (by decide)
        rwa [World.size_alloc] at h
      have HSRC := Go.Lib.hid hsrc
      clear hsrc
      have HONE5 := Go.Lib.hid hone5
      have HROW := Go.Lib.hid hrow
      clear hone5 hrow
      clear hconv f0 f1 hw1
      refine (HR2.out _ t).mono ?_; rintro e _ ⟨rfl, rfl⟩
      go_wp2_with (at_builtin; go_must (refine wpList_app eiRR (.tmp 55) (.tmp 63) rfl rfl w.heap.size rfl rfl HROW.out HSRC.out HONE5.out ?h2 ?h3 ?h4 ?h5; rotate_right; intro v3 X3 hown3 hg3; obtain ⟨a3, c3, hv3, _, hc3⟩ := (SlC.of_owns hown3).slice; rw [HLL.out] at hv3; subst hv3; have HG3 := Go.Lib.hid hg3; have HOWN3 := Go.Lib.hid hown3; clear hg3 hown3))
      case h2 => rw [HLL.out]; unfold maxLen; omega
      case h3 => rw [HLL.out]; omega
      case h4 => simp; omega
      have ht3 := (HTX.out.alloc (.cells #[.int .u8 d.toNat] 5)).app5 ⟨[1, c, 0], tt, 1, 0, [d]⟩ HOWN3.out HG3.out
      have hb3 : Below w.heap.size w X3 := below_app ((HBXX.out.alloc hzX _).alloc (by simp; omega) _) HROW.out HG3.out (Nat.le_refl _) (by simp; omega)
      have hfo : Nm.foldN [1, c, 0] = [1, c, 0] := by have h := oN_fold a; rw [HON.out] at h; exact h
      have HLT := Go.Lib.hid hlt
      have HT3 := Go.Lib.hid ht3
      have HB3 := Go.Lib.hid hb3
      have HFO := Go.Lib.hid hfo
      clear ht3 hb3 hfo
      clear HOWN3 HG3 HROW HSRC hconv2 HTX HBXX HBX HONE5 hzX hw2 hw3 hcat1 hcat2 hs1 hs2 hx0 hx1 hbw hbw' hc5 hc3 hlt
      go_loopw [11, 12] (fun at_ j wq => ∃ jn : Nat, j = .int .i64 jn ∧ jn ≤ N ∧ AtIs (keyP ⟨[1, c, 0], tt, 1, 0, [d]⟩) gs jn at_ ∧ Below X3.heap.size X3 wq) (fun _ j _ => N - (intOf j).toNat)
      case atStart => exact ⟨0, rfl, by omega, .inl ⟨rfl, by simp⟩, Below.refl _ _⟩
      case round =>
        obtain ⟨jn, rfl, hjn, hat, hbi⟩ := hrel
        have hti := HT3.out.below hbi
        have hbw := HB3.out.trans (Below.mono hbi HB3.out.size)
        have HAT := Go.Lib.hid hat
        have HBI := Go.Lib.hid hbi
        have HTI := Go.Lib.hid hti
        have HBW := Go.Lib.hid hbw
        clear hat hbi hti hbw
        by_cases hjl : jn < N
        · obtain ⟨hz6, b6, rfl, hb6, y0, y1⟩ := Tri.k_at HTI.out (q := jn) (by rw [HN.out]; exact hjl)
          clear hz6
          have HAN := Go.Lib.hid (AtIs.no HAT.out (by rw [HN.out]; exact hjl))
          obtain ⟨gj, hgj⟩ : ∃ gj, gs.getD jn g0 = gj := ⟨_, rfl⟩
          rw [hgj] at y0 y1 HAN
          have HGJ := Go.Lib.hid hgj
          clear hgj
          obtain ⟨gn, gt, gl⟩ := gj
          simp only at y0 y1
          have HJL := Go.Lib.hid hjl
          by_cases hab : gn = [1, c, 0]
          · by_cases htt : gt = tt
            · have hp : keyP ⟨[1, c, 0], tt, 1, 0, [d]⟩ (gs.getD jn g0) = true := by rw [HGJ.out, keyP_true]; exact ⟨hab.trans HFO.out.symm, htt⟩
              subst hab htt
              have HP := Go.Lib.hid hp
              clear hp
              go_wp2_with fail
              go_roundw
              case rel => exact ⟨jn + 1, by go_num, HJL.out, .inr ⟨jn, Nat.lt_succ_self _, rfl, HP.out⟩, HBI.out⟩
              case measure => have := HJL.out; simp [intOf]; omega
            · have hp : keyP ⟨[1, c, 0], tt, 1, 0, [d]⟩ ⟨gn, gt, gl⟩ = false := by
                cases hv : keyP ⟨[1, c, 0], tt, 1, 0, [d]⟩ ⟨gn, gt, gl⟩ with
                | false => rfl
                | true => exact absurd (keyP_true.1 hv).2 htt
              have hnx := HAN.out hp
              have htb := beq_eq_false_iff_ne.2 htt
              subst hab
              have HNXX := Go.Lib.hid hnx
              clear hnx
              clear hp HAN
              go_wp2_with fail
              go_roundw
              case rel => exact ⟨jn + 1, by go_num, HJL.out, HNXX.out, HBI.out⟩
              case measure => have := HJL.out; simp [intOf]; omega
          · have hp : keyP ⟨[1, c, 0], tt, 1, 0, [d]⟩ ⟨gn, gt, gl⟩ = false := by
              cases hv : keyP ⟨[1, c, 0], tt, 1, 0, [d]⟩ ⟨gn, gt, gl⟩ with
              | false => rfl
              | true => exact absurd ((keyP_true.1 hv).1.trans HFO.out) hab
            have hnx := HAN.out hp
            have hne1 : ¬ (mk gn).toList = (mk [1, c, 0]).toList := ne_mk hab
            have hne2 := beq_mk_false hab
            have hne3 : ¬ mk gn = mk [1, c, 0] := fun e => hab (by rw [← bl_mk gn, ← bl_mk [1, c, 0], e])
            have HNXX := Go.Lib.hid hnx
            clear hnx
            clear hp HAN hab
            go_wp2_with fail
            go_roundw
            case rel => exact ⟨jn + 1, by go_num, HJL.out, HNXX.out, HBI.out⟩
            case measure => have := HJL.out; simp [intOf]; omega
        · obtain rfl : N = jn := by omega
          clear hjl hjn
          have hnx := HNX2.out
          rcases HAT.out with ⟨rfl, hall⟩ | ⟨q, hq, rfl, hp⟩
          · have hix : idx (keyP ⟨[1, c, 0], tt, 1, 0, [d]⟩) gs = -1 := idx_neg (by rw [← HN.out, List.take_length] at hall; exact hall)
            simp only [hix] at hnx
            rw [if_pos (by omega)] at hnx
            have hrow6 := HTI.out.2.1.alloc (.cells #[.string (mk [1, c, 0]), .int .i64 tt] 45)
            have hsrc6 := slc_new wr 2 1 45 [.string (mk [1, c, 0]), .int .i64 tt] rfl (by decide)
            have hz6 := HBW.out.size
            have hone6 := one_key [1, c, 0] tt
            have hone7 := one_int 0
            have hgl9 : (N : Int) + 1 - 1 = (N : Int) := by omega
            have hgl8 : N < N + 1 := Nat.lt_succ_self _
            have HNX3 := Go.Lib.hid hnx
            have HROW6 := Go.Lib.hid hrow6
            have HSRC6 := Go.Lib.hid hsrc6
            have HONE6 := Go.Lib.hid hone6
            have HONE7 := Go.Lib.hid hone7
            clear hnx hrow6 hsrc6 hone6 hone7
            clear hall hix HAT
            go_wp2_with (first | (at_builtin; refine wpList_app eiK (.tmp 82) (.tmp 86) rfl rfl w.heap.size rfl rfl HROW6.out HSRC6.out HONE6.out ?i2 ?i3 ?i4 ?i5; rotate_right; intro v4 X4 hown4 hg4; obtain ⟨a4, c4, hv4, _, hc4⟩ := (SlC.of_owns hown4).slice; rw [HN.out] at hv4; subst hv4; have ht4 := HTI.out.app6 ⟨[1, c, 0], tt, []⟩ hown4 hg4; have hb4 : Below w.heap.size w X4 := below_app (HBW.out.alloc hz6 _) HROW6.out hg4 (Nat.le_refl _) (by simp; omega); have HROW7 := Go.Lib.hid (ht4.2.2.alloc (.cells #[.int .i64 0] 3)); have HSRC7 := Go.Lib.hid (slc_new X4 1 1 3 [.int .i64 0] rfl (by decide)); have HT4 := Go.Lib.hid ht4; have HB4 := Go.Lib.hid hb4; have HZ4 := Go.Lib.hid hb4.size; clear ht4 hb4 hown4 hg4) | (at_builtin; refine wpList_app eiI (.tmp 88) (.tmp 89) rfl rfl w.heap.size rfl rfl HROW7.out HSRC7.out HONE7.out ?k2 ?k3 ?k4 ?k5; rotate_right; intro v5 X5 hown5 hg5; obtain ⟨a8, c8, hv8, _, hc8⟩ := (SlC.of_owns hown5).slice; rw [HN.out] at hv8; subst hv8; have ht5 := HT4.out.app7 ⟨[1, c, 0], tt, []⟩ hown5 hg5; have hb5 : Below w.heap.size w X5 := below_app (HB4.out.alloc HZ4.out _) HROW7.out hg5 (Nat.le_refl _) (by have := HZ4.out; simp; omega); obtain ⟨hz8, b8, cur8, rfl, hB8, hh8, y8⟩ := Tri.c_at ht5 (q := N) (by rw [List.length_append, HN.out]; exact Nat.lt_succ_self _); have y9 : X5.cell? ⟨b8, N, none⟩ = some (.int .i64 0) := (by rw [y8, show (gs ++ [(⟨[1, c, 0], tt, []⟩ : Gr)]).getD N g0 = ⟨[1, c, 0], tt, []⟩ from by rw [← HN.out, getD_snoc_eq]]; rfl); have hf8 : X5.frozen? ⟨b8, N, none⟩ = false := (by simp [World.frozen?, hh8]); have HT5 := Go.Lib.hid ht5; have HB5 := Go.Lib.hid hb5; have HBB8 := Go.Lib.hid hB8; clear ht5 hb5 hown5 hg5 hz8 y8 hh8 hB8))
            case i2 => rw [HN.out]; unfold maxLen; omega
            case i3 => rw [HN.out]; omega
            case i4 => simp; omega
            case k2 => rw [HN.out]; unfold maxLen; omega
            case k3 => rw [HN.out]; omega
            case k4 => have := HZ4.out; simp; omega
            have hput := (HT5.out.put N ⟨[1, c, 0], tt, [⟨[1, c, 0], tt, 1, 0, [d]⟩]⟩ 1 rfl)
            have hset : (gs ++ [(⟨[1, c, 0], tt, []⟩ : Gr)]).set N ⟨[1, c, 0], tt, [⟨[1, c, 0], tt, 1, 0, [d]⟩]⟩ = gs ++ [⟨[1, c, 0], tt, [⟨[1, c, 0], tt, 1, 0, [d]⟩]⟩] := by rw [← HN.out]; simp
            rw [hset] at hput
            have hput2 := hput.keys (K' := gs ++ [⟨[1, c, 0], tt, [⟨[1, c, 0], tt, 1, 0, [d]⟩]⟩]) (by rw [encK_snoc, encK_snoc]) (by simp)
            have hnx3 := HNX3.out
            rw [← hnx3, ← HLR.out] at hput2
            have hb8 := HB5.out.setCell (p := ⟨b8, N, none⟩) HBB8.out (.int .i64 1)
            go_roundw
            case rel => exact ⟨k + 1, by go_num, HLT.out, hput2, hb8⟩
            case measure => have := HLT.out; simp [intOf]; omega
          · have hix := idx_only HAP.out (by rw [HN.out]; exact hq) hp
            simp only [hix] at hnx
            rw [if_neg (by omega), Int.toNat_natCast] at hnx
            obtain ⟨hz7, b7, cur7, rfl, hB7, hh7, y0⟩ := Tri.c_at HTI.out (q := q) (by rw [HN.out]; exact hq)
            clear hz7
            have hf7 : wr.frozen? ⟨b7, q, none⟩ = false := by simp [World.frozen?, hh7]
            have hcl := list_le (gs := gs) (q := q) (by rw [HN.out]; exact hq)
            obtain ⟨cn, hcn⟩ : ∃ cn, (gs.getD q g0).l.length = cn := ⟨_, rfl⟩
            have hcn20 : cn ≤ 20 := by have := HSUM.out; omega
            rw [hcn] at y0
            have hput := HTI.out.put q { gs.getD q g0 with l := (gs.getD q g0).l ++ [⟨[1, c, 0], tt, 1, 0, [d]⟩] } ((cn : Int) + 1) (by rw [← hcn]; simp)
            have hput2 := hput.keys (encK_set gs q { gs.getD q g0 with l := (gs.getD q g0).l ++ [⟨[1, c, 0], tt, 1, 0, [d]⟩] } (by rw [HN.out]; exact hq) rfl rfl) (by simp)
            rw [← hnx, ← HLR.out] at hput2
            have hb8 := HBW.out.setCell (p := ⟨b7, q, none⟩) hB7 (.int .i64 ((cn : Int) + 1))
            have hq0 : ¬ (q : Int) < 0 := by omega
            have HPUT := Go.Lib.hid hput2
            have HB8 := Go.Lib.hid hb8
            clear hput2 hb8
            clear hnx hix hp hput hcn hcl hh7 HAT
            go_wp2_with fail
            go_roundw
            case rel => exact ⟨k + 1, by go_num, HLT.out, HPUT.out, HB8.out⟩
            case measure => have := HLT.out; simp [intOf]; omega
    · obtain rfl : n = k := by omega
      have hrs : RRs w1 (.slice a5 n c5) (oL ns ts n) := by rw [HL.out]; exact SlC.of_owns HTRI.out.1
      have hgr := HGR.out w1 a5 c5 hrs
      rw [HL.out, HGS.out] at hgr
      have HGR2 := Go.Lib.hid hgr
      clear hgr
      clear hrs hlt hk
      go_wp2_with fail
      refine HGR2.out.mono ?_; rintro e w2 ⟨v, rfl, hgv, hx⟩
      obtain ⟨ga, gc, hv, hgc1, hgc2⟩ := hgv.slice
      rw [HN.out] at hv hgc1
      subst hv
      have ht2 := HTRI.out.below hx
      have hb2 := HB.out.trans (hx.mono HB.out.size)
      have hrise : ∀ g ∈ gs, 0 < g.l.length ∧ Rise n g.l := fun g hg => by
        have h1 := groups_rise ns ts n (by omega) g (by rw [HL.out, HGS.out]; exact hg)
        have h2 := (groupsN_good L g (by rw [HGS.out]; exact hg)).1
        exact ⟨h2, h1⟩
      unfold maxLen at hgc2
      have HGV := Go.Lib.hid hgv
      have HT2 := Go.Lib.hid ht2
      have HB2 := Go.Lib.hid hb2
      have HRISE := Go.Lib.hid hrise
      clear hgv ht2 hb2 hrise
      clear hx HB HTRI
      go_wp2_with fail
      go_loopw [14] (fun i wq => ∃ j : Nat, i = .int .i64 j ∧ j ≤ N ∧ Below w2.heap.size w2 wq) (fun i _ => N - (intOf i).toNat)
      case atStart => exact ⟨0, rfl, by omega, Below.refl _ _⟩
      case round =>
        obtain ⟨j, rfl, hj, hbr⟩ := hrel
        generalize wr = w3 at *
        by_cases hlt : j < N
        · obtain ⟨hz1, b, off, rfl, hbw, hcell⟩ := GrpV.at (HGV.out.below hbr (Nat.le_refl _)) (by rw [HN.out]; omega)
          obtain ⟨a', c', e0, e1, e2, hrr⟩ := hcell j (by rw [HN.out]; exact hlt)
          obtain ⟨hz2, b6, rfl, hb6, k0, k1⟩ := Tri.k_at (HT2.out.below hbr) (q := j) (by rw [HN.out]; exact hlt)
          obtain ⟨hz3, b7, cur7, rfl, hB7, hh7, y0⟩ := Tri.c_at (HT2.out.below hbr) (q := j) (by rw [HN.out]; exact hlt)
          have hlt7 := (Array.getElem?_eq_some_iff.1 hh7).1
          have hri := HRISE.out _ (getD_mem' (d := g0) (by rw [HN.out]; exact hlt : j < gs.length))
          have hcl := list_le (gs := gs) (q := j) (by rw [HN.out]; exact hlt)
          have hcl2 := HSUM.out
          generalize gs.getD j g0 = g at *
          obtain ⟨gn, gt, gl⟩ := g
          simp only at e0 e1 e2 hrr k0 k1 y0 hri hcl
          obtain ⟨hpos, hri⟩ := hri
          have hbnd := slc_bounds hrr
          obtain ⟨hb1, hb2⟩ := hbnd
          unfold maxLen at hb2
          generalize hnl : gl.length = nl at *
          have E0 := BelowC.cell (W := w3) e0 hbw
          have E1 := BelowC.cell (W := w3) e1 hbw
          have E2 := BelowC.cell (W := w3) e2 hbw
          have K0 := BelowC.cell (W := w3) k0 hb6
          have K1 := BelowC.cell (W := w3) k1 hb6
          have Y0 := BelowC.cell (W := w3) y0 hlt7
          have hnn : Nonempty (Subtype (Below w3.heap.size w3)) := ⟨⟨w3, Below.refl _ _⟩⟩
          have HLT := Go.Lib.hid hlt
          have HBR := Go.Lib.hid hbr
          have HRR := Go.Lib.hid hrr
          have HRI := Go.Lib.hid hri
          have HNL2 := Go.Lib.hid hnl
          clear hbr hrr hri hnl
          clear hz1 hz2 hz3 hcell hh7 hcl2 k0 k1 y0 e0 e1
          go_wp2_with fail
          refine Go.Mix.wp_region_mix (Es := []) (Below w3.heap.size w3) mixed (by kernel_rfl) (Below.refl _ _).drew (fun _ => ?_)
          iterate 23 (refine Go.Mix.mix_step rfl (fun K hK => ?_); have HKK := Go.Lib.hid hK; clear hK; go_simp; refine HKK.out _ _ ?_; clear HKK K)
          refine Go.Mix.mix_nil ?_
          have e3 : w3.drew.cell? ⟨b, off + j * 3 + 2, none⟩ = some (.slice a' nl c') := e2
          have hbw3 : b < w3.drew.heap.size := hbw
          have hrr3 : RRs w3.drew (.slice a' nl c') gl := HRR.out.below (Below.refl _ _).drew (Nat.le_refl _)
          have hbr3 := HBR.out.drew
          clear E0 E1 E2 K0 K1 Y0 e2 hbw HRR HBR hnn
          generalize w3.drew = w4 at *
          have HRR := Go.Lib.hid hrr3
          have HBR := Go.Lib.hid hbr3
          clear hrr3 hbr3
          go_wp2_with fail
          go_loopw [15] (fun i wq => ∃ p : Nat, i = .int .i64 p ∧ 1 ≤ p ∧ p ≤ nl ∧ Below w4.heap.size w4 wq) (fun i _ => nl - (intOf i).toNat)
          case atStart => exact ⟨1, rfl, by omega, by omega, Below.refl _ _⟩
          case round =>
            obtain ⟨p, rfl, hp1, hp2, hbq⟩ := hrel
            have d2 := (hbq.cell (p := ⟨b, off + j * 3 + 2, none⟩) hbw3).trans e3
            have hbw5 := Nat.lt_of_lt_of_le hbw3 hbq.size
            have HBN := Go.Lib.hid (HBR.out.trans (hbq.mono HBR.out.size))
            by_cases hpl : p < nl
            · obtain ⟨b2, off2, rfl, hb2w, hcell2⟩ := RRs.at (HRR.out.below hbq (Nat.le_refl _)) (by rw [HNL2.out]; exact hpos)
              obtain ⟨q, rfl⟩ : ∃ q, p = q + 1 := ⟨p - 1, by omega⟩
              have g0' := (hcell2 q (by rw [HNL2.out]; omega)).2.2.2.2
              have g1' := (hcell2 (q + 1) (by rw [HNL2.out]; omega)).2.2.2.2
              obtain ⟨x, y, hxy, hyn, hdx, hdy⟩ := HRI.out.at (j := q) (by rw [HNL2.out]; omega)
              rw [hdx] at g0'
              rw [hdy] at g1'
              generalize hp : q + 1 = p at *
              have hpq : (p : Int) - 1 = (q : Int) := by omega
              have hqn : q < nl := by omega
              have hwq : IntKind.i64.wrap (q : Int) = q := wrapi (by omega) (by omega)
              have HPL := Go.Lib.hid hpl
              have hbl := less_one hxy (by omega : y < 256)
              have D2 := BelowC.cell (W := wr) d2 hbw5
              have G0 := BelowC.cell (W := wr) g0' hb2w
              have G1 := BelowC.cell (W := wr) g1' hb2w
              have hnn : Nonempty (Subtype (Below wr.heap.size wr)) := ⟨⟨wr, Below.refl _ _⟩⟩
              have HBQ := Go.Lib.hid hbq
              clear hbq
              clear hcell2 hdx hdy g0' g1' hp
              go_wp2_with fail
              refine Go.Mix.wp_region_mix (Es := []) (Below wr.heap.size wr) mixed (by kernel_rfl) (Below.refl _ _).drew (fun _ => ?_)
              iterate 20 (refine Go.Mix.mix_step rfl (fun K hK => ?_); have HKK := Go.Lib.hid hK; clear hK; go_simp; refine HKK.out _ _ ?_; clear HKK K)
              refine Go.Mix.mix_nil ?_
              go_wp2_with fail
              go_roundw
              case rel => exact ⟨p + 1, by go_num, by omega, HPL.out, HBQ.out.drew⟩
              case measure => have := HPL.out; simp [intOf]; omega
            · obtain rfl : nl = p := by omega
              go_wp2_with fail
              go_roundw
              case rel => exact ⟨j + 1, by go_num, HLT.out, HBN.out⟩
              case measure => have := HLT.out; simp [intOf]; omega
        · have hb9 := HB2.out.trans (hbr.mono HB2.out.size)
          obtain rfl : N = j := by omega
          have HB := Go.Lib.hid hb9
          clear hbr hb9
          go_wp2_with fail
          refine (HAW.out _).mono ?_; rintro e wz ⟨rfl, hx⟩
          have HXX := Go.Lib.hid hx
          clear hx
          go_wp2_with fail
          go_ret
          exact ⟨rfl, HB.out.trans (HXX.out.mono HB.out.size)⟩

theorem walk (na : Option Addr) (ns : List Int) (nc : Nat) (ta : Option Addr) (ts : List Int) (tc : Nat) (w : World) (hns : Ints w (.slice na ns.length nc) ns) (hnf : ∀ x ∈ ns, Fits x) (hts : Ints w (.slice ta ts.length tc) ts) (htf : ∀ x ∈ ts, Fits x) :
    Calls Try.prog 7 #[.slice na ns.length nc, .slice ta ts.length tc] w fun e w' => e = .returned (.bool true) ∧ Below w.heap.size w w' := by
  have haw := Go.Lib.hid awake5_any
  by_cases hbad : 20 < ns.length ∨ (ns.length ≤ 20 ∧ ts.length < ns.length) ∨ (ns.length ≤ 20 ∧ ns.length ≤ ts.length ∧ 40 < ts.length)
  · exact t1 na ta nc tc _ _ w hbad haw
  · have h1 : ns.length ≤ 20 := by omega
    have h2 : ns.length ≤ ts.length := by omega
    have h3 : ts.length ≤ 40 := by omega
    refine t2 na ta nc tc _ _ ns ts w hns rfl hts rfl h1 h2 h3 haw (Go.Lib.hid fun W q => Round_any q 4 W (by decide) (by decide)) (Go.Lib.hid fun W q => Round_any q 2 W (by decide) (by decide)) (Go.Lib.hid fun W a c h => ?_)
    have hg := lawGroups_any a c (oL ns ts ns.length) (-1) W (by rw [oL_length]; exact h) (by rw [oL_length]; omega) (fun r hr => by
      unfold oL at hr
      obtain ⟨i, hi, rfl⟩ := List.mem_map.1 hr
      exact ⟨by simp [oR, oN, maxLen], by simp [oR, maxLen]⟩)
    rw [oL_length, show walkG (-1) (groupsN (oL ns ts ns.length)) = groupsN (oL ns ts ns.length) from if_neg (by omega)] at hg
    exact hg

set_option maxRecDepth 100000 in
theorem lifted (os : Os) (started : os.Started) (H : Type) (enc : TypeId × Value → H) :
    ReturnsInHanded {} Try.checked os 7 .any (Rows.matchOrderSpec.pre6 enc Try.prog Try.f7 Rows.matchOrderRow.domain false) (Rows.matchOrderSpec.post enc Try.prog Try.f7 false true false false) := by
  refine returnsInHanded_of_change (C := Try.checked) own started (by kernel_rfl) Try.func7
    (ChangeSpec.witness6 (enc := enc) (C := Try.checked) false ⟨#[], #[.slice none 0 0, .slice none 0 0], []⟩ 8 (by kernel_rfl) (by kernel_rfl) (by kernel_rfl) (by kernel_rfl)) ?_
  intro W base args ds gs before hval0 hW hcnd _
  have hval : ∀ (j : Nat) t v, Try.f7.params[j]? = some t → args[j]? = some v → Value.okWide Try.prog W .any base t v := hval0
  refine law_post enc 2 (by kernel_rfl) rfl rfl (by kernel_rfl) (fun ds h => match ds, h with | [_, _], _ => rfl) hW ?_
  obtain ⟨p, q, hA0, hV, rfl, _, _⟩ := hW
  have hA : DataW.TrodAll enc Try.prog W 0 (fun _ => true) true Try.f7.params.toList args.toList ds p := hA0
  rw [Try.params7] at hA hval
  obtain ⟨v0, vs0, d0, ds0, p0, q0, hargs, rfl, rfl, h0, r0⟩ := trodAll_cons hA
  obtain ⟨v1, vs1, d1, ds1, p1, q1, rfl, rfl, rfl, h1, r1⟩ := trodAll_cons r0
  obtain ⟨rfl, rfl, rfl⟩ := trodAll_nil r1
  obtain rfl : args = #[v0, v1] := by cases args; simp_all
  obtain ⟨a0, z0, c0, rfl, w0, f0⟩ := open_Ints Try.underlying53 Try.underlying3 (by kernel_rfl) (hval 0 53 v0 rfl rfl) h0
  obtain ⟨a1, z1, c1, rfl, w1, f1⟩ := open_Ints Try.underlying53 Try.underlying3 (by kernel_rfl) (hval 1 53 v1 rfl rfl) h1
  exact walk a0 z0 c0 a1 z1 c1 W w0 f0 w1 f1

theorem over : Rows.matchOrderRow.holds Try.pinned (OpenSpec.ofChange Rows.matchOrderSpec) :=
  OpenClaim.holds_of_wide 7 Try.f7 rfl rfl rfl rfl rfl rfl rfl ⟨rfl, rfl, rfl, rfl, rfl⟩ rfl rfl rfl rfl rfl (by kernel_rfl) Try.func7 (by kernel_rfl)
    (of_decide_eq_true (by kernel_rfl)) (by unfold Func.isWrapper; first | (rw [if_pos (by decide +kernel)]; kernel_rfl) | (rw [if_neg (by decide +kernel)]; exact ⟨rfl, rfl⟩))
    (fun os started H enc _ => lifted os started H enc)

/-- the statement -/
theorem proved : Rows.MatchOrderSaid := over
#print axioms proved
end Go.Proofs.Ytcamopppeanipaa.matchOrder

