/- NameTexts: a name's text has a dot behind each label, and none more that is not marked; plain signs stand as they are, all others by a mark. For every input; no conditions. -/
import Derived.Test.YtfmhmhekildfbaaNameX
import Derived.Test.YtfmhmhekildfbaaNmE
namespace Go.Proofs.Ytfmhmhekildfbaa.nameTexts
open Go.ChangeShapes Go.WideShapes Go.ChangeAt Go.RowKit
open Go.ChangeMaps (open_string shut_string)
set_option linter.unusedVariables false

theorem text_len (x : List UInt8) (k : Nat) : (Nm.textL (List.replicate k x)).length = k * ((x.flatMap Nm.signB).length + 1) := by
  induction k with
  | zero => simp [Nm.textL]
  | succ k ih =>
    rw [Nm.text_cut, List.length_append, List.length_append, ih, Nat.succ_mul]
    simp
    omega

theorem cut_last (x : List UInt8) (k : Nat) : (mk (Nm.textL (List.replicate (k + 1) x))).extract 0 ((Nm.textL (List.replicate (k + 1) x)).length - 1) = mk (Nm.textL (List.replicate k x) ++ x.flatMap Nm.signB) := by
  apply bl_inj
  rw [bl_extract, bl_mk, bl_mk, Nm.text_cut, List.drop_zero, Nat.sub_zero, ← List.dropLast_eq_take, List.dropLast_concat]

theorem rep_owned {w : World} {g e k : Nat} {v : Value} {x : List UInt8} (h : w.ownsRow g e 1 v k (encS (List.replicate k x))) : Strs w v (List.replicate k x) := by
  exact strs_owned (ls := List.replicate k x) (by simpa using h)

set_option maxRecDepth 100000 in
set_option maxHeartbeats 4000000 in
theorem inner (ad : Option Addr) (x : List UInt8) (cap : Nat) (p : Nat) (w : World) (h : Byts w (.slice ad x.length cap) x) (h1 : 1 ≤ x.length) (h2 : x.length ≤ 40) (hp : p ≤ 3) :
    Calls Try.prog 10 #[.slice ad x.length cap, .int .i64 ((p + 1 : Nat) : Int)] w fun e w' => e = .returned (.bool true) ∧ Below w.heap.size w w' := by
  have AW := Go.Lib.hid awake_any
  have HB := Go.Lib.hid (Below.refl w.heap.size w)
  have HS := Go.Lib.hid h
  have hsl := signs_le x
  have htl := text_len x
  -- the last part's contracts
  have hrl : (List.replicate (p + 1) x).length ≤ 1099511627776 := by rw [List.length_replicate]; omega
  have hjo := fun a c w (hs : Strs w (.slice a (List.replicate (p + 1) x).length c) (List.replicate (p + 1) x)) => Join_any a c (List.replicate (p + 1) x) w hs hrl (fun y hy => by rw [List.eq_of_mem_replicate hy]; unfold maxLen; omega)
  rw [Nm.join_rep h1 h2 (by omega)] at hjo
  obtain ⟨ht1, ht2⟩ := Nm.text_rep h1 h2 (n := p + 1) (by omega) (by omega)
  have hTL := htl (p + 1)
  have hTb : (p + 1) * ((x.flatMap Nm.signB).length + 1) ≤ 4 * ((x.flatMap Nm.signB).length + 1) := Nat.mul_le_mul_right _ (by omega)
  have hpa := fun w => Parse_any (mk (Nm.textL (List.replicate (p + 1) x))) w (by rw [size_mk]; omega)
  rw [bl_mk, Nm.parse_rep h1 h2 (n := p + 1) (by omega) (by omega)] at hpa
  have hpc := fun w => Parse_any (mk (Nm.textL (List.replicate p x) ++ x.flatMap Nm.signB)) w (by rw [size_mk]; have := htl p; have : p * ((x.flatMap Nm.signB).length + 1) ≤ 4 * ((x.flatMap Nm.signB).length + 1) := Nat.mul_le_mul_right _ (by omega); rw [List.length_append]; omega)
  rw [bl_mk, Nm.parse_cut (by intro e; rw [e] at h1; simp at h1)] at hpc
  have htx := fun w => Text_any (mk (Nm.wire (List.replicate (p + 1) x))) w (by rw [size_mk]; have := (Nm.labs_valid ht2).2.2; unfold maxLen; omega)
  rw [bl_mk, ht1] at htx
  have hcut := cut_last x p
  have hT2 : 1 ≤ (Nm.textL (List.replicate (p + 1) x)).length ∧ (Nm.textL (List.replicate (p + 1) x)).length ≤ 1000 := by
    rw [hTL]
    exact ⟨Nat.mul_pos (by omega) (by omega), by omega⟩
  have hTsz := size_mk (Nm.textL (List.replicate (p + 1) x))
  unfold nameEnd at hjo hpa hpc
  simp only [Option.getD_some, Option.isSome_some, Option.getD_none, Option.isSome_none] at hjo hpa hpc
  have htl2 : ∀ k, k ≤ p + 1 → (Nm.textL (List.replicate k x)).length ≤ 1000 := fun k hk => by
    rw [htl k]
    have : k * ((x.flatMap Nm.signB).length + 1) ≤ 4 * ((x.flatMap Nm.signB).length + 1) := Nat.mul_le_mul_right _ (by omega)
    omega
  have hsw : (x.flatMap Nm.signB).length ≤ 160 := by omega
  have HJO := Go.Lib.hid hjo
  have HPA := Go.Lib.hid hpa
  have HPC := Go.Lib.hid hpc
  have HTX := Go.Lib.hid htx
  have HCUT := Go.Lib.hid hcut
  have HTSZ := Go.Lib.hid hTsz
  have HTL := Go.Lib.hid htl2
  clear hjo hpa hpc htx hcut hTsz htl2
  clear h ht1 ht2 hTb hTL htl hrl hsl
  generalize mk (Nm.wire (List.replicate (p + 1) x)) = sx at *
  generalize hn : x.length = n at *
  have HN := Go.Lib.hid hn
  clear hn
  have g1 : ¬ (n : Int) < 1 := by omega
  have g2 : ¬ 40 < (n : Int) := by omega
  go_enter Try.func10, Try.ntmps10
  go_wp2_with fail
  go_loopw [5, 7] (fun t i wr => ∃ j : Nat, i = .int .i64 j ∧ j ≤ n ∧ t = .string (mk ((x.take j).flatMap Nm.signB)) ∧ Below w.heap.size w wr) (fun _ i _ => n - (intOf i).toNat)
  case atStart => exact ⟨0, rfl, by omega, rfl, HB.out⟩
  case round =>
    obtain ⟨j, rfl, hj, rfl, hbr⟩ := hrel
    clear HB
    have hbz := hbr.size
    have HB := Go.Lib.hid hbr
    clear hbr
    by_cases hltj : j < n
    · have hst := (HS.out.below HB.out (Nat.le_refl _))
      rw [← HN.out] at hst
      obtain ⟨b, off, rfl, hbw, hcell⟩ := Byts.at hst (by rw [HN.out]; omega)
      have hc3 := hcell j (by rw [HN.out]; exact hltj)
      have hsl := signs_le (x.take j)
      rw [List.length_take, HN.out] at hsl
      have hcl : ((x.take j).flatMap Nm.signB).length ≤ 160 := by omega
      have hstp : (x.take (j + 1)).flatMap Nm.signB = (x.take j).flatMap Nm.signB ++ Nm.signB (x.getD j 0) := by
        rw [getD_take_succ x 0 (by rw [HN.out]; exact hltj), List.flatMap_append]; simp
      have HSTP2 := Go.Lib.hid hstp
      clear hstp
      clear hsl hst hcell
      generalize x.getD j 0 = c at *
      generalize (x.take j).flatMap Nm.signB = cur at *
      have hsc := size_mk cur
      have q1 : ¬ 9223372036854775807 < cur.length + 1 := by omega
      have q2 : ¬ 9223372036854775807 < cur.length + 1 + 1 := by omega
      have q3 : ¬ 9223372036854775807 < cur.length + 1 + 3 := by omega
      have hcc := c.toNat_lt
      by_cases h1 : c.toNat = 46 ∨ c.toNat = 92
      · have hsg : Hid (cur ++ Nm.signB c = cur ++ [92] ++ [c]) := Go.Lib.hid (by unfold Nm.signB; rw [if_pos h1]; simp)
        have hcat1 : mk cur ++ ⟨#[92]⟩ = mk (cur ++ [92]) := cat_lit _ _
        have hs1 : (mk (cur ++ [92])).size = cur.length + 1 := by rw [size_mk]; simp
        have hcat2 : mk (cur ++ [92]) ++ mk [c] = mk (cur ++ [92] ++ [c]) := cat_mk _ _
        have hso := size_one c
        have hconv := run_conv_new wr 1 [.int .u8 c.toNat] [c] rfl rfl (by decide)
        by_cases h46 : c.toNat = 46
        · have e1 : ((c.toNat : Int) == 46) = true := by rw [h46]; rfl
          clear h1 h46
          go_wp2_with fail
          go_roundw
          case rel => exact ⟨j + 1, by go_num, by omega, by rw [HSTP2.out, hsg.out]; simp, HB.out.alloc hbz _⟩
          case measure => simp [intOf]; omega
        · have e1 : ((c.toNat : Int) == 46) = false := by rw [beq_eq_false_iff_ne]; omega
          have e2 : ((c.toNat : Int) == 92) = true := by rw [h1.resolve_left h46]; rfl
          clear h1 h46
          go_wp2_with fail
          go_roundw
          case rel => exact ⟨j + 1, by go_num, by omega, by rw [HSTP2.out, hsg.out]; simp, HB.out.alloc hbz _⟩
          case measure => simp [intOf]; omega
      · have e1 : ((c.toNat : Int) == 46) = false := by rw [beq_eq_false_iff_ne]; omega
        have e2 : ((c.toNat : Int) == 92) = false := by rw [beq_eq_false_iff_ne]; omega
        by_cases h3 : c.toNat < 33 ∨ 126 < c.toNat
        · have hsg : Hid (cur ++ Nm.signB c = cur ++ [92] ++ [48 + c / 100, 48 + c / 10 % 10, 48 + c % 10]) := Go.Lib.hid (by unfold Nm.signB; rw [if_neg h1, if_pos h3]; simp)
          have hcat1 : mk cur ++ ⟨#[92]⟩ = mk (cur ++ [92]) := cat_lit _ _
          have hs1 : (mk (cur ++ [92])).size = cur.length + 1 := by rw [size_mk]; simp
          have hcat2 := cat_mk (cur ++ [92]) [48 + c / 100, 48 + c / 10 % 10, 48 + c % 10]
          have hso : (mk [48 + c / 100, 48 + c / 10 % 10, 48 + c % 10]).size = 3 := rfl
          have hconv := run_conv_new wr 3 _ _ rfl (nums3 c) (by decide)
          generalize [48 + c / 100, 48 + c / 10 % 10, 48 + c % 10] = tr at *
          by_cases h4 : c.toNat < 33
          · have e3 : (c.toNat : Int) < 33 := by omega
            clear h1 h3
            go_wp2_with fail
            go_roundw
            case rel => exact ⟨j + 1, by go_num, by omega, by rw [HSTP2.out, hsg.out]; simp, HB.out.alloc hbz _⟩
            case measure => simp [intOf]; omega
          · have e3 : 33 ≤ (c.toNat : Int) := by omega
            have e4 : 126 < (c.toNat : Int) := by omega
            clear h1 h3
            go_wp2_with fail
            go_roundw
            case rel => exact ⟨j + 1, by go_num, by omega, by rw [HSTP2.out, hsg.out]; simp, HB.out.alloc hbz _⟩
            case measure => simp [intOf]; omega
        · have hsg : Hid (cur ++ Nm.signB c = cur ++ [c]) := Go.Lib.hid (by unfold Nm.signB; rw [if_neg h1, if_neg h3])
          have hcat2 : mk cur ++ mk [c] = mk (cur ++ [c]) := cat_mk _ _
          have hso := size_one c
          have hconv := run_conv_new wr 1 [.int .u8 c.toNat] [c] rfl rfl (by decide)
          have e3 : 33 ≤ (c.toNat : Int) := by omega
          have e4 : (c.toNat : Int) ≤ 126 := by omega
          clear h1 h3
          go_wp2_with fail
          go_roundw
          case rel => exact ⟨j + 1, by go_num, by omega, by rw [HSTP2.out, hsg.out], HB.out.alloc hbz _⟩
          case measure => simp [intOf]; omega
    · obtain rfl : j = n := by omega
      have hall : (x.take j).flatMap Nm.signB = x.flatMap Nm.signB := by rw [← HN.out, List.take_length]
      rw [hall]
      clear hall
      have hsW := size_mk (x.flatMap Nm.signB)
      have hst : Byts wr (.slice ad x.length cap) x := by
        have := HS.out.below HB.out (Nat.le_refl _)
        rw [← HN.out] at this
        exact this
      have HST := Go.Lib.hid hst
      clear hst
      have hcut0 : ∀ k, Nm.textL (List.replicate (k + 1) x) = (Nm.textL (List.replicate k x) ++ x.flatMap Nm.signB) ++ [46] := fun k => Nm.text_cut
      have HC0 := Go.Lib.hid hcut0
      clear hcut0
      go_wp2_with fail
      go_loopw [6, 9, 10] (fun t v i w2 => ∃ k : Nat, i = .int .i64 k ∧ k ≤ p + 1 ∧ t = .string (mk (Nm.textL (List.replicate k x))) ∧ w2.ownsRow w.heap.size 9 1 v k (encS (List.replicate k x)) ∧ Below w.heap.size w w2) (fun _ _ i _ => p + 1 - (intOf i).toNat)
      case atStart => exact ⟨0, rfl, by omega, rfl, World.ownsRow_nil _ _ _ _, HB.out⟩
      case round =>
        obtain ⟨k, rfl, hk, rfl, hown, hb2⟩ := hrel
        clear HB
        have hbz2 := hb2.size
        have HB := Go.Lib.hid hb2
        have HO := Go.Lib.hid hown
        clear hb2 hown
        have hst := (HS.out.below HB.out (Nat.le_refl _))
        have hcv := run_conv_string hst
        by_cases hlt : k < p + 1
        · have hkl := HTL.out k (by omega)
          have hcc := HC0.out k
          have HCC := Go.Lib.hid hcc
          clear hcc
          clear hst
          generalize hW : x.flatMap Nm.signB = W at *
          generalize hcur : Nm.textL (List.replicate k x) = cur at *
          have HW := Go.Lib.hid hW
          have HCUR := Go.Lib.hid hcur
          clear hW hcur
          have hcat1 : mk cur ++ mk W = mk (cur ++ W) := cat_mk _ _
          have hcat2 : mk (cur ++ W) ++ ⟨#[46]⟩ = mk (cur ++ W ++ [46]) := cat_lit _ _
          have hsc := size_mk cur
          have hsc2 : (mk (cur ++ W)).size = cur.length + W.length := by rw [size_mk, List.length_append]
          have q1 : ¬ 9223372036854775807 < cur.length + W.length := by omega
          have q2 : ¬ 9223372036854775807 < cur.length + W.length + 1 := by omega
          have q3 : (k : Int) < ((p + 1 : Nat) : Int) := by omega
          go_wp2_with (at_builtin; refine wpList_app eiS (.tmp 89) (.tmp 92) rfl rfl w.heap.size rfl rfl (HO.out.alloc _) (slc_new _ 1 1 9 [.string (mk x)] rfl (by decide)) (one_strs [x]) (by unfold maxLen; omega) (by omega) (by simp; omega) ?_; intro v1 w3 hown1 hg1)
          go_roundw
          case rel =>
            refine ⟨k + 1, by go_num, by omega, by rw [HCC.out, List.append_assoc], ?_, below_app (HB.out.alloc hbz2 _) (HO.out.alloc _) hg1 (Nat.le_refl _) (by simp; omega)⟩
            rw [List.replicate_succ', encS_snoc]; exact hown1
          case measure => simp [intOf]; omega
        · obtain rfl : k = p + 1 := by omega
          have hst7 := rep_owned HO.out
          obtain ⟨a7, c7, rfl, _, _⟩ := hst7.slice
          have hj := HJO.out a7 c7 _ hst7
          have hTsz := HTSZ.out
          have hcut := HCUT.out
          rw [List.length_replicate] at hj
          have q3 : ¬ ((p + 1 : Nat) : Int) < ((p + 1 : Nat) : Int) := by omega
          clear hst7 hst hcv HO HS HC0 HTL HJO HTSZ HCUT HST HN
          generalize Nm.textL (List.replicate (p + 1) x) = T at *
          generalize hsc : mk (Nm.textL (List.replicate p x) ++ x.flatMap Nm.signB) = sc at *
          clear hsc
          generalize T.length = tn at *
          generalize mk T = st at *
          obtain ⟨hT1, hT3⟩ := hT2
          have r1 : (1 : Int) ≤ (tn : Int) := by omega
          have r2 : (tn : Int) ≤ 1000 := by omega
          have HJ := Go.Lib.hid hj
          clear hj
          have hss : (st.toList == st.toList) = true := by simp
          have hxx : (sx.toList == sx.toList) = true := by simp
          rw [List.length_replicate]
          go_wp2_with fail
          refine (HJ.out).mono ?_; rintro e wb1 ⟨rfl, hx⟩
          have hb := HB.out.trans (hx.mono HB.out.size)
          clear HB
          have HB := Go.Lib.hid hb
          clear hx hb
          go_wp2_with fail
          refine (HPA.out _).mono ?_; rintro e wb2 ⟨rfl, hx⟩
          have hb := HB.out.trans (hx.mono HB.out.size)
          clear HB
          have HB := Go.Lib.hid hb
          clear hx hb
          go_wp2_with fail
          refine (HPC.out _).mono ?_; rintro e wb3 ⟨rfl, hx⟩
          have hb := HB.out.trans (hx.mono HB.out.size)
          clear HB
          have HB := Go.Lib.hid hb
          clear hx hb
          go_wp2_with fail
          refine (HTX.out _).mono ?_; rintro e wb4 ⟨rfl, hx⟩
          have hb := HB.out.trans (hx.mono HB.out.size)
          clear HB
          have HB := Go.Lib.hid hb
          clear hx hb
          go_wp2_with fail
          refine (AW.out _).mono ?_; rintro e wb5 ⟨rfl, hx⟩
          have hb := HB.out.trans (hx.mono HB.out.size)
          clear HB
          have HB := Go.Lib.hid hb
          clear hx hb
          go_wp2_with fail
          go_ret
          exact ⟨rfl, HB.out⟩

set_option maxRecDepth 100000 in
set_option maxHeartbeats 1000000 in
theorem walk (ad : Option Addr) (x : List UInt8) (cap : Nat) (p : Int) (w : World) (h : Byts w (.slice ad x.length cap) x) (hf : Fits p) :
    Calls Try.prog 10 #[.slice ad x.length cap, .int .i64 p] w fun e w' => e = .returned (.bool true) ∧ Below w.heap.size w w' := by
  have AW := Go.Lib.hid awake_any
  have HB := Go.Lib.hid (Below.refl w.heap.size w)
  by_cases h1 : x.length < 1
  · have q1 : (x.length : Int) < 1 := by omega
    clear h
    generalize x.length = n at *
    go_enter Try.func10, Try.ntmps10
    go_wp2_with fail
    refine (AW.out _).mono ?_; rintro e wb6 ⟨rfl, hx⟩
    have hb := HB.out.trans (hx.mono HB.out.size)
    clear HB
    have HB := Go.Lib.hid hb
    clear hx hb
    go_wp2_with fail
    go_ret
    exact ⟨rfl, HB.out⟩
  · by_cases h2 : 40 < x.length
    · have q1 : ¬ (x.length : Int) < 1 := by omega
      have q2 : 40 < (x.length : Int) := by omega
      clear h
      generalize x.length = n at *
      go_enter Try.func10, Try.ntmps10
      go_wp2_with fail
      refine (AW.out _).mono ?_; rintro e wb7 ⟨rfl, hx⟩
      have hb := HB.out.trans (hx.mono HB.out.size)
      clear HB
      have HB := Go.Lib.hid hb
      clear hx hb
      go_wp2_with fail
      go_ret
      exact ⟨rfl, HB.out⟩
    · by_cases h3 : p < 1
      · have q1 : ¬ (x.length : Int) < 1 := by omega
        have q2 : ¬ 40 < (x.length : Int) := by omega
        clear h
        generalize x.length = n at *
        go_enter Try.func10, Try.ntmps10
        go_wp2_with fail
        refine (AW.out _).mono ?_; rintro e wb8 ⟨rfl, hx⟩
        have hb := HB.out.trans (hx.mono HB.out.size)
        clear HB
        have HB := Go.Lib.hid hb
        clear hx hb
        go_wp2_with fail
        go_ret
        exact ⟨rfl, HB.out⟩
      · by_cases h4 : 4 < p
        · have q1 : ¬ (x.length : Int) < 1 := by omega
          have q2 : ¬ 40 < (x.length : Int) := by omega
          clear h
          generalize x.length = n at *
          go_enter Try.func10, Try.ntmps10
          go_wp2_with fail
          refine (AW.out _).mono ?_; rintro e wb9 ⟨rfl, hx⟩
          have hb := HB.out.trans (hx.mono HB.out.size)
          clear HB
          have HB := Go.Lib.hid hb
          clear hx hb
          go_wp2_with fail
          go_ret
          exact ⟨rfl, HB.out⟩
        · obtain ⟨q, rfl⟩ : ∃ q : Nat, p = ((q + 1 : Nat) : Int) := ⟨(p - 1).toNat, by omega⟩
          exact inner ad x cap q w h (by omega) (by omega) (by omega)

set_option maxRecDepth 100000 in
theorem lifted (os : Os) (started : os.Started) (H : Type) (enc : TypeId × Value → H) :
    ReturnsInHanded {} Try.checked os 10 .any (Rows.nameTextsSpec.pre6 enc Try.prog Try.f10 Rows.nameTextsRow.domain false) (Rows.nameTextsSpec.post enc Try.prog Try.f10 false true false false) := by
  refine returnsInHanded_of_change (C := Try.checked) own started (by kernel_rfl) Try.func10
    (ChangeSpec.witness6 (enc := enc) (C := Try.checked) false ⟨#[], #[.slice none 0 0, .int .i64 0], []⟩ 8 (by kernel_rfl) (by kernel_rfl) (by kernel_rfl) (by kernel_rfl)) ?_
  intro W base args ds gs before hval0 hW hcnd _
  have hval : ∀ (j : Nat) t v, Try.f10.params[j]? = some t → args[j]? = some v → Value.okWide Try.prog W .any base t v := hval0
  refine law_post enc 2 (by kernel_rfl) rfl rfl (by kernel_rfl) (fun ds h => match ds, h with | [_, _], _ => rfl) hW ?_
  obtain ⟨p, q, hA0, hV, rfl, _, _⟩ := hW
  have hA : DataW.TrodAll enc Try.prog W 0 (fun _ => true) true Try.f10.params.toList args.toList ds p := hA0
  rw [Try.params10] at hA hval
  obtain ⟨v0, vs0, d0, ds0, p0, q0, hargs, rfl, rfl, h0, r0⟩ := trodAll_cons hA
  obtain ⟨v1, vs1, d1, ds1, p1, q1, rfl, rfl, rfl, h1, r1⟩ := trodAll_cons r0
  obtain ⟨rfl, rfl, rfl⟩ := trodAll_nil r1
  obtain rfl : args = #[v0, v1] := by cases args; simp_all
  obtain ⟨a0, z0, c0, rfl, w0⟩ := open_Byts Try.underlying44 Try.underlying5 (by kernel_rfl) (hval 0 44 v0 rfl rfl) h0
  obtain ⟨a1, rfl, rfl, rfl, w1⟩ := open_int Try.underlying3 (hval 1 3 v1 rfl rfl) h1
  exact walk a0 z0 c0 a1 W w0 (fits_of_wf w1)

theorem over : Rows.nameTextsRow.holds Try.pinned (OpenSpec.ofChange Rows.nameTextsSpec) :=
  OpenClaim.holds_of_wide 10 Try.f10 rfl rfl rfl rfl rfl rfl rfl ⟨rfl, rfl, rfl, rfl, rfl⟩ rfl rfl rfl rfl rfl (by kernel_rfl) Try.func10 (by kernel_rfl)
    (of_decide_eq_true (by kernel_rfl)) (by unfold Func.isWrapper; first | (rw [if_pos (by decide +kernel)]; kernel_rfl) | (rw [if_neg (by decide +kernel)]; exact ⟨rfl, rfl⟩))
    (fun os started H enc _ => lifted os started H enc)

/-- the statement -/
theorem proved : Rows.NameTextsSaid := over
#print axioms proved
end Go.Proofs.Ytfmhmhekildfbaa.nameTexts

