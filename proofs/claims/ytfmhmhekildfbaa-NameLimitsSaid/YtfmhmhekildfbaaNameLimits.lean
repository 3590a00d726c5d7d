/- NameLimits: labels of up to 63 bytes, and names of up to 255, may be, and not one byte more. For every input; no conditions. -/
import Derived.Test.YtfmhmhekildfbaaNameX
import Derived.Test.YtfmhmhekildfbaaNmE
import Derived.OwnWalk
import Derived.Laws.OwnMore
namespace Go.Proofs.Ytfmhmhekildfbaa.nameLimits
open Go.ChangeShapes Go.WideShapes Go.ChangeAt Go.RowKit
open Go.ChangeMaps (open_string shut_string)
set_option linter.unusedVariables false

theorem byteI : (Try.prog.info? 5).map (fun i => (i.zero, i.size, i.bytes)) = some (some (.int .u8 0), 1, 1) := by kernel_rfl

/-- noughts made, and turned into a text -/
theorem zeros (w : World) (base r : Nat) (hb : base ≤ w.heap.size) (hr : r ≤ 65) :
    ∃ w', (Instr.makeSlice 44 (.int .i64 (r : Int)) (.int .i64 (r : Int))).run Try.prog w = .ok (.slice (some ⟨w.heap.size, 0, none⟩) r r) w' ∧
      (convert 44 9 (.slice (some ⟨w.heap.size, 0, none⟩) r r)).run Try.prog w' = .ok (.string (mk (List.replicate r 0))) w' ∧ w.grownBy w' none := by
  obtain ⟨i0, hi, hz0, hz1, hz2⟩ := info_parts byteI
  obtain ⟨w', h1, h2, h3⟩ := run_make_full (P := Try.prog) (w := w) base 44 5 i0 (.int .u8 0) 1 Try.underlying44 hi hz0 hz1 .i64 .i64 r (by rw [hz2]; omega) (by unfold maxLen; omega) hb
  refine ⟨w', h1, ?_, h3⟩
  refine conv_string (e := 5) ?_ Try.underlying44 Try.underlying5 Try.underlying9
  have h4 := SlC.of_owns h2
  rw [show (Value.int .u8 0).cells = #[.int .u8 0] from rfl, toList_madeCells_one, Nat.mul_one] at h4
  unfold Byts
  rw [List.length_replicate, List.map_replicate]
  exact h4

set_option maxRecDepth 100000 in
set_option maxHeartbeats 4000000 in
theorem walk (ad : Option Addr) (zs : List Int) (cap : Nat) (w : World) (h : Ints w (.slice ad zs.length cap) zs) (hf : ∀ n ∈ zs, Fits n) :
    Calls Try.prog 9 #[.slice ad zs.length cap] w fun e w' => e = .returned (.bool true) ∧ Below w.heap.size w w' := by
  have AW := Go.Lib.hid awake_any
  have HB := Go.Lib.hid (Below.refl w.heap.size w)
  have HS := Go.Lib.hid h
  clear h hf
  generalize hm : zs.length = m at *
  have HM := Go.Lib.hid hm
  clear hm
  by_cases h8 : m ≤ 8
  · have hq : ¬ 8 < (m : Int) := by omega
    go_enter Try.func9, Try.ntmps9
    go_wp2_with fail
    go_loopw [3, 4, 5, 6] (fun v n g i wr => ∃ (k W : Nat) (ls : List (List UInt8)) (b : Bool), i = .int .i64 k ∧ k ≤ m ∧ g = .bool b ∧ b = Nm.goodB ls ∧ n = .int .i64 W ∧ W = (Nm.wire ls).length ∧ W ≤ 1 + 66 * k ∧ 1 ≤ W ∧ ls.length = k ∧ (∀ x ∈ ls, x.length ≤ 65) ∧ wr.ownsRow w.heap.size 9 1 v ls.length (encS ls) ∧ Below w.heap.size w wr) (fun _ _ _ i _ => m - (intOf i).toNat)
    case atStart => exact ⟨0, 1, [], true, rfl, by omega, rfl, rfl, rfl, rfl, by omega, by omega, rfl, by simp, World.ownsRow_nil _ _ _ _, HB.out⟩
    case round =>
      obtain ⟨k, W, ls, b, rfl, hk, rfl, hb, rfl, hW, hW2, hW3, hll, hlx, hown, hbel⟩ := hrel
      clear HB
      have hbz := hbel.size
      have HG := Go.Lib.hid hb
      have HW := Go.Lib.hid hW
      have HLL := Go.Lib.hid hll
      have HLX := Go.Lib.hid hlx
      have HO := Go.Lib.hid hown
      have HB := Go.Lib.hid hbel
      clear hb hW hll hlx hown hbel
      by_cases hlt : k < m
      · have hst := HS.out.below HB.out (Nat.le_refl _)
        rw [← HM.out] at hst
        obtain ⟨bb, off, rfl, hbw, hcell⟩ := Ints.at hst (by rw [HM.out]; omega)
        have hc := hcell k (by rw [HM.out]; exact hlt)
        clear hcell hst
        generalize zs.getD k 0 = a at *
        have hrd := fun w => Round_any a 66 w (by omega) (by omega)
        have hp1 : 0 ≤ a % 66 := Int.emod_nonneg _ (by omega)
        have hp2 : a % 66 < 66 := Int.emod_lt_of_pos _ (by omega)
        obtain ⟨r, hr⟩ : ∃ r : Nat, a % 66 = r := ⟨(a % 66).toNat, by omega⟩
        rw [hr] at hrd hp2
        have HRD := Go.Lib.hid hrd
        clear hrd
        clear hp1 hr
        obtain ⟨w1, hz1, hz2, hz3⟩ := zeros wr w.heap.size r hbz (by omega)
        have ho1 := HO.out.kept hz3 (by cases Value.ownBlock _ <;> simp)
        have hb1 : Below w.heap.size w w1 := HB.out.grown hz3 hbz (by simp)
        have hw1 := hb1.size
        have HO1 := Go.Lib.hid ho1
        have HB1 := Go.Lib.hid hb1
        clear ho1 hb1
        clear hz3
        have hlen : (List.replicate r (0 : UInt8)).length = r := by simp
        have hgs := Nm.goodB_snoc ls (List.replicate r 0)
        have hws := Nm.wire_snoc_length ls (List.replicate r 0)
        rw [hlen] at hgs hws
        rw [← HW.out] at hws
        rw [← HG.out] at hgs
        have hrel2 : ∀ x ∈ ls ++ [List.replicate r (0 : UInt8)], x.length ≤ 65 := fun x hx => by
          rcases List.mem_append.1 hx with h | h
          · exact HLX.out x h
          · simp at h; subst h; omega
        have HGS := Go.Lib.hid hgs
        have HWS := Go.Lib.hid hws
        have HREL := Go.Lib.hid hrel2
        have HLEN := Go.Lib.hid hlen
        clear hgs hws hrel2 hlen
        generalize List.replicate r (0 : UInt8) = x at *
        have hcs : (b = false) ∨ (b = true ∧ (r : Int) < 1) ∨ (b = true ∧ 1 ≤ (r : Int) ∧ 63 < (r : Int)) ∨ (b = true ∧ 1 ≤ (r : Int) ∧ (r : Int) ≤ 63) := by
          cases b
          · exact .inl rfl
          · right
            by_cases h1 : (r : Int) < 1
            · exact .inl ⟨rfl, h1⟩
            · by_cases h2 : (r : Int) ≤ 63
              · exact .inr (.inr ⟨rfl, by omega, h2⟩)
              · exact .inr (.inl ⟨rfl, by omega, by omega⟩)
        clear HLX
        rcases hcs with rfl | ⟨rfl, h1⟩ | ⟨rfl, h1, h2⟩ | ⟨rfl, h1, h2⟩
        all_goals
          go_wp2_with (first | (go_at_call 36; refine (HRD.out _).mono ?_; rintro e _ ⟨rfl, rfl⟩) | (at_builtin; refine wpList_app eiS (.tmp 25) (.tmp 29) rfl rfl w.heap.size rfl rfl (HO1.out.alloc _) (slc_new _ 1 1 9 [.string (mk x)] rfl (by decide)) (one_strs [x]) (by rw [HLL.out]; unfold maxLen; omega) (by rw [HLL.out]; omega) (by simp; omega) ?_; intro v1 w2 hown1 hg1))
          go_roundw
          case rel =>
            refine ⟨k + 1, W + 1 + r, ls ++ [x], _, by go_num, by omega, rfl, ?_, by go_num, HWS.out.symm, by omega, by omega, by rw [List.length_append, HLL.out]; rfl, HREL.out, by rw [List.length_append, encS_snoc]; exact hown1, below_app (HB1.out.alloc hw1 _) (HO1.out.alloc _) hg1 (Nat.le_refl _) (by simp; omega)⟩
            rw [HGS.out]
            by_cases q1 : 1 ≤ r <;> by_cases q2 : r ≤ 63 <;> first | (simp [q1, q2]; done) | (simp [q1, q2]; omega) | (exfalso; omega)
          case measure => simp [intOf]; omega
      · obtain rfl : k = m := by omega
        have hst := strs_owned HO.out
        obtain ⟨a7, c7, rfl, _, _⟩ := hst.slice
        have hjn := Join_any a7 c7 ls wr hst (by rw [HLL.out]; omega) (fun x hx => Nat.le_trans (HLX.out x hx) (by decide))
        have hsz : (mk (Nm.wire ls)).size = W := by rw [size_mk, HW.out]
        rw [HG.out]
        have hWi := HW.out
        by_cases hg : (Nm.goodB ls && decide ((Nm.wire ls).length ≤ 255)) = true
        · obtain ⟨hj1, hj2, hj3⟩ := Nm.joinN_yes hg
          rw [hj1] at hjn
          rw [← hWi] at hj3
          have hg1 : Nm.goodB ls = true := by rw [Bool.and_eq_true] at hg; exact hg.1
          rw [hg1]
          have hws : (mk (Nm.wire ls)).size ≤ maxLen := by rw [hsz]; unfold maxLen; omega
          have hv1 := fun w => valid_any (mk (Nm.wire ls)) w hws
          rw [bl_mk, Nm.valid_wire hj2 (by rw [← hWi]; exact hj3)] at hv1
          have hcat : mk (Nm.wire ls) ++ ⟨#[0]⟩ = mk (Nm.wire ls ++ [0]) := cat_lit _ [0]
          have hv2 := fun w => valid_any (mk (Nm.wire ls ++ [0])) w (by rw [size_mk, List.length_append, ← hWi]; unfold maxLen; simp; omega)
          rw [bl_mk, Nm.wire_more hj2] at hv2
          have hex : (mk (Nm.wire ls)).extract 0 (W - 1) = mk (Nm.pre ls) := by
            apply bl_inj
            rw [bl_extract, bl_mk, bl_mk, List.drop_zero, Nat.sub_zero, hWi, Nm.wire_take]
          have hv3 := fun w => valid_any (mk (Nm.pre ls)) w (by rw [size_mk]; have := Nm.wire_len ls; unfold maxLen; omega)
          rw [bl_mk, Nm.wire_less hj2] at hv3
          have q1 : ¬ 9223372036854775807 < W + 1 := by omega
          unfold nameEnd at hjn
          simp only [Option.getD_some, Option.isSome_some] at hjn
          have HJN := Go.Lib.hid hjn
          have HV1 := Go.Lib.hid hv1
          have HV2 := Go.Lib.hid hv2
          have HV3 := Go.Lib.hid hv3
          clear hjn hv1 hv2 hv3
          have hj4 : (W : Int) ≤ 255 := by omega
          clear hst hj1 hj2 hg hg1 hWi HW HO HLX HLL HG HS HM
          generalize mk (Nm.pre ls) = sp at *
          generalize mk (Nm.wire ls ++ [0]) = sm at *
          generalize mk (Nm.wire ls) = sw at *
          generalize ls.length = LL at *
          go_wp2_with fail
          refine HJN.out.mono ?_; rintro e w5 ⟨rfl, hx⟩
          have hb := HB.out.trans (hx.mono HB.out.size)
          clear HB
          have HB := Go.Lib.hid hb
          clear hx hb
          go_wp2_with fail
          refine (HV1.out _).mono ?_; rintro e _ ⟨rfl, rfl⟩
          go_wp2_with fail
          refine (HV2.out _).mono ?_; rintro e _ ⟨rfl, rfl⟩
          go_wp2_with fail
          refine (HV3.out _).mono ?_; rintro e _ ⟨rfl, rfl⟩
          go_wp2_with fail
          refine (AW.out _).mono ?_; rintro e wb1 ⟨rfl, hx⟩
          have hb := HB.out.trans (hx.mono HB.out.size)
          clear HB
          have HB := Go.Lib.hid hb
          clear hx hb
          go_wp2_with fail
          go_ret
          exact ⟨rfl, HB.out⟩
        · have hj1 := Nm.joinN_no (ls := ls) (by simpa using hg)
          rw [hj1] at hjn
          have hcs : Nm.goodB ls = false ∨ (Nm.goodB ls = true ∧ decide ((W : Int) ≤ 255) = false) := by
            rw [← hWi] at hg
            cases hgb : Nm.goodB ls with
            | false => exact .inl rfl
            | true =>
              rw [hgb] at hg
              simp at hg
              exact .inr ⟨rfl, decide_eq_false (by omega)⟩
          have he : ((mk []).toList == []) = true := by rw [toList_bl, bl_mk]; rfl
          have HJN := Go.Lib.hid hjn
          clear hjn
          clear hst hj1 hg hWi HW HO HLX HLL HG HS HM hsz
          generalize Nm.goodB ls = gb at *
          generalize ls.length = LL at *
          rcases hcs with rfl | ⟨rfl, h255⟩
          all_goals
            go_wp2_with fail
            refine (HJN.out).mono ?_; rintro e wb2 ⟨rfl, hx⟩
            have hb := HB.out.trans (hx.mono HB.out.size)
            clear HB
            have HB := Go.Lib.hid hb
            clear hx hb
            unfold nameEnd
            simp only [Option.getD_none, Option.isSome_none]
            go_wp2_with fail
            refine (AW.out _).mono ?_; rintro e wb3 ⟨rfl, hx⟩
            have hb := HB.out.trans (hx.mono HB.out.size)
            clear HB
            have HB := Go.Lib.hid hb
            clear hx hb
            go_wp2_with fail
            go_ret
            exact ⟨rfl, HB.out⟩
  · have hq : 8 < (m : Int) := by omega
    go_enter Try.func9, Try.ntmps9
    go_wp2_with fail
    refine (AW.out _).mono ?_; rintro e wb4 ⟨rfl, hx⟩
    have hb := HB.out.trans (hx.mono HB.out.size)
    clear HB
    have HB := Go.Lib.hid hb
    clear hx hb
    go_wp2_with fail
    go_ret
    exact ⟨rfl, HB.out⟩

set_option maxRecDepth 100000 in
theorem lifted (os : Os) (started : os.Started) (H : Type) (enc : TypeId × Value → H) :
    ReturnsInHanded {} Try.checked os 9 .any (Rows.nameLimitsSpec.pre6 enc Try.prog Try.f9 Rows.nameLimitsRow.domain false) (Rows.nameLimitsSpec.post enc Try.prog Try.f9 false true false false) := by
  refine returnsInHanded_of_change (C := Try.checked) own started (by kernel_rfl) Try.func9
    (ChangeSpec.witness6 (enc := enc) (C := Try.checked) false ⟨#[], #[.slice none 0 0], []⟩ 8 (by kernel_rfl) (by kernel_rfl) (by kernel_rfl) (by kernel_rfl)) ?_
  intro W base args ds gs before hval0 hW hcnd _
  have hval : ∀ (j : Nat) t v, Try.f9.params[j]? = some t → args[j]? = some v → Value.okWide Try.prog W .any base t v := hval0
  refine law_post enc 1 (by kernel_rfl) rfl rfl (by kernel_rfl) (fun ds h => match ds, h with | [_], _ => rfl) hW ?_
  obtain ⟨p, q, hA0, hV, rfl, _, _⟩ := hW
  have hA : DataW.TrodAll enc Try.prog W 0 (fun _ => true) true Try.f9.params.toList args.toList ds p := hA0
  rw [Try.params9] at hA hval
  obtain ⟨v0, vs0, d0, ds0, p0, q0, hargs, rfl, rfl, h0, r0⟩ := trodAll_cons hA
  obtain ⟨rfl, rfl, rfl⟩ := trodAll_nil r0
  obtain rfl : args = #[v0] := by cases args; simp_all
  obtain ⟨a0, z0, c0, rfl, w0, f0⟩ := open_Ints Try.underlying47 Try.underlying3 (by kernel_rfl) (hval 0 47 v0 rfl rfl) h0
  exact walk a0 z0 c0 W w0 f0

theorem over : Rows.nameLimitsRow.holds Try.pinned (OpenSpec.ofChange Rows.nameLimitsSpec) :=
  OpenClaim.holds_of_wide 9 Try.f9 rfl rfl rfl rfl rfl rfl rfl ⟨rfl, rfl, rfl, rfl, rfl⟩ rfl rfl rfl rfl rfl (by kernel_rfl) Try.func9 (by kernel_rfl)
    (of_decide_eq_true (by kernel_rfl)) (by unfold Func.isWrapper; first | (rw [if_pos (by decide +kernel)]; kernel_rfl) | (rw [if_neg (by decide +kernel)]; exact ⟨rfl, rfl⟩))
    (fun os started H enc _ => lifted os started H enc)

/-- the statement -/
theorem proved : Rows.NameLimitsSaid := over
#print axioms proved
end Go.Proofs.Ytfmhmhekildfbaa.nameLimits

