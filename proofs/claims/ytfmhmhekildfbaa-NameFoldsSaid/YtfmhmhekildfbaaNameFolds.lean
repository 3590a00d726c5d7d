/- NameFolds: folding makes letters small and changes nothing else; what is folded is folded already; names that differ in letters' size alone are the same, and no others of one length. For every input; no conditions. -/
import Derived.Test.YtfmhmhekildfbaaNameX
import Derived.Test.YtfmhmhekildfbaaNmE
namespace Go.Proofs.Ytfmhmhekildfbaa.nameFolds
open Go.ChangeShapes Go.WideShapes Go.ChangeAt Go.RowKit
open Go.ChangeMaps (open_string shut_string)
set_option linter.unusedVariables false

/-- the last part: a byte of the first label turned -/
theorem turned (s : List UInt8) (l : List UInt8) (ls : List (List UInt8)) (h : Nm.valid s = true) (hl : Nm.labs s = l :: ls) (j : Nat) (hj : j < l.length) (c : UInt8) :
    ((mk (Nm.foldN (s.set (1 + j) c))).toList == (mk (Nm.foldB s)).toList) = Nm.sameN s (s.set (1 + j) c) := by
  rw [eqs, Nm.same_iff_fold h (Nm.valid_set h hl j hj c)]

set_option maxRecDepth 100000 in
set_option maxHeartbeats 4000000 in
theorem inner (s : ByteArray) (n : Int) (w : World) (hs : s.size ≤ 300) (hv : Nm.valid (bl s) = true) (hn : Fits n) :
    Calls Try.prog 7 #[.string s, .int .i64 n] w fun e w' => e = .returned (.bool true) ∧ Below w.heap.size w w' := by
  have hm : s.size ≤ maxLen := by unfold maxLen; omega
  have AW := Go.Lib.hid awake_any
  have hva := fun w => valid_any s w hm
  rw [hv] at hva
  have hfo := fun w => Fold_any s w hm
  rw [Nm.foldN_valid hv] at hfo
  have hsz : (mk (Nm.foldB (bl s))).size = s.size := by rw [size_mk, Nm.foldB_length, size_bl]
  have hff := fun w => Fold_any (mk (Nm.foldB (bl s))) w (by rw [hsz]; exact hm)
  rw [bl_mk, Nm.foldN_foldB hv] at hff
  have hsa := fun w => Same_any s (mk (Nm.foldB (bl s))) w hm (by rw [hsz]; exact hm)
  rw [bl_mk, Nm.same_foldB hv] at hsa
  have hrl := fun w => refLabels_any s w
  rw [Nm.refLab_labs hv] at hrl
  have hpt : ∀ k, (h : k < s.size) → (h2 : k < (mk (Nm.foldB (bl s))).size) → ∃ c : UInt8, s[k] = c ∧ (mk (Nm.foldB (bl s)))[k] = Nm.low c := fun k h h2 => by
    refine ⟨s[k], rfl, ?_⟩
    rw [get_bl _ _ h2, get_bl _ _ h]
    simp [bl_mk, Nm.foldB]
  have hq : ¬ 300 < (s.size : Int) := by omega
  have HB := Go.Lib.hid (Below.refl w.heap.size w)
  have hend0 : Nm.labs (bl s) = [] → ∀ w, Calls Try.prog 28 #[.string s, .string ⟨#[0]⟩] w fun e w' => e = .returned (.bool true) ∧ Below w.heap.size w w' := fun hl w => by
    have := Same_any s ⟨#[0]⟩ w hm (by decide)
    rw [show Nm.sameN (bl s) (bl ⟨#[0]⟩) = true from by rw [Nm.root_of_labs hv hl]; decide] at this
    exact this
  have hend1 : ∀ l ls, Nm.labs (bl s) = l :: ls → ∀ j, j < l.length → ∀ c, ∃ b : Bool, (∀ w, Calls Try.prog 28 #[.string s, .string (mk ((bl s).set (1 + j) c))] w fun e w' => e = .returned (.bool b) ∧ Below w.heap.size w w') ∧
      (∀ w, Calls Try.prog 19 #[.string (mk ((bl s).set (1 + j) c))] w fun e w' => e = .returned (.string (mk (Nm.foldN ((bl s).set (1 + j) c)))) ∧ Below w.heap.size w w') ∧
      ((mk (Nm.foldN ((bl s).set (1 + j) c))).toList == (mk (Nm.foldB (bl s))).toList) = b := fun l ls hl j hj c => by
    refine ⟨_, fun w => ?_, fun w => ?_, turned _ l ls hv hl j hj c⟩
    · have := Same_any s (mk ((bl s).set (1 + j) c)) w hm (by rw [size_mk, List.length_set, ← size_bl]; exact hm)
      rw [bl_mk] at this
      exact this
    · have := Fold_any (mk ((bl s).set (1 + j) c)) w (by rw [size_mk, List.length_set, ← size_bl]; exact hm)
      rw [bl_mk] at this
      exact this
  have hfl : ∀ l ls, Nm.labs (bl s) = l :: ls → 1 + l.length < (bl s).length ∧ 1 ≤ l.length ∧ l.length ≤ 63 := fun l ls hl => Nm.first_lt hv hl
  have hcv := fun w => run_conv_bytes s hm w
  have HVA := Go.Lib.hid hva
  have HFO := Go.Lib.hid hfo
  have HFF := Go.Lib.hid hff
  have HSA := Go.Lib.hid hsa
  have HRL := Go.Lib.hid hrl
  have HPT := Go.Lib.hid hpt
  have HE0 := Go.Lib.hid hend0
  have HE1 := Go.Lib.hid hend1
  have HFL := Go.Lib.hid hfl
  have HCV := Go.Lib.hid hcv
  clear hva hfo hff hsa hrl hpt hend0 hend1 hfl hcv
  have HSB := Go.Lib.hid (size_bl s)
  clear hm hv
  generalize mk (Nm.foldB (bl s)) = f at *
  go_enter Try.func7, Try.ntmps7
  go_wp2_with fail
  refine (HVA.out _).mono ?_; rintro e _ ⟨rfl, rfl⟩
  go_wp2_with fail
  refine (HFO.out _).mono ?_; rintro e wb1 ⟨rfl, hx⟩
  have hb := HB.out.trans (hx.mono HB.out.size)
  clear HB
  have HB := Go.Lib.hid hb
  clear hx hb
  go_wp2_with fail
  refine (HFF.out _).mono ?_; rintro e wb2 ⟨rfl, hx⟩
  have hb := HB.out.trans (hx.mono HB.out.size)
  clear HB
  have HB := Go.Lib.hid hb
  clear hx hb
  go_wp2_with fail
  refine (HSA.out _).mono ?_; rintro e wb3 ⟨rfl, hx⟩
  have hb := HB.out.trans (hx.mono HB.out.size)
  clear HB
  have HB := Go.Lib.hid hb
  clear hx hb
  go_wp2_with fail
  go_loop [6] (fun i => ∃ k : Nat, i = .int .i64 k ∧ k ≤ s.size) (fun i => s.size - (intOf i).toNat)
  case atStart => exact ⟨0, rfl, by omega⟩
  case round =>
    obtain ⟨k, rfl, hk⟩ := hrel
    by_cases hlt : k < s.size
    · have hlt2 : k < f.size := by omega
      obtain ⟨c, hc1, hc2⟩ := HPT.out k hlt hlt2
      have hcb := c.toNat_lt
      by_cases hup : 65 ≤ (c.toNat : Int) ∧ (c.toNat : Int) ≤ 90
      · obtain ⟨h1, h2⟩ := hup
        have hlow := low_up h1 h2
        rw [show (c.toNat : Int) + 97 - 65 = (c.toNat : Int) + 32 by omega] at hlow
        go_wp2_with fail
        go_round
        case rel => exact ⟨k + 1, by go_num, by omega⟩
        case measure => simp [intOf]; omega
      · rw [low_no hup] at hc2
        have hor : (c.toNat : Int) < 65 ∨ (65 ≤ (c.toNat : Int) ∧ 90 < (c.toNat : Int)) := by omega
        clear hup
        rcases hor with h | ⟨h1, h2⟩
        all_goals
          go_wp2_with fail
          go_round
          case rel => exact ⟨k + 1, by go_num, by omega⟩
          case measure => simp [intOf]; omega
    · go_wp2_with fail
      refine (HRL.out _).mono ?_; rintro e w5 ⟨v, rfl, hst, hx⟩
      have hb := HB.out.trans (hx.mono HB.out.size)
      clear HB
      have HB := Go.Lib.hid hb
      clear hx hb
      cases hl : Nm.labs (bl s) with
      | nil =>
        rw [hl] at hst
        obtain ⟨a, cap, rfl, _, _⟩ := hst.slice
        have HS := HE0.out hl
        have HSR := Go.Lib.hid HS
        clear HS
        clear hst hl
        go_wp2_with fail
        refine (HSR.out _).mono ?_; rintro e wb4 ⟨rfl, hx⟩
        have hb := HB.out.trans (hx.mono HB.out.size)
        clear HB
        have HB := Go.Lib.hid hb
        clear hx hb
        go_wp2_with fail
        refine (AW.out _).mono ?_; rintro e wb5 ⟨rfl, hx⟩
        have hb := HB.out.trans (hx.mono HB.out.size)
        clear HB
        have HB := Go.Lib.hid hb
        clear hx hb
        go_wp2_with fail
        go_ret
        exact ⟨rfl, HB.out⟩
      | cons l ls =>
        rw [hl] at hst
        obtain ⟨a, cap, rfl, _, _⟩ := hst.slice
        obtain ⟨b, off, rfl, hbw, hcell⟩ := Strs.at hst (by simp)
        have hc0 := hcell 0 (by simp)
        rw [Nat.add_zero] at hc0
        simp only [List.getD_cons_zero] at hc0
        obtain ⟨hf1, hf2, hf3⟩ := HFL.out l ls hl
        have hen := HE1.out l ls hl
        have HEN := Go.Lib.hid hen
        clear hen
        have hrd := fun w => Round_any n l.length w (by omega) (by omega)
        have hp1 : 0 ≤ n % (l.length : Int) := Int.emod_nonneg _ (by omega)
        have hp2 : n % (l.length : Int) < l.length := Int.emod_lt_of_pos _ (by omega)
        obtain ⟨j, hj⟩ : ∃ j : Nat, n % (l.length : Int) = j := ⟨(n % (l.length : Int)).toNat, by omega⟩
        rw [hj] at hrd hp2
        have HRD := Go.Lib.hid hrd
        clear hrd
        clear hst hcell hp1 hj hl HE0 HE1 HFL HRL HPT HSA HFF HVA
        have hsl := size_mk l
        have hm0 : ¬ ((l :: ls).length : Int) = 0 := by simp; omega
        have hm1 : (0 : Int) < ((l :: ls).length : Int) := by simp
        generalize (l :: ls).length = m at *
        go_wp2_with fail
        refine (HRD.out _).mono ?_; rintro e _ ⟨rfl, rfl⟩
        obtain ⟨cp, w6, hrun, hcap, hcm, hrow, hb6, hs6⟩ := HCV.out w5
        have hjb : 1 + j < (bl s).length := by omega
        have hc1 : w6.cell? ⟨w5.heap.size, 1 + j, none⟩ = some (.int .u8 ((bl s)[1 + j]'hjb).toNat) := by
          rw [hrow.cell (by simpa using hjb)]
          simp [hjb]
        have hf1 : w6.frozen? ⟨w5.heap.size, 1 + j, none⟩ = false := hrow.free (by simpa using hjb)
        generalize hcc : (bl s)[1 + j]'hjb = c at *
        have hsb := HSB.out
        have hj2 : ((1 : Int) + (j : Int)) < (s.size : Int) := by omega
        obtain ⟨c', hxr⟩ : ∃ c' : UInt8, bits .xor .u8 (c.toNat : Int) 1 = (c'.toNat : Int) := by
          have h := wf_bits .xor .u8 (c.toNat : Int) 1
          generalize bits .xor .u8 (c.toNat : Int) 1 = x at *
          have h2 : 0 ≤ x ∧ x ≤ 255 := by simpa [Lit.wf, IntKind.min, IntKind.max, IntKind.signed, IntKind.bits] using h
          exact ⟨UInt8.ofNat x.toNat, by simp; omega⟩
        have hby : Byts (w6.setCell ⟨w5.heap.size, 1 + j, none⟩ (.int .u8 c'.toNat)) (.slice (some ⟨w5.heap.size, 0, none⟩) s.size cp) ((bl s).set (1 + j) c') := by
          have h1 := (hrow.set (1 + j) (.int .u8 c'.toNat)).slc (n := s.size) (by simp [hsb]) hcap hcm
          unfold Byts
          rw [List.length_set, ← hsb, List.map_set]
          exact h1
        have hcv2 := run_conv_string hby
        obtain ⟨b2, he1, he2, he3⟩ := HEN.out j (by omega) c'
        have hb := HB.out.trans (hb6.mono HB.out.size)
        have hb := hb.setCell (p := ⟨w5.heap.size, 1 + j, none⟩) HB.out.size (.int .u8 c'.toNat)
        clear HB
        have HB := Go.Lib.hid hb
        clear hb
        have HROW := Go.Lib.hid hrow
        have HB6 := Go.Lib.hid hb6
        have HS6 := Go.Lib.hid hs6
        have HCAP := Go.Lib.hid hcap
        have HCM := Go.Lib.hid hcm
        have HSB2 := Go.Lib.hid hsb
        have HCC := Go.Lib.hid hcc
        have HBY := Go.Lib.hid hby
        have HE1 := Go.Lib.hid he1
        have HE2 := Go.Lib.hid he2
        clear hrow hb6 hs6 hcap hcm hsb hcc hby he1 he2
        generalize mk ((bl s).set (1 + j) c') = o at *
        generalize mk (Nm.foldN ((bl s).set (1 + j) c')) = fo at *
        clear HROW HBY HEN
        go_wp2_with fail
        refine (HE1.out _).mono ?_; rintro e wb6 ⟨rfl, hx⟩
        have hb := HB.out.trans (hx.mono HB.out.size)
        clear HB
        have HB := Go.Lib.hid hb
        clear hx hb
        go_wp2_with fail
        refine (HE2.out _).mono ?_; rintro e wb7 ⟨rfl, hx⟩
        have hb := HB.out.trans (hx.mono HB.out.size)
        clear HB
        have HB := Go.Lib.hid hb
        clear hx hb
        go_wp2_with fail
        refine (AW.out _).mono ?_; rintro e wb8 ⟨rfl, hx⟩
        have hb := HB.out.trans (hx.mono HB.out.size)
        clear HB
        have HB := Go.Lib.hid hb
        clear hx hb
        go_wp2_with fail
        go_ret
        exact ⟨rfl, HB.out⟩

set_option maxRecDepth 100000 in
set_option maxHeartbeats 1000000 in
theorem walk (s : ByteArray) (n : Int) (w : World) (hs : s.size ≤ maxLen) (hn : Fits n) :
    Calls Try.prog 7 #[.string s, .int .i64 n] w fun e w' => e = .returned (.bool true) ∧ Below w.heap.size w w' := by
  have AW := Go.Lib.hid awake_any
  have HB := Go.Lib.hid (Below.refl w.heap.size w)
  by_cases h1 : s.size ≤ 300
  · cases hv : Nm.valid (bl s) with
    | true => exact inner s n w h1 hv hn
    | false =>
      have hva := valid_any s w hs
      rw [hv] at hva
      have hq : ¬ 300 < (s.size : Int) := by omega
      have HVA := Go.Lib.hid hva
      clear hva
      clear hs hv h1
      go_enter Try.func7, Try.ntmps7
      go_wp2_with fail
      refine (HVA.out).mono ?_; rintro e _ ⟨rfl, rfl⟩
      go_wp2_with fail
      refine (AW.out _).mono ?_; rintro e wb9 ⟨rfl, hx⟩
      have hb := HB.out.trans (hx.mono HB.out.size)
      clear HB
      have HB := Go.Lib.hid hb
      clear hx hb
      go_wp2_with fail
      go_ret
      exact ⟨rfl, HB.out⟩
  · have hq : 300 < (s.size : Int) := by omega
    clear hs h1
    go_enter Try.func7, Try.ntmps7
    go_wp2_with fail
    refine (AW.out _).mono ?_; rintro e wb10 ⟨rfl, hx⟩
    have hb := HB.out.trans (hx.mono HB.out.size)
    clear HB
    have HB := Go.Lib.hid hb
    clear hx hb
    go_wp2_with fail
    go_ret
    exact ⟨rfl, HB.out⟩

set_option maxRecDepth 100000 in
theorem lifted (os : Os) (started : os.Started) (H : Type) (enc : TypeId × Value → H) :
    ReturnsInHanded {} Try.checked os 7 .any (Rows.nameFoldsSpec.pre6 enc Try.prog Try.f7 Rows.nameFoldsRow.domain false) (Rows.nameFoldsSpec.post enc Try.prog Try.f7 false true false false) := by
  refine returnsInHanded_of_change (C := Try.checked) own started (by kernel_rfl) Try.func7
    (ChangeSpec.witness6 (enc := enc) (C := Try.checked) false ⟨#[], #[.string ⟨#[]⟩, .int .i64 0], []⟩ 8 (by kernel_rfl) (by kernel_rfl) (by kernel_rfl) (by kernel_rfl)) ?_
  intro W base args ds gs before hval0 hW hcnd _
  have hval : ∀ (j : Nat) t v, Try.f7.params[j]? = some t → args[j]? = some v → Value.okWide Try.prog W .any base t v := hval0
  refine law_post enc 2 (by kernel_rfl) rfl rfl (by kernel_rfl) (fun ds h => match ds, h with | [_, _], _ => rfl) hW ?_
  obtain ⟨p, q, hA0, hV, rfl, _, _⟩ := hW
  have hA : DataW.TrodAll enc Try.prog W 0 (fun _ => true) true Try.f7.params.toList args.toList ds p := hA0
  rw [Try.params7] at hA hval
  obtain ⟨v0, vs0, d0, ds0, p0, q0, hargs, rfl, rfl, h0, r0⟩ := trodAll_cons hA
  obtain ⟨v1, vs1, d1, ds1, p1, q1, rfl, rfl, rfl, h1, r1⟩ := trodAll_cons r0
  obtain ⟨rfl, rfl, rfl⟩ := trodAll_nil r1
  obtain rfl : args = #[v0, v1] := by cases args; simp_all
  obtain ⟨s0, rfl, rfl, rfl, w0⟩ := open_string Try.underlying9 (hval 0 9 v0 rfl rfl) h0
  obtain ⟨a1, rfl, rfl, rfl, w1⟩ := open_int Try.underlying3 (hval 1 3 v1 rfl rfl) h1
  exact walk s0 a1 W w0 (fits_of_wf w1)

theorem over : Rows.nameFoldsRow.holds Try.pinned (OpenSpec.ofChange Rows.nameFoldsSpec) :=
  OpenClaim.holds_of_wide 7 Try.f7 rfl rfl rfl rfl rfl rfl rfl ⟨rfl, rfl, rfl, rfl, rfl⟩ rfl rfl rfl rfl rfl (by kernel_rfl) Try.func7 (by kernel_rfl)
    (of_decide_eq_true (by kernel_rfl)) (by unfold Func.isWrapper; first | (rw [if_pos (by decide +kernel)]; kernel_rfl) | (rw [if_neg (by decide +kernel)]; exact ⟨rfl, rfl⟩))
    (fun os started H enc _ => lifted os started H enc)

/-- the statement -/
theorem proved : Rows.NameFoldsSaid := over
#print axioms proved
end Go.Proofs.Ytfmhmhekildfbaa.nameFolds

