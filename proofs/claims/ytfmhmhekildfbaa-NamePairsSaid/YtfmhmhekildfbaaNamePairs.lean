/- NamePairs: of any two, whether they are the same, one is under the other, stands ahead of it, and what they have in common, is as the document says; and what labels are joined to. For every input; no conditions. -/
import Derived.Test.YtfmhmhekildfbaaNameX
namespace Go.Proofs.Ytfmhmhekildfbaa.namePairs
open Go.ChangeShapes Go.WideShapes Go.ChangeAt Go.RowKit
open Go.ChangeMaps (open_string shut_string)
set_option linter.unusedVariables false

theorem ends (o : Option (List UInt8)) : ∃ (m : ByteArray) (k : Int) (b : Bool), nameEnd o = .returned (.tuple #[.string m, .int .i64 k]) ∧ refEnd o = .returned (.tuple #[.string m, .bool b]) ∧ ((k = 0 ∧ b = true) ∨ (k = 2 ∧ b = false)) := by
  cases o with
  | none => exact ⟨_, _, _, rfl, rfl, .inr ⟨rfl, rfl⟩⟩
  | some n => exact ⟨_, _, _, rfl, rfl, .inl ⟨rfl, rfl⟩⟩

set_option maxRecDepth 100000 in
set_option maxHeartbeats 4000000 in
theorem walk (s t : ByteArray) (ad : Option Addr) (l : List (List UInt8)) (cap : Nat) (w : World) (hs : s.size ≤ maxLen) (ht : t.size ≤ maxLen) (h : Strs w (.slice ad l.length cap) l) (hl : ∀ x ∈ l, x.length ≤ maxLen) :
    Calls Try.prog 4 #[.string s, .string t, .slice ad l.length cap] w fun e w' => e = .returned (.bool true) ∧ Below w.heap.size w w' := by
  have AW := Go.Lib.hid awake_any
  have hsh := Short_any l ad cap 500
  have HH := Go.Lib.hid h
  have HLL := Go.Lib.hid hl
  have hsh2 := fun (_ : Unit) => hsh w HH.out (by decide) HLL.out
  clear h hl hsh
  by_cases h1 : 300 < s.size
  · have e1 : 300 < (s.size : Int) := by omega
    clear hs ht hsh2
    generalize l.length = n at *
    go_enter Try.func4, Try.ntmps4
    go_wp2_with fail
    refine (AW.out _).mono ?_; rintro e w1 ⟨rfl, hb⟩
    go_wp2_with fail
    go_ret
    exact ⟨rfl, hb⟩
  · have e1 : ¬ 300 < (s.size : Int) := by omega
    by_cases h2 : 300 < t.size
    · have e2 : 300 < (t.size : Int) := by omega
      clear hs ht hsh2
      generalize l.length = n at *
      go_enter Try.func4, Try.ntmps4
      go_wp2_with fail
      refine (AW.out _).mono ?_; rintro e w1 ⟨rfl, hb⟩
      go_wp2_with fail
      go_ret
      exact ⟨rfl, hb⟩
    · have e2 : ¬ 300 < (t.size : Int) := by omega
      by_cases h3 : l.length + sumL l ≤ 500
      · have hsh := hsh2 ()
        rw [decide_eq_true h3] at hsh
        have hj := Join_any ad cap l w HH.out (by omega) HLL.out
        have hrj := fun w1 (hb : Below w.heap.size w w1) => refJoin_any ad cap l w1 (HH.out.below hb (Nat.le_refl _)) (by omega)
        obtain ⟨m, k, bb, x1, x2, x3⟩ := ends (Nm.joinN l)
        rw [x1] at hj
        rw [x2] at hrj
        have HSH := Go.Lib.hid (fun (_ : Unit) => hsh)
        have HJ := Go.Lib.hid hj
        have HRJ := Go.Lib.hid hrj
        have HSA := Go.Lib.hid fun w => Same_any s t w hs ht
        have HRSA := Go.Lib.hid fun w => refSame_any s t w hs ht
        have HUN := Go.Lib.hid fun w => Under_any s t w hs ht
        have HRUN := Go.Lib.hid fun w => refUnder_any s t w hs ht
        have HLE := Go.Lib.hid fun w => Less_any s t w hs ht
        have HRLE := Go.Lib.hid fun w => refLess_any s t w hs ht
        have HCO := Go.Lib.hid fun w => Common_any s t w hs ht
        have HRCO := Go.Lib.hid fun w => refCommon_any s t w ht
        clear hs ht hsh hsh2 hj hrj x1 x2 h3
        generalize Nm.sameN (bl s) (bl t) = z1 at *
        generalize Nm.underN (bl s) (bl t) = z2 at *
        generalize Nm.lessN (bl s) (bl t) = z3 at *
        generalize mk (Nm.commonN (bl s) (bl t)) = z4 at *
        generalize l.length = n at *
        rcases x3 with ⟨rfl, rfl⟩ | ⟨rfl, rfl⟩
        · go_enter Try.func4, Try.ntmps4
          go_wp2_with fail
          refine (HSH.out ()).mono ?_; rintro e w' ⟨rfl, rfl⟩
          go_wp2_with fail
          refine HJ.out.mono ?_; rintro e w1 ⟨rfl, hb1⟩
          have HB := Go.Lib.hid hb1
          clear hb1
          go_wp2_with fail
          refine (HRJ.out _ HB.out).mono ?_; rintro e w2 ⟨rfl, hx⟩
          have hb := HB.out.trans (hx.mono HB.out.size)
          clear HB
          have HB := Go.Lib.hid hb
          clear hx hb
          go_wp2_with fail
          refine (HSA.out _).mono ?_; rintro e w3 ⟨rfl, hx⟩
          have hb := HB.out.trans (hx.mono HB.out.size)
          clear HB
          have HB := Go.Lib.hid hb
          clear hx hb
          go_wp2_with fail
          refine (HRSA.out _).mono ?_; rintro e w4 ⟨rfl, hx⟩
          have hb := HB.out.trans (hx.mono HB.out.size)
          clear HB
          have HB := Go.Lib.hid hb
          clear hx hb
          go_wp2_with fail
          refine (HUN.out _).mono ?_; rintro e w5 ⟨rfl, hx⟩
          have hb := HB.out.trans (hx.mono HB.out.size)
          clear HB
          have HB := Go.Lib.hid hb
          clear hx hb
          go_wp2_with fail
          refine (HRUN.out _).mono ?_; rintro e w6 ⟨rfl, hx⟩
          have hb := HB.out.trans (hx.mono HB.out.size)
          clear HB
          have HB := Go.Lib.hid hb
          clear hx hb
          go_wp2_with fail
          refine (HLE.out _).mono ?_; rintro e w7 ⟨rfl, hx⟩
          have hb := HB.out.trans (hx.mono HB.out.size)
          clear HB
          have HB := Go.Lib.hid hb
          clear hx hb
          go_wp2_with fail
          refine (HRLE.out _).mono ?_; rintro e w8 ⟨rfl, hx⟩
          have hb := HB.out.trans (hx.mono HB.out.size)
          clear HB
          have HB := Go.Lib.hid hb
          clear hx hb
          go_wp2_with fail
          refine (HCO.out _).mono ?_; rintro e w9 ⟨rfl, hx⟩
          have hb := HB.out.trans (hx.mono HB.out.size)
          clear HB
          have HB := Go.Lib.hid hb
          clear hx hb
          go_wp2_with fail
          refine (HRCO.out _).mono ?_; rintro e w10 ⟨rfl, hx⟩
          have hb := HB.out.trans (hx.mono HB.out.size)
          clear HB
          have HB := Go.Lib.hid hb
          clear hx hb
          go_wp2_with fail
          refine (AW.out _).mono ?_; rintro e w11 ⟨rfl, hx⟩
          have hb := HB.out.trans (hx.mono HB.out.size)
          clear HB
          have HB := Go.Lib.hid hb
          clear hx hb
          go_wp2_with fail
          go_ret
          exact ⟨rfl, HB.out⟩
        · go_enter Try.func4, Try.ntmps4
          go_wp2_with fail
          refine (HSH.out ()).mono ?_; rintro e w' ⟨rfl, rfl⟩
          go_wp2_with fail
          refine HJ.out.mono ?_; rintro e w1 ⟨rfl, hb1⟩
          have HB := Go.Lib.hid hb1
          clear hb1
          go_wp2_with fail
          refine (HRJ.out _ HB.out).mono ?_; rintro e w2 ⟨rfl, hx⟩
          have hb := HB.out.trans (hx.mono HB.out.size)
          clear HB
          have HB := Go.Lib.hid hb
          clear hx hb
          go_wp2_with fail
          refine (HSA.out _).mono ?_; rintro e w3 ⟨rfl, hx⟩
          have hb := HB.out.trans (hx.mono HB.out.size)
          clear HB
          have HB := Go.Lib.hid hb
          clear hx hb
          go_wp2_with fail
          refine (HRSA.out _).mono ?_; rintro e w4 ⟨rfl, hx⟩
          have hb := HB.out.trans (hx.mono HB.out.size)
          clear HB
          have HB := Go.Lib.hid hb
          clear hx hb
          go_wp2_with fail
          refine (HUN.out _).mono ?_; rintro e w5 ⟨rfl, hx⟩
          have hb := HB.out.trans (hx.mono HB.out.size)
          clear HB
          have HB := Go.Lib.hid hb
          clear hx hb
          go_wp2_with fail
          refine (HRUN.out _).mono ?_; rintro e w6 ⟨rfl, hx⟩
          have hb := HB.out.trans (hx.mono HB.out.size)
          clear HB
          have HB := Go.Lib.hid hb
          clear hx hb
          go_wp2_with fail
          refine (HLE.out _).mono ?_; rintro e w7 ⟨rfl, hx⟩
          have hb := HB.out.trans (hx.mono HB.out.size)
          clear HB
          have HB := Go.Lib.hid hb
          clear hx hb
          go_wp2_with fail
          refine (HRLE.out _).mono ?_; rintro e w8 ⟨rfl, hx⟩
          have hb := HB.out.trans (hx.mono HB.out.size)
          clear HB
          have HB := Go.Lib.hid hb
          clear hx hb
          go_wp2_with fail
          refine (HCO.out _).mono ?_; rintro e w9 ⟨rfl, hx⟩
          have hb := HB.out.trans (hx.mono HB.out.size)
          clear HB
          have HB := Go.Lib.hid hb
          clear hx hb
          go_wp2_with fail
          refine (HRCO.out _).mono ?_; rintro e w10 ⟨rfl, hx⟩
          have hb := HB.out.trans (hx.mono HB.out.size)
          clear HB
          have HB := Go.Lib.hid hb
          clear hx hb
          go_wp2_with fail
          refine (AW.out _).mono ?_; rintro e w11 ⟨rfl, hx⟩
          have hb := HB.out.trans (hx.mono HB.out.size)
          clear HB
          have HB := Go.Lib.hid hb
          clear hx hb
          go_wp2_with fail
          go_ret
          exact ⟨rfl, HB.out⟩
      · have hsh := hsh2 ()
        rw [decide_eq_false h3] at hsh
        have HSH := Go.Lib.hid (fun (_ : Unit) => hsh)
        clear hs ht hsh hsh2 h3
        generalize l.length = n at *
        go_enter Try.func4, Try.ntmps4
        go_wp2_with fail
        refine (HSH.out ()).mono ?_; rintro e w' ⟨rfl, rfl⟩
        go_wp2_with fail
        refine (AW.out _).mono ?_; rintro e w1 ⟨rfl, hb⟩
        go_wp2_with fail
        go_ret
        exact ⟨rfl, hb⟩

set_option maxRecDepth 100000 in
theorem lifted (os : Os) (started : os.Started) (H : Type) (enc : TypeId × Value → H) :
    ReturnsInHanded {} Try.checked os 4 .any (Rows.namePairsSpec.pre6 enc Try.prog Try.f4 Rows.namePairsRow.domain false) (Rows.namePairsSpec.post enc Try.prog Try.f4 false true false false) := by
  refine returnsInHanded_of_change (C := Try.checked) own started (by kernel_rfl) Try.func4
    (ChangeSpec.witness6 (enc := enc) (C := Try.checked) false ⟨#[], #[.string ⟨#[]⟩, .string ⟨#[]⟩, .slice none 0 0], []⟩ 8 (by kernel_rfl) (by kernel_rfl) (by kernel_rfl) (by kernel_rfl)) ?_
  intro W base args ds gs before hval0 hW hcnd _
  have hval : ∀ (j : Nat) t v, Try.f4.params[j]? = some t → args[j]? = some v → Value.okWide Try.prog W .any base t v := hval0
  refine law_post enc 3 (by kernel_rfl) rfl rfl (by kernel_rfl) (fun ds h => match ds, h with | [_, _, _], _ => rfl) hW ?_
  obtain ⟨p, q, hA0, hV, rfl, _, _⟩ := hW
  have hA : DataW.TrodAll enc Try.prog W 0 (fun _ => true) true Try.f4.params.toList args.toList ds p := hA0
  rw [Try.params4] at hA hval
  obtain ⟨v0, vs0, d0, ds0, p0, q0, hargs, rfl, rfl, h0, r0⟩ := trodAll_cons hA
  obtain ⟨v1, vs1, d1, ds1, p1, q1, rfl, rfl, rfl, h1, r1⟩ := trodAll_cons r0
  obtain ⟨v2, vs2, d2, ds2, p2, q2, rfl, rfl, rfl, h2, r2⟩ := trodAll_cons r1
  obtain ⟨rfl, rfl, rfl⟩ := trodAll_nil r2
  obtain rfl : args = #[v0, v1, v2] := by cases args; simp_all
  obtain ⟨s0, rfl, rfl, rfl, w0⟩ := open_string Try.underlying9 (hval 0 9 v0 rfl rfl) h0
  obtain ⟨s1, rfl, rfl, rfl, w1⟩ := open_string Try.underlying9 (hval 1 9 v1 rfl rfl) h1
  obtain ⟨a2, z2, c2, rfl, w2, f2⟩ := open_Strs Try.underlying23 Try.underlying9 (by kernel_rfl) (hval 2 23 v2 rfl rfl) h2
  exact walk s0 s1 a2 z2 c2 W w0 w1 w2 f2

theorem over : Rows.namePairsRow.holds Try.pinned (OpenSpec.ofChange Rows.namePairsSpec) :=
  OpenClaim.holds_of_wide 4 Try.f4 rfl rfl rfl rfl rfl rfl rfl ⟨rfl, rfl, rfl, rfl, rfl⟩ rfl rfl rfl rfl rfl (by kernel_rfl) Try.func4 (by kernel_rfl)
    (of_decide_eq_true (by kernel_rfl)) (by unfold Func.isWrapper; first | (rw [if_pos (by decide +kernel)]; kernel_rfl) | (rw [if_neg (by decide +kernel)]; exact ⟨rfl, rfl⟩))
    (fun os started H enc _ => lifted os started H enc)

/-- the statement -/
theorem proved : Rows.NamePairsSaid := over
#print axioms proved
end Go.Proofs.Ytfmhmhekildfbaa.namePairs

