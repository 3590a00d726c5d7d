/- NameOrder: of two names that are not the same one stands ahead, and just one; what is ahead of what is ahead is ahead; a zone is ahead of all that is under it. For every input; no conditions. -/
import Derived.Test.YtfmhmhekildfbaaNameX
import Derived.Test.YtfmhmhekildfbaaNmC
namespace Go.Proofs.Ytfmhmhekildfbaa.nameOrder
open Go.ChangeShapes Go.WideShapes Go.ChangeAt Go.RowKit
open Go.ChangeMaps (open_string shut_string)
set_option linter.unusedVariables false

theorem t_valid (s : ByteArray) (w : World) (hs : Hid (s.size ≤ maxLen)) : Calls Try.prog 15 #[.string s] w fun e w' => e = .returned (.bool (Nm.valid (bl s))) ∧ Below w.heap.size w w' :=
  (valid_any s w hs.out).mono (by rintro e w' ⟨rfl, rfl⟩; exact ⟨rfl, Below.refl _ _⟩)
theorem t_less (s t : ByteArray) (w : World) (hs : Hid (s.size ≤ maxLen)) (ht : Hid (t.size ≤ maxLen)) : Calls Try.prog 32 #[.string s, .string t] w fun e w' => e = .returned (.bool (Nm.lessN (bl s) (bl t))) ∧ Below w.heap.size w w' := Less_any s t w hs.out ht.out
theorem t_same (s t : ByteArray) (w : World) (hs : Hid (s.size ≤ maxLen)) (ht : Hid (t.size ≤ maxLen)) : Calls Try.prog 28 #[.string s, .string t] w fun e w' => e = .returned (.bool (Nm.sameN (bl s) (bl t))) ∧ Below w.heap.size w w' := Same_any s t w hs.out ht.out
theorem t_under (s t : ByteArray) (w : World) (hs : Hid (s.size ≤ maxLen)) (ht : Hid (t.size ≤ maxLen)) : Calls Try.prog 30 #[.string s, .string t] w fun e w' => e = .returned (.bool (Nm.underN (bl s) (bl t))) ∧ Below w.heap.size w w' := Under_any s t w hs.out ht.out

set_option maxRecDepth 100000 in
set_option maxHeartbeats 2000000 in
theorem inner (s t u : ByteArray) (w : World) (hs : s.size ≤ 300) (ht : t.size ≤ 300) (hu : u.size ≤ 300) :
    Calls Try.prog 5 #[.string s, .string t, .string u] w fun e w' => e = .returned (.bool true) ∧ Below w.heap.size w w' := by
  have ms := Go.Lib.hid (show s.size ≤ maxLen by unfold maxLen; omega)
  have mt := Go.Lib.hid (show t.size ≤ maxLen by unfold maxLen; omega)
  have mu := Go.Lib.hid (show u.size ≤ maxLen by unfold maxLen; omega)
  have mr := Go.Lib.hid (show (⟨#[0]⟩ : ByteArray).size ≤ maxLen by decide)
  have f1 := fun h1 h2 => Nm.three (a := bl s) (b := bl t) h1 h2
  have f2 := fun h1 h2 h3 => Nm.less_trans (a := bl s) (b := bl t) (c := bl u) h1 h2 h3
  have f3 := fun h1 h2 => Nm.under_ahead (a := bl s) (b := bl t) h1 h2
  have f4 := fun h1 => Nm.under_refl (a := bl s) h1
  have f5 := fun h1 => Nm.under_root (a := bl s) h1
  have f6 := fun h1 h2 h3 => Nm.under_trans (a := bl s) (b := bl t) (c := bl u) h1 h2 h3
  have q1 : ¬ 300 < (s.size : Int) := by omega
  have q2 : ¬ 300 < (t.size : Int) := by omega
  have q3 : ¬ 300 < (u.size : Int) := by omega
  have HB := Go.Lib.hid (Below.refl w.heap.size w)
  clear hs ht hu
  rw [show ([0] : List UInt8) = bl ⟨#[0]⟩ from rfl] at f5
  cases z1 : Nm.valid (bl s) with
  | false =>
    go_enter Try.func5, Try.ntmps5
    repeat (go_wp2_with fail; (first | (go_at_call 15; refine (t_valid _ _ (by assumption)).mono ?_) | (go_at_call 32; refine (t_less _ _ _ (by assumption) (by assumption)).mono ?_) | (go_at_call 28; refine (t_same _ _ _ (by assumption) (by assumption)).mono ?_) | (go_at_call 30; refine (t_under _ _ _ (by assumption) (by assumption)).mono ?_) | (go_at_call 11; refine (awake_any _).mono ?_)); rintro e w1 ⟨rfl, hx⟩; have hb := HB.out.trans (hx.mono HB.out.size); clear HB; have HB := Go.Lib.hid hb; clear hx hb)
    go_wp2_with fail
    go_ret
    exact ⟨rfl, HB.out⟩
  | true =>
    cases z2 : Nm.valid (bl t) with
    | false =>
      go_enter Try.func5, Try.ntmps5
      repeat (go_wp2_with fail; (first | (go_at_call 15; refine (t_valid _ _ (by assumption)).mono ?_) | (go_at_call 32; refine (t_less _ _ _ (by assumption) (by assumption)).mono ?_) | (go_at_call 28; refine (t_same _ _ _ (by assumption) (by assumption)).mono ?_) | (go_at_call 30; refine (t_under _ _ _ (by assumption) (by assumption)).mono ?_) | (go_at_call 11; refine (awake_any _).mono ?_)); rintro e w1 ⟨rfl, hx⟩; have hb := HB.out.trans (hx.mono HB.out.size); clear HB; have HB := Go.Lib.hid hb; clear hx hb)
      go_wp2_with fail
      go_ret
      exact ⟨rfl, HB.out⟩
    | true =>
      cases z3 : Nm.valid (bl u) with
      | false =>
        go_enter Try.func5, Try.ntmps5
        repeat (go_wp2_with fail; (first | (go_at_call 15; refine (t_valid _ _ (by assumption)).mono ?_) | (go_at_call 32; refine (t_less _ _ _ (by assumption) (by assumption)).mono ?_) | (go_at_call 28; refine (t_same _ _ _ (by assumption) (by assumption)).mono ?_) | (go_at_call 30; refine (t_under _ _ _ (by assumption) (by assumption)).mono ?_) | (go_at_call 11; refine (awake_any _).mono ?_)); rintro e w1 ⟨rfl, hx⟩; have hb := HB.out.trans (hx.mono HB.out.size); clear HB; have HB := Go.Lib.hid hb; clear hx hb)
        go_wp2_with fail
        go_ret
        exact ⟨rfl, HB.out⟩
      | true =>
        have z10 := f4 z1
        have z11 := f5 z1
        have f6 := f6 z1 z2 z3
        have f2 := f2 z1 z2 z3
        have f3 := f3 z1 z2
        rcases f1 z1 z2 with ⟨z4, z5, z8⟩ | ⟨z4, z5, z8⟩ | ⟨z4, z5, z8⟩
        · cases z9 : Nm.underN (bl s) (bl t) with
          | true =>
            have := f3 z9 z8
            rw [z5] at this
            cases this
          | false =>
            cases z6 : Nm.lessN (bl t) (bl u) with
            | true =>
              have z7 := f2 z4 z6
              clear f1 f2 f3 f4 f5 f6
              go_enter Try.func5, Try.ntmps5
              repeat (go_wp2_with fail; (first | (go_at_call 15; refine (t_valid _ _ (by assumption)).mono ?_) | (go_at_call 32; refine (t_less _ _ _ (by assumption) (by assumption)).mono ?_) | (go_at_call 28; refine (t_same _ _ _ (by assumption) (by assumption)).mono ?_) | (go_at_call 30; refine (t_under _ _ _ (by assumption) (by assumption)).mono ?_) | (go_at_call 11; refine (awake_any _).mono ?_)); rintro e w1 ⟨rfl, hx⟩; have hb := HB.out.trans (hx.mono HB.out.size); clear HB; have HB := Go.Lib.hid hb; clear hx hb)
              go_wp2_with fail
              go_ret
              exact ⟨rfl, HB.out⟩
            | false =>
              clear f1 f2 f3 f4 f5 f6
              go_enter Try.func5, Try.ntmps5
              repeat (go_wp2_with fail; (first | (go_at_call 15; refine (t_valid _ _ (by assumption)).mono ?_) | (go_at_call 32; refine (t_less _ _ _ (by assumption) (by assumption)).mono ?_) | (go_at_call 28; refine (t_same _ _ _ (by assumption) (by assumption)).mono ?_) | (go_at_call 30; refine (t_under _ _ _ (by assumption) (by assumption)).mono ?_) | (go_at_call 11; refine (awake_any _).mono ?_)); rintro e w1 ⟨rfl, hx⟩; have hb := HB.out.trans (hx.mono HB.out.size); clear HB; have HB := Go.Lib.hid hb; clear hx hb)
              go_wp2_with fail
              go_ret
              exact ⟨rfl, HB.out⟩
        · cases z9 : Nm.underN (bl s) (bl t) with
          | true =>
            cases z12 : Nm.underN (bl t) (bl u) with
            | true =>
              have z13 := f6 z9 z12
              clear f1 f2 f3 f4 f5 f6
              go_enter Try.func5, Try.ntmps5
              repeat (go_wp2_with fail; (first | (go_at_call 15; refine (t_valid _ _ (by assumption)).mono ?_) | (go_at_call 32; refine (t_less _ _ _ (by assumption) (by assumption)).mono ?_) | (go_at_call 28; refine (t_same _ _ _ (by assumption) (by assumption)).mono ?_) | (go_at_call 30; refine (t_under _ _ _ (by assumption) (by assumption)).mono ?_) | (go_at_call 11; refine (awake_any _).mono ?_)); rintro e w1 ⟨rfl, hx⟩; have hb := HB.out.trans (hx.mono HB.out.size); clear HB; have HB := Go.Lib.hid hb; clear hx hb)
              go_wp2_with fail
              go_ret
              exact ⟨rfl, HB.out⟩
            | false =>
              clear f1 f2 f3 f4 f5 f6
              go_enter Try.func5, Try.ntmps5
              repeat (go_wp2_with fail; (first | (go_at_call 15; refine (t_valid _ _ (by assumption)).mono ?_) | (go_at_call 32; refine (t_less _ _ _ (by assumption) (by assumption)).mono ?_) | (go_at_call 28; refine (t_same _ _ _ (by assumption) (by assumption)).mono ?_) | (go_at_call 30; refine (t_under _ _ _ (by assumption) (by assumption)).mono ?_) | (go_at_call 11; refine (awake_any _).mono ?_)); rintro e w1 ⟨rfl, hx⟩; have hb := HB.out.trans (hx.mono HB.out.size); clear HB; have HB := Go.Lib.hid hb; clear hx hb)
              go_wp2_with fail
              go_ret
              exact ⟨rfl, HB.out⟩
          | false =>
            clear f1 f2 f3 f4 f5 f6
            go_enter Try.func5, Try.ntmps5
            repeat (go_wp2_with fail; (first | (go_at_call 15; refine (t_valid _ _ (by assumption)).mono ?_) | (go_at_call 32; refine (t_less _ _ _ (by assumption) (by assumption)).mono ?_) | (go_at_call 28; refine (t_same _ _ _ (by assumption) (by assumption)).mono ?_) | (go_at_call 30; refine (t_under _ _ _ (by assumption) (by assumption)).mono ?_) | (go_at_call 11; refine (awake_any _).mono ?_)); rintro e w1 ⟨rfl, hx⟩; have hb := HB.out.trans (hx.mono HB.out.size); clear HB; have HB := Go.Lib.hid hb; clear hx hb)
            go_wp2_with fail
            go_ret
            exact ⟨rfl, HB.out⟩
        · cases z9 : Nm.underN (bl s) (bl t) with
          | true =>
            cases z12 : Nm.underN (bl t) (bl u) with
            | true =>
              have z13 := f6 z9 z12
              clear f1 f2 f3 f4 f5 f6
              go_enter Try.func5, Try.ntmps5
              repeat (go_wp2_with fail; (first | (go_at_call 15; refine (t_valid _ _ (by assumption)).mono ?_) | (go_at_call 32; refine (t_less _ _ _ (by assumption) (by assumption)).mono ?_) | (go_at_call 28; refine (t_same _ _ _ (by assumption) (by assumption)).mono ?_) | (go_at_call 30; refine (t_under _ _ _ (by assumption) (by assumption)).mono ?_) | (go_at_call 11; refine (awake_any _).mono ?_)); rintro e w1 ⟨rfl, hx⟩; have hb := HB.out.trans (hx.mono HB.out.size); clear HB; have HB := Go.Lib.hid hb; clear hx hb)
              go_wp2_with fail
              go_ret
              exact ⟨rfl, HB.out⟩
            | false =>
              clear f1 f2 f3 f4 f5 f6
              go_enter Try.func5, Try.ntmps5
              repeat (go_wp2_with fail; (first | (go_at_call 15; refine (t_valid _ _ (by assumption)).mono ?_) | (go_at_call 32; refine (t_less _ _ _ (by assumption) (by assumption)).mono ?_) | (go_at_call 28; refine (t_same _ _ _ (by assumption) (by assumption)).mono ?_) | (go_at_call 30; refine (t_under _ _ _ (by assumption) (by assumption)).mono ?_) | (go_at_call 11; refine (awake_any _).mono ?_)); rintro e w1 ⟨rfl, hx⟩; have hb := HB.out.trans (hx.mono HB.out.size); clear HB; have HB := Go.Lib.hid hb; clear hx hb)
              go_wp2_with fail
              go_ret
              exact ⟨rfl, HB.out⟩
          | false =>
            clear f1 f2 f3 f4 f5 f6
            go_enter Try.func5, Try.ntmps5
            repeat (go_wp2_with fail; (first | (go_at_call 15; refine (t_valid _ _ (by assumption)).mono ?_) | (go_at_call 32; refine (t_less _ _ _ (by assumption) (by assumption)).mono ?_) | (go_at_call 28; refine (t_same _ _ _ (by assumption) (by assumption)).mono ?_) | (go_at_call 30; refine (t_under _ _ _ (by assumption) (by assumption)).mono ?_) | (go_at_call 11; refine (awake_any _).mono ?_)); rintro e w1 ⟨rfl, hx⟩; have hb := HB.out.trans (hx.mono HB.out.size); clear HB; have HB := Go.Lib.hid hb; clear hx hb)
            go_wp2_with fail
            go_ret
            exact ⟨rfl, HB.out⟩

set_option maxRecDepth 100000 in
set_option maxHeartbeats 2000000 in
theorem walk (s t u : ByteArray) (w : World) (hs : s.size ≤ maxLen) (ht : t.size ≤ maxLen) (hu : u.size ≤ maxLen) :
    Calls Try.prog 5 #[.string s, .string t, .string u] w fun e w' => e = .returned (.bool true) ∧ Below w.heap.size w w' := by
  have HB := Go.Lib.hid (Below.refl w.heap.size w)
  by_cases h : s.size ≤ 300 ∧ t.size ≤ 300 ∧ u.size ≤ 300
  · exact inner s t u w h.1 h.2.1 h.2.2
  · by_cases h1 : s.size ≤ 300
    · by_cases h2 : t.size ≤ 300
      · have q1 : ¬ 300 < (s.size : Int) := by omega
        have q2 : ¬ 300 < (t.size : Int) := by omega
        have q3 : 300 < (u.size : Int) := by omega
        clear h h1 h2 hs ht hu
        go_enter Try.func5, Try.ntmps5
        repeat (go_wp2_with fail; (first | (go_at_call 15; refine (t_valid _ _ (by assumption)).mono ?_) | (go_at_call 32; refine (t_less _ _ _ (by assumption) (by assumption)).mono ?_) | (go_at_call 28; refine (t_same _ _ _ (by assumption) (by assumption)).mono ?_) | (go_at_call 30; refine (t_under _ _ _ (by assumption) (by assumption)).mono ?_) | (go_at_call 11; refine (awake_any _).mono ?_)); rintro e w1 ⟨rfl, hx⟩; have hb := HB.out.trans (hx.mono HB.out.size); clear HB; have HB := Go.Lib.hid hb; clear hx hb)
        go_wp2_with fail
        go_ret
        exact ⟨rfl, HB.out⟩
      · have q1 : ¬ 300 < (s.size : Int) := by omega
        have q2 : 300 < (t.size : Int) := by omega
        clear h h1 h2 hs ht hu
        go_enter Try.func5, Try.ntmps5
        repeat (go_wp2_with fail; (first | (go_at_call 15; refine (t_valid _ _ (by assumption)).mono ?_) | (go_at_call 32; refine (t_less _ _ _ (by assumption) (by assumption)).mono ?_) | (go_at_call 28; refine (t_same _ _ _ (by assumption) (by assumption)).mono ?_) | (go_at_call 30; refine (t_under _ _ _ (by assumption) (by assumption)).mono ?_) | (go_at_call 11; refine (awake_any _).mono ?_)); rintro e w1 ⟨rfl, hx⟩; have hb := HB.out.trans (hx.mono HB.out.size); clear HB; have HB := Go.Lib.hid hb; clear hx hb)
        go_wp2_with fail
        go_ret
        exact ⟨rfl, HB.out⟩
    · have q1 : 300 < (s.size : Int) := by omega
      clear h h1 hs ht hu
      go_enter Try.func5, Try.ntmps5
      repeat (go_wp2_with fail; (first | (go_at_call 15; refine (t_valid _ _ (by assumption)).mono ?_) | (go_at_call 32; refine (t_less _ _ _ (by assumption) (by assumption)).mono ?_) | (go_at_call 28; refine (t_same _ _ _ (by assumption) (by assumption)).mono ?_) | (go_at_call 30; refine (t_under _ _ _ (by assumption) (by assumption)).mono ?_) | (go_at_call 11; refine (awake_any _).mono ?_)); rintro e w1 ⟨rfl, hx⟩; have hb := HB.out.trans (hx.mono HB.out.size); clear HB; have HB := Go.Lib.hid hb; clear hx hb)
      go_wp2_with fail
      go_ret
      exact ⟨rfl, HB.out⟩

set_option maxRecDepth 100000 in
theorem lifted (os : Os) (started : os.Started) (H : Type) (enc : TypeId × Value → H) :
    ReturnsInHanded {} Try.checked os 5 .any (Rows.nameOrderSpec.pre6 enc Try.prog Try.f5 Rows.nameOrderRow.domain false) (Rows.nameOrderSpec.post enc Try.prog Try.f5 false true false false) := by
  refine returnsInHanded_of_change (C := Try.checked) own started (by kernel_rfl) Try.func5
    (ChangeSpec.witness6 (enc := enc) (C := Try.checked) false ⟨#[], #[.string ⟨#[]⟩, .string ⟨#[]⟩, .string ⟨#[]⟩], []⟩ 8 (by kernel_rfl) (by kernel_rfl) (by kernel_rfl) (by kernel_rfl)) ?_
  intro W base args ds gs before hval0 hW hcnd _
  have hval : ∀ (j : Nat) t v, Try.f5.params[j]? = some t → args[j]? = some v → Value.okWide Try.prog W .any base t v := hval0
  refine law_post enc 3 (by kernel_rfl) rfl rfl (by kernel_rfl) (fun ds h => match ds, h with | [_, _, _], _ => rfl) hW ?_
  obtain ⟨p, q, hA0, hV, rfl, _, _⟩ := hW
  have hA : DataW.TrodAll enc Try.prog W 0 (fun _ => true) true Try.f5.params.toList args.toList ds p := hA0
  rw [Try.params5] at hA hval
  obtain ⟨v0, vs0, d0, ds0, p0, q0, hargs, rfl, rfl, h0, r0⟩ := trodAll_cons hA
  obtain ⟨v1, vs1, d1, ds1, p1, q1, rfl, rfl, rfl, h1, r1⟩ := trodAll_cons r0
  obtain ⟨v2, vs2, d2, ds2, p2, q2, rfl, rfl, rfl, h2, r2⟩ := trodAll_cons r1
  obtain ⟨rfl, rfl, rfl⟩ := trodAll_nil r2
  obtain rfl : args = #[v0, v1, v2] := by cases args; simp_all
  obtain ⟨s0, rfl, rfl, rfl, w0⟩ := open_string Try.underlying9 (hval 0 9 v0 rfl rfl) h0
  obtain ⟨s1, rfl, rfl, rfl, w1⟩ := open_string Try.underlying9 (hval 1 9 v1 rfl rfl) h1
  obtain ⟨s2, rfl, rfl, rfl, w2⟩ := open_string Try.underlying9 (hval 2 9 v2 rfl rfl) h2
  exact walk s0 s1 s2 W w0 w1 w2

theorem over : Rows.nameOrderRow.holds Try.pinned (OpenSpec.ofChange Rows.nameOrderSpec) :=
  OpenClaim.holds_of_wide 5 Try.f5 rfl rfl rfl rfl rfl rfl rfl ⟨rfl, rfl, rfl, rfl, rfl⟩ rfl rfl rfl rfl rfl (by kernel_rfl) Try.func5 (by kernel_rfl)
    (of_decide_eq_true (by kernel_rfl)) (by unfold Func.isWrapper; first | (rw [if_pos (by decide +kernel)]; kernel_rfl) | (rw [if_neg (by decide +kernel)]; exact ⟨rfl, rfl⟩))
    (fun os started H enc _ => lifted os started H enc)

/-- the statement -/
theorem proved : Rows.NameOrderSaid := over
#print axioms proved
end Go.Proofs.Ytfmhmhekildfbaa.nameOrder

