/- The contracts of the reference's end, Parts: where names stand in data, by trying. -/
import Derived.Test.YthfpijacemkbbaaDoorRR
import Derived.Test.YthfpijacemkbbaaDoorSm
namespace Go.Proofs.YthfpijacemkbbaaDoor
open Go.RowKit
set_option linter.unusedVariables false

theorem lead_none {s : List UInt8} {q : Nat} (h : ∀ m, 1 ≤ m → m ≤ q → Nm.valid (s.take m) = false) (hq : 255 ≤ q ∨ s.length ≤ q) : Nm.lead s = none := by
  cases hl : Nm.lead s with
  | none => rfl
  | some n =>
    obtain ⟨h1, h2, h3⟩ := Nm.lead_le hl
    have h4 := Rc.lead_take hl
    rw [h n h1 (by omega)] at h4
    cases h4

/-- where a name that begins at a place ends -/
def endV (d : List UInt8) (at_ : Nat) : Value := match Nm.lead (d.drop at_) with
  | some n => .tuple #[.int .i64 ((at_ + n : Nat) : Int), .bool true]
  | none => .tuple #[.int .i64 0, .bool false]
theorem endV_none {d : List UInt8} {at_ : Nat} (h : Nm.lead (d.drop at_) = none) : endV d at_ = .tuple #[.int .i64 0, .bool false] := by unfold endV; rw [h]
theorem endV_some {d : List UInt8} {at_ k : Nat} (h : Nm.lead (d.drop at_) = some (k + 1 - at_)) (hk : at_ ≤ k) : endV d at_ = .tuple #[.int .i64 ((k : Int) + 1), .bool true] := by
  unfold endV
  rw [h]
  simp only
  congr 4
  omega

set_option maxRecDepth 100000 in
set_option maxHeartbeats 1000000 in
theorem end_any (s : ByteArray) (at_ : Nat) (w : World) (hs : s.size ≤ maxLen) (ha : at_ ≤ 2000) :
    Calls Tryd.prog 38 #[.string s, .int .i64 at_] w fun e w' => e = .returned (endV (bl s) at_) ∧ Below w.heap.size w w' := by
  have HB := Go.Lib.hid (Below.refl w.heap.size w)
  have hl := size_bl s
  unfold maxLen at hs
  have HL := Go.Lib.hid hl
  clear hl
  go_enter Tryd.func38, Tryd.ntmps38
  go_wp2_with fail
  go_loopw [6] (fun i wr => ∃ k : Nat, i = .int .i64 k ∧ at_ ≤ k ∧ k ≤ at_ + 256 ∧ (∀ m, 1 ≤ m → m ≤ k - at_ → Nm.valid (((bl s).drop at_).take m) = false) ∧ Below w.heap.size w wr) (fun i _ => s.size - (intOf i).toNat)
  case atStart => exact ⟨at_, rfl, Nat.le_refl _, by omega, fun m h1 h2 => by omega, HB.out⟩
  case round =>
    obtain ⟨k, rfl, hk1, hk2, hall, hbr⟩ := hrel
    clear HB
    have HALL := Go.Lib.hid hall
    have HB := Go.Lib.hid hbr
    clear hall hbr
    by_cases hlt : k < s.size
    · have hx : s.extract at_ (k + 1) = mk (((bl s).drop at_).take (k + 1 - at_)) := by
        apply bl_inj
        rw [bl_extract, bl_mk]
      have hv := fun w => refValid_any (mk (((bl s).drop at_).take (k + 1 - at_))) w
      rw [bl_mk] at hv
      have i1 : (at_ : Int) ≤ (k : Int) + 1 := by omega
      have i2 : (k : Int) + 1 ≤ (s.size : Int) := by omega
      have HX := Go.Lib.hid hx
      clear hx
      cases hvb : Nm.valid (((bl s).drop at_).take (k + 1 - at_)) with
      | true =>
        have hld := Rc.take_lead (s := (bl s).drop at_) (m := k + 1 - at_) (by rw [List.length_drop, ← HL.out]; omega) hvb
        have hfin := Go.Lib.hid (endV_some hld hk1)
        rw [hvb] at hv
        have HV := Go.Lib.hid hv
        clear hv
        clear hvb hld
        go_wp2_with fail
        rw [HX.out]
        refine (HV.out _).mono ?_; rintro e wb ⟨rfl, hx⟩
        have HB2 := Go.Lib.hid hx
        clear hx
        go_wp2_with fail
        go_ret2
        exact ⟨congrArg Ending.returned hfin.out.symm, HB.out.trans (HB2.out.mono HB.out.size)⟩
      | false =>
        have hall2 : ∀ m, 1 ≤ m → m ≤ k + 1 - at_ → Nm.valid (((bl s).drop at_).take m) = false := fun m h1 h2 => by
          by_cases h3 : m ≤ k - at_
          · exact HALL.out m h1 h3
          · obtain rfl : m = k + 1 - at_ := by omega
            exact hvb
        rw [hvb] at hv
        have HV := Go.Lib.hid hv
        clear hv
        clear hvb
        by_cases hbig : 255 < k - at_
        · have hfin := Go.Lib.hid (endV_none (lead_none hall2 (.inl (by omega))))
          clear hall2
          go_wp2_with fail
          rw [HX.out]
          refine (HV.out _).mono ?_; rintro e wb ⟨rfl, hx⟩
          have HB2 := Go.Lib.hid hx
          clear hx
          go_wp2_with fail
          go_ret2
          exact ⟨congrArg Ending.returned hfin.out.symm, HB.out.trans (HB2.out.mono HB.out.size)⟩
        · have HALL2 := Go.Lib.hid hall2
          clear hall2
          go_wp2_with fail
          rw [HX.out]
          refine (HV.out _).mono ?_; rintro e wb ⟨rfl, hx⟩
          have HB2 := Go.Lib.hid hx
          clear hx
          go_wp2_with fail
          go_roundw
          case rel => exact ⟨k + 1, by go_num, by omega, by omega, HALL2.out, HB.out.trans (HB2.out.mono HB.out.size)⟩
          case measure => simp [intOf]; omega
    · have hfin := Go.Lib.hid (endV_none (lead_none HALL.out (.inr (by rw [List.length_drop, ← HL.out]; omega))))
      go_wp2_with fail
      go_ret2
      exact ⟨congrArg Ending.returned hfin.out.symm, HB.out⟩

/-! ### plain: how the parts go on -/
theorem partsN_shape {t : Int} {a m b : Nat} {d : List UInt8} (h : Rc.shape t = some (a, m, b)) (hm : 1 ≤ m) (hl : d.length ≤ 1000) :
    (Rc.names d a m = none → Rc.partsN t d = none) ∧ (∀ l e, Rc.names d a m = some (l, e) → e ≤ d.length ∧ (e + b = d.length → Rc.partsN t d = some l) ∧ (¬ e + b = d.length → Rc.partsN t d = none)) := by
  have ht : ¬ t = 1 ∧ ¬ t = 28 ∧ ¬ t = 16 := by
    refine ⟨?_, ?_, ?_⟩ <;> (rintro rfl; simp [Rc.shape] at h)
  have hd : Rc.dataB t d = (Rc.placesP t d).2 := by
    unfold Rc.dataB
    rw [if_neg (by omega), if_neg ht.1, if_neg ht.2.1, if_neg ht.2.2]
  by_cases hs : d.length < a
  · have hp : Rc.placesP t d = ([], false) := by unfold Rc.placesP; rw [h]; simp only; rw [if_pos hs]
    have hn : Rc.names d a m = none := by
      refine Rc.names_none (m := 1) ?_ hm
      rw [Rc.names_succ (show Rc.names d a 0 = some ([], a) from rfl), List.drop_of_length_le (by omega)]
      rfl
    rw [hn]
    refine ⟨fun _ => Rc.partsN_none (by rw [hd, hp]), fun l e h => by cases h⟩
  · obtain ⟨h1, h2⟩ := placesP_eq h hs
    refine ⟨fun hn => Rc.partsN_none (by rw [hd, h1 hn]), fun l e hn => ?_⟩
    have hp := h2 l e hn
    have hle := (Rc.names_chain (by omega) m l e hn).2.2.1
    refine ⟨hle, fun he => ?_, fun he => ?_⟩
    · rw [Rc.partsN_some (by rw [hd, hp]; simp; omega), hp]
    · exact Rc.partsN_none (by rw [hd, hp]; simp; omega)
theorem partsN_flat {t : Int} {d : List UInt8} {b : Bool} (h : Rc.shape t = none) (hd : Rc.dataB t d = b) : Rc.partsN t d = if b then some [] else none := by
  cases b with
  | true =>
    rw [Rc.partsN_some hd]
    unfold Rc.placesP
    rw [h]
    rfl
  | false => rw [Rc.partsN_none hd]; rfl

/-! ### Parts -/
theorem infoPt : (Tryd.prog.info? 34).map (fun i => (i.zero, i.size, i.bytes)) = some (some (.agg #[.int .i64 0, .int .i64 0]), 2, 16) := by kernel_rfl
theorem eiPt : EI Tryd.prog 25 34 2 16 := ei_of Tryd.underlying25 infoPt rfl (by decide)
/-- parts, or none, in new memory -/
def RetParts (w : World) (o : Option (List (Nat × Nat))) (e : Ending) (w' : World) : Prop := ∃ v, e = .returned (.tuple #[v, .bool o.isSome]) ∧ Pairs w' v (o.getD []) ∧ Below w.heap.size w w'
theorem retParts_none {w w' : World} {o : Option (List (Nat × Nat))} (h : o = none) (hb : Below w.heap.size w w') : RetParts w o (.returned (.tuple #[.slice none 0 0, .bool false])) w' := by
  subst h; exact ⟨_, rfl, SlC.nil _ _, hb⟩
theorem retParts_flat {w w' : World} {o : Option (List (Nat × Nat))} {b : Bool} (h : o = if b then some [] else none) (hb : Below w.heap.size w w') : RetParts w o (.returned (.tuple #[.slice none 0 0, .bool b])) w' := by
  subst h; cases b <;> exact ⟨_, rfl, SlC.nil _ _, hb⟩
theorem retParts_some {w w' : World} {o : Option (List (Nat × Nat))} {v : Value} {l : List (Nat × Nat)} (h : o = some l) (ho : w'.ownsRow w.heap.size 34 2 v l.length (encP l)) (hb : Below w.heap.size w w') : RetParts w o (.returned (.tuple #[v, .bool true])) w' := by
  subst h; exact ⟨_, rfl, SlC.of_owns ho, hb⟩

set_option maxRecDepth 100000 in
set_option maxHeartbeats 4000000 in
theorem Parts_big (t : Int) (s : ByteArray) (w : World) (h : 1000 < s.size) :
    Calls Tryd.prog 10 #[.int .i64 t, .string s] w (RetParts w (Rc.partsN t (bl s))) := by
  have hl := size_bl s
  have hfin : Hid (Rc.partsN t (bl s) = none) := Go.Lib.hid (Rc.partsN_none (by unfold Rc.dataB; rw [if_pos (by omega)]))
  clear hl
  go_enter Tryd.func10, Tryd.ntmps10
  go_wp2_with fail
  go_ret2
  exact retParts_none hfin.out (Below.refl _ _)

set_option maxRecDepth 100000 in
set_option maxHeartbeats 4000000 in
theorem Parts_fix (t : Int) (s : ByteArray) (w : World) (h : s.size ≤ 1000) (ht : t = 1 ∨ t = 28) :
    Calls Tryd.prog 10 #[.int .i64 t, .string s] w (RetParts w (Rc.partsN t (bl s))) := by
  have hl := size_bl s
  rcases ht with rfl | rfl
  · have hfin : Hid (Rc.partsN 1 (bl s) = if ((s.size : Int) == 4) then some [] else none) := Go.Lib.hid (partsN_flat rfl (by unfold Rc.dataB; rw [if_neg (by omega), if_pos rfl, Bool.eq_iff_iff, decide_eq_true_eq, beq_iff_eq]; omega))
    clear hl
    go_enter Tryd.func10, Tryd.ntmps10
    go_wp2_with fail
    go_ret2
    exact retParts_flat hfin.out (Below.refl _ _)
  · have hfin : Hid (Rc.partsN 28 (bl s) = if ((s.size : Int) == 16) then some [] else none) := Go.Lib.hid (partsN_flat rfl (by unfold Rc.dataB; rw [if_neg (by omega), if_neg (by omega), if_pos rfl, Bool.eq_iff_iff, decide_eq_true_eq, beq_iff_eq]; omega))
    clear hl
    go_enter Tryd.func10, Tryd.ntmps10
    go_wp2_with fail
    go_ret2
    exact retParts_flat hfin.out (Below.refl _ _)

set_option maxRecDepth 100000 in
set_option maxHeartbeats 4000000 in
theorem Parts_none (t : Int) (s : ByteArray) (w : World) (h : s.size ≤ 1000) (h1 : ¬ t = 1) (h2 : ¬ t = 28) (h3 : ¬ t = 16) (hs : Rc.shape t = none) :
    Calls Tryd.prog 10 #[.int .i64 t, .string s] w (RetParts w (Rc.partsN t (bl s))) := by
  have hl := size_bl s
  have hfin : Hid (Rc.partsN t (bl s) = some []) := Go.Lib.hid (partsN_flat (b := true) hs (by unfold Rc.dataB Rc.placesP; rw [if_neg (by omega), if_neg h1, if_neg h2, if_neg h3, hs]))
  have h4 : ¬ (t = 2 ∨ t = 5 ∨ t = 12) ∧ ¬ t = 15 ∧ ¬ t = 33 ∧ ¬ t = 6 := by
    unfold Rc.shape at hs
    repeat' split at hs
    all_goals first | (refine ⟨?_, ?_, ?_, ?_⟩ <;> assumption) | cases hs
  have b1 : (t == 1) = false := beq_eq_false_iff_ne.2 h1
  have b2 : (t == 28) = false := beq_eq_false_iff_ne.2 h2
  have b3 : (t == 16) = false := beq_eq_false_iff_ne.2 h3
  have b4 : (t == 15) = false := beq_eq_false_iff_ne.2 h4.2.1
  have b5 : (t == 33) = false := beq_eq_false_iff_ne.2 h4.2.2.1
  have b6 : (t == 6) = false := beq_eq_false_iff_ne.2 h4.2.2.2
  have b7 : (t == 2) = false := beq_eq_false_iff_ne.2 (by omega)
  have b8 : (t == 5) = false := beq_eq_false_iff_ne.2 (by omega)
  have b9 : (t == 12) = false := beq_eq_false_iff_ne.2 (by omega)
  clear hl h1 h2 h3 h4 hs
  go_enter Tryd.func10, Tryd.ntmps10
  go_wp2_with fail
  go_ret2
  exact retParts_flat (b := true) hfin.out (Below.refl _ _)

theorem textsB_ne {d : List UInt8} (h : 0 < d.length) : Rc.textsB d = Rc.textsF d := by
  cases d with
  | nil => simp at h
  | cons c r => rfl
theorem drop_get {d : List UInt8} {k : Nat} (h : k < d.length) : d.drop k = d.getD k 0 :: d.drop (k + 1) := by
  rw [List.drop_eq_getElem_cons h]
  simp [List.getD_eq_getElem?_getD, h]

set_option maxRecDepth 100000 in
set_option maxHeartbeats 4000000 in
theorem Parts_txt (s : ByteArray) (w : World) (h : s.size ≤ 1000) :
    Calls Tryd.prog 10 #[.int .i64 16, .string s] w (RetParts w (Rc.partsN 16 (bl s))) := by
  have hl := size_bl s
  have hfin : Hid (∀ b, Rc.textsB (bl s) = b → Rc.partsN 16 (bl s) = if b then some [] else none) := Go.Lib.hid (fun b hb => partsN_flat rfl (by unfold Rc.dataB; rw [if_neg (by omega), if_neg (by omega), if_neg (by omega), if_pos rfl]; exact hb))
  generalize Rc.partsN 16 (bl s) = res at *
  have HL := Go.Lib.hid hl
  clear hl
  go_enter Tryd.func10, Tryd.ntmps10
  go_wp2_with fail
  go_loopw [9] (fun i wr => wr = w ∧ ∃ k : Nat, i = .int .i64 k ∧ k ≤ s.size + 300 ∧ (k ≤ s.size → Rc.textsF ((bl s).drop k) = Rc.textsF (bl s)) ∧ (s.size < k → Rc.textsF (bl s) = false)) (fun i _ => s.size - (intOf i).toNat)
  case atStart => exact ⟨rfl, 0, rfl, by omega, fun _ => rfl, fun h => by omega⟩
  case round =>
    obtain ⟨rfl, k, rfl, hk, hk1, hk2⟩ := hrel
    by_cases hlt : k < s.size
    · have hd := drop_get (d := bl s) (k := k) (by rw [← HL.out]; exact hlt)
      have hx : s[k] = (bl s).getD k 0 := by rw [get_bl]; simp [List.getD_eq_getElem?_getD, ← HL.out, hlt]
      have hcs := Rc.textsF_cons ((bl s).getD k 0) ((bl s).drop (k + 1))
      rw [← hd, hk1 (by omega), List.length_drop, ← HL.out, List.drop_drop] at hcs
      generalize (bl s).getD k 0 = c at *
      have hcb := c.toNat_lt
      have n1 : k + 1 + c.toNat ≤ s.size → Rc.textsF ((bl s).drop (k + 1 + c.toNat)) = Rc.textsF (bl s) := fun h => by
        rw [if_neg (by omega)] at hcs
        rw [hcs]
      have n2 : s.size < k + 1 + c.toNat → Rc.textsF (bl s) = false := fun h => by
        rw [if_pos (by omega)] at hcs
        exact hcs
      have N1 := Go.Lib.hid n1
      have N2 := Go.Lib.hid n2
      clear n1 n2
      clear hcs hd hk1 hk2
      go_wp2_with fail
      go_roundw
      case rel => exact ⟨trivial, k + 1 + c.toNat, by go_num, by omega, N1.out, N2.out⟩
      case measure => simp [intOf]; omega
    · by_cases h0 : s.size = 0
      · have hb : Rc.textsB (bl s) = false := by
          have : bl s = [] := List.eq_nil_of_length_eq_zero (by rw [← HL.out]; exact h0)
          rw [this]; rfl
        have hres := Go.Lib.hid (hfin.out _ hb)
        clear hb hk1 hk2
        go_wp2_with fail
        go_ret2
        exact retParts_flat (b := false) hres.out (Below.refl _ _)
      · have hb := textsB_ne (d := bl s) (by rw [← HL.out]; omega)
        have hv : Rc.textsB (bl s) = ((k : Int) == (s.size : Int)) := by
          rw [hb]
          by_cases he : k = s.size
          · have := hk1 (by omega)
            rw [List.drop_of_length_le (by rw [← HL.out]; omega)] at this
            rw [← this, he, beq_self_eq_true]
            rfl
          · rw [hk2 (by omega)]
            symm
            rw [beq_eq_false_iff_ne]
            omega
        have hres := Go.Lib.hid (hfin.out _ hv)
        clear hb hk1 hk2 hv
        go_wp2_with fail
        go_ret2
        exact retParts_flat hres.out (Below.refl _ _)

set_option maxRecDepth 100000 in
set_option maxHeartbeats 4000000 in
theorem Parts_2 (s : ByteArray) (w : World) (h : s.size ≤ 1000) :
    Calls Tryd.prog 10 #[.int .i64 2, .string s] w (RetParts w (Rc.partsN 2 (bl s))) := by
  have hl := size_bl s
  obtain ⟨hfn, hfs⟩ := partsN_shape (t := 2) (a := 0) (m := 1) (b := 0) rfl (d := bl s) (by omega) (by omega)
  have hen : ∀ at_ : Nat, at_ ≤ 2000 → ∀ w, Calls Tryd.prog 38 #[.string s, .int .i64 at_] w fun e w' => e = .returned (endV (bl s) at_) ∧ Below w.heap.size w w' := fun at_ hat w => end_any s at_ w (by unfold maxLen; omega) hat
  have hnn : ∀ k, Rc.names (bl s) 0 k = none → k ≤ 1 → Rc.names (bl s) 0 1 = none := fun k h1 h2 => Rc.names_none h1 h2
  have HFN := Go.Lib.hid hfn
  have HFS := Go.Lib.hid hfs
  have HEN := Go.Lib.hid hen
  have HL := Go.Lib.hid hl
  have HNN := Go.Lib.hid hnn
  clear hfn hfs hen hl hnn
  generalize Rc.partsN 2 (bl s) = res at *
  go_enter Tryd.func10, Tryd.ntmps10
  go_wp2_with fail
  go_loopw [10, 11, 12] (fun v at_ i wr => ∃ (k at0 : Nat) (l : List (Nat × Nat)), i = .int .i64 k ∧ k ≤ 1 ∧ at_ = .int .i64 at0 ∧ at0 ≤ 1010 ∧ l.length ≤ k ∧ Rc.names (bl s) 0 k = some (l, at0) ∧ wr.ownsRow w.heap.size 34 2 v l.length (encP l) ∧ Below w.heap.size w wr) (fun _ _ i _ => 1 - (intOf i).toNat)
  case atStart => exact ⟨0, 0, [], rfl, by omega, rfl, by omega, by simp, rfl, World.ownsRow_nil _ _ _ _, Below.refl _ _⟩
  case round =>
    obtain ⟨k, at0, l, rfl, hk, rfl, hat, hlk, hnm, hown, hbel⟩ := hrel
    have hbz := hbel.size
    have HNM := Go.Lib.hid hnm
    have HO := Go.Lib.hid hown
    have HB := Go.Lib.hid hbel
    clear hnm hown hbel
    by_cases hlt : k < 1
    · have hld := HEN.out at0 (by omega)
      have hstep := Rc.names_succ HNM.out
      cases hlq : Nm.lead ((bl s).drop at0) with
      | none =>
        have hv : endV (bl s) at0 = .tuple #[.int .i64 0, .bool false] := endV_none hlq
        rw [hlq] at hstep
        have hnone : Hid (res = none) := Go.Lib.hid (HFN.out (HNN.out _ hstep (by omega)))
        rw [hv] at hld
        have HLD := Go.Lib.hid hld
        clear hld
        clear hlq hstep hv
        go_wp2_with fail
        refine (HLD.out _).mono ?_; rintro e wb ⟨rfl, hx⟩
        have HB2 := Go.Lib.hid hx
        clear hx
        go_wp2_with fail
        go_ret2
        exact retParts_none hnone.out (HB.out.trans (HB2.out.mono HB.out.size))
      | some n =>
        have hv : endV (bl s) at0 = .tuple #[.int .i64 ((at0 + n : Nat) : Int), .bool true] := by unfold endV; rw [hlq]
        rw [hlq] at hstep
        simp only at hstep
        have hle := Nm.lead_le hlq
        rw [List.length_drop, ← HL.out] at hle
        rw [hv] at hld
        have HLD := Go.Lib.hid hld
        have HST := Go.Lib.hid hstep
        clear hld hstep
        clear hlq hv
        go_wp2_with fail
        refine (HLD.out _).mono ?_; rintro e wb ⟨rfl, hx⟩
        have hown := owns_below HO.out hx
        have hb := HB.out.trans (hx.mono hbz)
        have hbz2 := hb.size
        have HO2 := Go.Lib.hid hown
        have HB2 := Go.Lib.hid hb
        clear hown hb
        clear hx
        have hsub : (at0 : Int) + (n : Int) - (at0 : Int) = (n : Int) := by omega
        have hsub2 : ((at0 + n : Nat) : Int) - (at0 : Int) = (n : Int) := by omega
        go_wp2_with (at_builtin; refine wpList_app eiPt (.tmp 75) (.tmp 81) rfl rfl w.heap.size rfl rfl (HO2.out.alloc _) (slc_new _ 2 1 34 [.int .i64 (at0 : Int), .int .i64 (n : Int)] rfl (by decide)) (one_pair at0 n) (by unfold maxLen; omega) (by omega) (by simp; omega) ?_; intro v1 w1 hown1 hg1)
        go_roundw
        case rel => exact ⟨k + 1, at0 + n, l ++ [(at0, n)], by go_num, by omega, by go_num, by omega, by simp; omega, HST.out, by rw [List.length_append, encP_snoc]; exact hown1, below_app (HB2.out.alloc hbz2 _) (HO2.out.alloc _) hg1 (Nat.le_refl _) (by simp; omega)⟩
        case measure => simp [intOf]; omega
    · obtain rfl : k = 1 := by omega
      obtain ⟨q1, q2, q3⟩ := HFS.out _ _ HNM.out
      rw [← HL.out] at q1 q2 q3
      by_cases hz : at0 + 0 = s.size
      · have hres := Go.Lib.hid (q2 hz)
        clear q2 q3
        have hz2 : (at0 : Int) + 0 = (s.size : Int) := by omega
        try simp only [Int.add_zero] at hz2
        clear hz
        go_wp2_with fail
        go_ret2
        exact retParts_some hres.out HO.out HB.out
      · have hres := Go.Lib.hid (q3 hz)
        clear q2 q3
        have hz2 : ¬ (at0 : Int) + 0 = (s.size : Int) := by omega
        try simp only [Int.add_zero] at hz2
        clear hz
        go_wp2_with fail
        go_ret2
        exact retParts_none hres.out HB.out
set_option maxRecDepth 100000 in
set_option maxHeartbeats 4000000 in
theorem Parts_5 (s : ByteArray) (w : World) (h : s.size ≤ 1000) :
    Calls Tryd.prog 10 #[.int .i64 5, .string s] w (RetParts w (Rc.partsN 5 (bl s))) := by
  have hl := size_bl s
  obtain ⟨hfn, hfs⟩ := partsN_shape (t := 5) (a := 0) (m := 1) (b := 0) rfl (d := bl s) (by omega) (by omega)
  have hen : ∀ at_ : Nat, at_ ≤ 2000 → ∀ w, Calls Tryd.prog 38 #[.string s, .int .i64 at_] w fun e w' => e = .returned (endV (bl s) at_) ∧ Below w.heap.size w w' := fun at_ hat w => end_any s at_ w (by unfold maxLen; omega) hat
  have hnn : ∀ k, Rc.names (bl s) 0 k = none → k ≤ 1 → Rc.names (bl s) 0 1 = none := fun k h1 h2 => Rc.names_none h1 h2
  have HFN := Go.Lib.hid hfn
  have HFS := Go.Lib.hid hfs
  have HEN := Go.Lib.hid hen
  have HL := Go.Lib.hid hl
  have HNN := Go.Lib.hid hnn
  clear hfn hfs hen hl hnn
  generalize Rc.partsN 5 (bl s) = res at *
  go_enter Tryd.func10, Tryd.ntmps10
  go_wp2_with fail
  go_loopw [10, 11, 12] (fun v at_ i wr => ∃ (k at0 : Nat) (l : List (Nat × Nat)), i = .int .i64 k ∧ k ≤ 1 ∧ at_ = .int .i64 at0 ∧ at0 ≤ 1010 ∧ l.length ≤ k ∧ Rc.names (bl s) 0 k = some (l, at0) ∧ wr.ownsRow w.heap.size 34 2 v l.length (encP l) ∧ Below w.heap.size w wr) (fun _ _ i _ => 1 - (intOf i).toNat)
  case atStart => exact ⟨0, 0, [], rfl, by omega, rfl, by omega, by simp, rfl, World.ownsRow_nil _ _ _ _, Below.refl _ _⟩
  case round =>
    obtain ⟨k, at0, l, rfl, hk, rfl, hat, hlk, hnm, hown, hbel⟩ := hrel
    have hbz := hbel.size
    have HNM := Go.Lib.hid hnm
    have HO := Go.Lib.hid hown
    have HB := Go.Lib.hid hbel
    clear hnm hown hbel
    by_cases hlt : k < 1
    · have hld := HEN.out at0 (by omega)
      have hstep := Rc.names_succ HNM.out
      cases hlq : Nm.lead ((bl s).drop at0) with
      | none =>
        have hv : endV (bl s) at0 = .tuple #[.int .i64 0, .bool false] := endV_none hlq
        rw [hlq] at hstep
        have hnone : Hid (res = none) := Go.Lib.hid (HFN.out (HNN.out _ hstep (by omega)))
        rw [hv] at hld
        have HLD := Go.Lib.hid hld
        clear hld
        clear hlq hstep hv
        go_wp2_with fail
        refine (HLD.out _).mono ?_; rintro e wb ⟨rfl, hx⟩
        have HB2 := Go.Lib.hid hx
        clear hx
        go_wp2_with fail
        go_ret2
        exact retParts_none hnone.out (HB.out.trans (HB2.out.mono HB.out.size))
      | some n =>
        have hv : endV (bl s) at0 = .tuple #[.int .i64 ((at0 + n : Nat) : Int), .bool true] := by unfold endV; rw [hlq]
        rw [hlq] at hstep
        simp only at hstep
        have hle := Nm.lead_le hlq
        rw [List.length_drop, ← HL.out] at hle
        rw [hv] at hld
        have HLD := Go.Lib.hid hld
        have HST := Go.Lib.hid hstep
        clear hld hstep
        clear hlq hv
        go_wp2_with fail
        refine (HLD.out _).mono ?_; rintro e wb ⟨rfl, hx⟩
        have hown := owns_below HO.out hx
        have hb := HB.out.trans (hx.mono hbz)
        have hbz2 := hb.size
        have HO2 := Go.Lib.hid hown
        have HB2 := Go.Lib.hid hb
        clear hown hb
        clear hx
        have hsub : (at0 : Int) + (n : Int) - (at0 : Int) = (n : Int) := by omega
        have hsub2 : ((at0 + n : Nat) : Int) - (at0 : Int) = (n : Int) := by omega
        go_wp2_with (at_builtin; refine wpList_app eiPt (.tmp 75) (.tmp 81) rfl rfl w.heap.size rfl rfl (HO2.out.alloc _) (slc_new _ 2 1 34 [.int .i64 (at0 : Int), .int .i64 (n : Int)] rfl (by decide)) (one_pair at0 n) (by unfold maxLen; omega) (by omega) (by simp; omega) ?_; intro v1 w1 hown1 hg1)
        go_roundw
        case rel => exact ⟨k + 1, at0 + n, l ++ [(at0, n)], by go_num, by omega, by go_num, by omega, by simp; omega, HST.out, by rw [List.length_append, encP_snoc]; exact hown1, below_app (HB2.out.alloc hbz2 _) (HO2.out.alloc _) hg1 (Nat.le_refl _) (by simp; omega)⟩
        case measure => simp [intOf]; omega
    · obtain rfl : k = 1 := by omega
      obtain ⟨q1, q2, q3⟩ := HFS.out _ _ HNM.out
      rw [← HL.out] at q1 q2 q3
      by_cases hz : at0 + 0 = s.size
      · have hres := Go.Lib.hid (q2 hz)
        clear q2 q3
        have hz2 : (at0 : Int) + 0 = (s.size : Int) := by omega
        try simp only [Int.add_zero] at hz2
        clear hz
        go_wp2_with fail
        go_ret2
        exact retParts_some hres.out HO.out HB.out
      · have hres := Go.Lib.hid (q3 hz)
        clear q2 q3
        have hz2 : ¬ (at0 : Int) + 0 = (s.size : Int) := by omega
        try simp only [Int.add_zero] at hz2
        clear hz
        go_wp2_with fail
        go_ret2
        exact retParts_none hres.out HB.out
set_option maxRecDepth 100000 in
set_option maxHeartbeats 4000000 in
theorem Parts_12 (s : ByteArray) (w : World) (h : s.size ≤ 1000) :
    Calls Tryd.prog 10 #[.int .i64 12, .string s] w (RetParts w (Rc.partsN 12 (bl s))) := by
  have hl := size_bl s
  obtain ⟨hfn, hfs⟩ := partsN_shape (t := 12) (a := 0) (m := 1) (b := 0) rfl (d := bl s) (by omega) (by omega)
  have hen : ∀ at_ : Nat, at_ ≤ 2000 → ∀ w, Calls Tryd.prog 38 #[.string s, .int .i64 at_] w fun e w' => e = .returned (endV (bl s) at_) ∧ Below w.heap.size w w' := fun at_ hat w => end_any s at_ w (by unfold maxLen; omega) hat
  have hnn : ∀ k, Rc.names (bl s) 0 k = none → k ≤ 1 → Rc.names (bl s) 0 1 = none := fun k h1 h2 => Rc.names_none h1 h2
  have HFN := Go.Lib.hid hfn
  have HFS := Go.Lib.hid hfs
  have HEN := Go.Lib.hid hen
  have HL := Go.Lib.hid hl
  have HNN := Go.Lib.hid hnn
  clear hfn hfs hen hl hnn
  generalize Rc.partsN 12 (bl s) = res at *
  go_enter Tryd.func10, Tryd.ntmps10
  go_wp2_with fail
  go_loopw [10, 11, 12] (fun v at_ i wr => ∃ (k at0 : Nat) (l : List (Nat × Nat)), i = .int .i64 k ∧ k ≤ 1 ∧ at_ = .int .i64 at0 ∧ at0 ≤ 1010 ∧ l.length ≤ k ∧ Rc.names (bl s) 0 k = some (l, at0) ∧ wr.ownsRow w.heap.size 34 2 v l.length (encP l) ∧ Below w.heap.size w wr) (fun _ _ i _ => 1 - (intOf i).toNat)
  case atStart => exact ⟨0, 0, [], rfl, by omega, rfl, by omega, by simp, rfl, World.ownsRow_nil _ _ _ _, Below.refl _ _⟩
  case round =>
    obtain ⟨k, at0, l, rfl, hk, rfl, hat, hlk, hnm, hown, hbel⟩ := hrel
    have hbz := hbel.size
    have HNM := Go.Lib.hid hnm
    have HO := Go.Lib.hid hown
    have HB := Go.Lib.hid hbel
    clear hnm hown hbel
    by_cases hlt : k < 1
    · have hld := HEN.out at0 (by omega)
      have hstep := Rc.names_succ HNM.out
      cases hlq : Nm.lead ((bl s).drop at0) with
      | none =>
        have hv : endV (bl s) at0 = .tuple #[.int .i64 0, .bool false] := endV_none hlq
        rw [hlq] at hstep
        have hnone : Hid (res = none) := Go.Lib.hid (HFN.out (HNN.out _ hstep (by omega)))
        rw [hv] at hld
        have HLD := Go.Lib.hid hld
        clear hld
        clear hlq hstep hv
        go_wp2_with fail
        refine (HLD.out _).mono ?_; rintro e wb ⟨rfl, hx⟩
        have HB2 := Go.Lib.hid hx
        clear hx
        go_wp2_with fail
        go_ret2
        exact retParts_none hnone.out (HB.out.trans (HB2.out.mono HB.out.size))
      | some n =>
        have hv : endV (bl s) at0 = .tuple #[.int .i64 ((at0 + n : Nat) : Int), .bool true] := by unfold endV; rw [hlq]
        rw [hlq] at hstep
        simp only at hstep
        have hle := Nm.lead_le hlq
        rw [List.length_drop, ← HL.out] at hle
        rw [hv] at hld
        have HLD := Go.Lib.hid hld
        have HST := Go.Lib.hid hstep
        clear hld hstep
        clear hlq hv
        go_wp2_with fail
        refine (HLD.out _).mono ?_; rintro e wb ⟨rfl, hx⟩
        have hown := owns_below HO.out hx
        have hb := HB.out.trans (hx.mono hbz)
        have hbz2 := hb.size
        have HO2 := Go.Lib.hid hown
        have HB2 := Go.Lib.hid hb
        clear hown hb
        clear hx
        have hsub : (at0 : Int) + (n : Int) - (at0 : Int) = (n : Int) := by omega
        have hsub2 : ((at0 + n : Nat) : Int) - (at0 : Int) = (n : Int) := by omega
        go_wp2_with (at_builtin; refine wpList_app eiPt (.tmp 75) (.tmp 81) rfl rfl w.heap.size rfl rfl (HO2.out.alloc _) (slc_new _ 2 1 34 [.int .i64 (at0 : Int), .int .i64 (n : Int)] rfl (by decide)) (one_pair at0 n) (by unfold maxLen; omega) (by omega) (by simp; omega) ?_; intro v1 w1 hown1 hg1)
        go_roundw
        case rel => exact ⟨k + 1, at0 + n, l ++ [(at0, n)], by go_num, by omega, by go_num, by omega, by simp; omega, HST.out, by rw [List.length_append, encP_snoc]; exact hown1, below_app (HB2.out.alloc hbz2 _) (HO2.out.alloc _) hg1 (Nat.le_refl _) (by simp; omega)⟩
        case measure => simp [intOf]; omega
    · obtain rfl : k = 1 := by omega
      obtain ⟨q1, q2, q3⟩ := HFS.out _ _ HNM.out
      rw [← HL.out] at q1 q2 q3
      by_cases hz : at0 + 0 = s.size
      · have hres := Go.Lib.hid (q2 hz)
        clear q2 q3
        have hz2 : (at0 : Int) + 0 = (s.size : Int) := by omega
        try simp only [Int.add_zero] at hz2
        clear hz
        go_wp2_with fail
        go_ret2
        exact retParts_some hres.out HO.out HB.out
      · have hres := Go.Lib.hid (q3 hz)
        clear q2 q3
        have hz2 : ¬ (at0 : Int) + 0 = (s.size : Int) := by omega
        try simp only [Int.add_zero] at hz2
        clear hz
        go_wp2_with fail
        go_ret2
        exact retParts_none hres.out HB.out
set_option maxRecDepth 100000 in
set_option maxHeartbeats 4000000 in
theorem Parts_15 (s : ByteArray) (w : World) (h : s.size ≤ 1000) :
    Calls Tryd.prog 10 #[.int .i64 15, .string s] w (RetParts w (Rc.partsN 15 (bl s))) := by
  have hl := size_bl s
  obtain ⟨hfn, hfs⟩ := partsN_shape (t := 15) (a := 2) (m := 1) (b := 0) rfl (d := bl s) (by omega) (by omega)
  have hen : ∀ at_ : Nat, at_ ≤ 2000 → ∀ w, Calls Tryd.prog 38 #[.string s, .int .i64 at_] w fun e w' => e = .returned (endV (bl s) at_) ∧ Below w.heap.size w w' := fun at_ hat w => end_any s at_ w (by unfold maxLen; omega) hat
  have hnn : ∀ k, Rc.names (bl s) 2 k = none → k ≤ 1 → Rc.names (bl s) 2 1 = none := fun k h1 h2 => Rc.names_none h1 h2
  have HFN := Go.Lib.hid hfn
  have HFS := Go.Lib.hid hfs
  have HEN := Go.Lib.hid hen
  have HL := Go.Lib.hid hl
  have HNN := Go.Lib.hid hnn
  clear hfn hfs hen hl hnn
  generalize Rc.partsN 15 (bl s) = res at *
  go_enter Tryd.func10, Tryd.ntmps10
  go_wp2_with fail
  go_loopw [10, 11, 12] (fun v at_ i wr => ∃ (k at0 : Nat) (l : List (Nat × Nat)), i = .int .i64 k ∧ k ≤ 1 ∧ at_ = .int .i64 at0 ∧ at0 ≤ 1010 ∧ l.length ≤ k ∧ Rc.names (bl s) 2 k = some (l, at0) ∧ wr.ownsRow w.heap.size 34 2 v l.length (encP l) ∧ Below w.heap.size w wr) (fun _ _ i _ => 1 - (intOf i).toNat)
  case atStart => exact ⟨0, 2, [], rfl, by omega, rfl, by omega, by simp, rfl, World.ownsRow_nil _ _ _ _, Below.refl _ _⟩
  case round =>
    obtain ⟨k, at0, l, rfl, hk, rfl, hat, hlk, hnm, hown, hbel⟩ := hrel
    have hbz := hbel.size
    have HNM := Go.Lib.hid hnm
    have HO := Go.Lib.hid hown
    have HB := Go.Lib.hid hbel
    clear hnm hown hbel
    by_cases hlt : k < 1
    · have hld := HEN.out at0 (by omega)
      have hstep := Rc.names_succ HNM.out
      cases hlq : Nm.lead ((bl s).drop at0) with
      | none =>
        have hv : endV (bl s) at0 = .tuple #[.int .i64 0, .bool false] := endV_none hlq
        rw [hlq] at hstep
        have hnone : Hid (res = none) := Go.Lib.hid (HFN.out (HNN.out _ hstep (by omega)))
        rw [hv] at hld
        have HLD := Go.Lib.hid hld
        clear hld
        clear hlq hstep hv
        go_wp2_with fail
        refine (HLD.out _).mono ?_; rintro e wb ⟨rfl, hx⟩
        have HB2 := Go.Lib.hid hx
        clear hx
        go_wp2_with fail
        go_ret2
        exact retParts_none hnone.out (HB.out.trans (HB2.out.mono HB.out.size))
      | some n =>
        have hv : endV (bl s) at0 = .tuple #[.int .i64 ((at0 + n : Nat) : Int), .bool true] := by unfold endV; rw [hlq]
        rw [hlq] at hstep
        simp only at hstep
        have hle := Nm.lead_le hlq
        rw [List.length_drop, ← HL.out] at hle
        rw [hv] at hld
        have HLD := Go.Lib.hid hld
        have HST := Go.Lib.hid hstep
        clear hld hstep
        clear hlq hv
        go_wp2_with fail
        refine (HLD.out _).mono ?_; rintro e wb ⟨rfl, hx⟩
        have hown := owns_below HO.out hx
        have hb := HB.out.trans (hx.mono hbz)
        have hbz2 := hb.size
        have HO2 := Go.Lib.hid hown
        have HB2 := Go.Lib.hid hb
        clear hown hb
        clear hx
        have hsub : (at0 : Int) + (n : Int) - (at0 : Int) = (n : Int) := by omega
        have hsub2 : ((at0 + n : Nat) : Int) - (at0 : Int) = (n : Int) := by omega
        go_wp2_with (at_builtin; refine wpList_app eiPt (.tmp 75) (.tmp 81) rfl rfl w.heap.size rfl rfl (HO2.out.alloc _) (slc_new _ 2 1 34 [.int .i64 (at0 : Int), .int .i64 (n : Int)] rfl (by decide)) (one_pair at0 n) (by unfold maxLen; omega) (by omega) (by simp; omega) ?_; intro v1 w1 hown1 hg1)
        go_roundw
        case rel => exact ⟨k + 1, at0 + n, l ++ [(at0, n)], by go_num, by omega, by go_num, by omega, by simp; omega, HST.out, by rw [List.length_append, encP_snoc]; exact hown1, below_app (HB2.out.alloc hbz2 _) (HO2.out.alloc _) hg1 (Nat.le_refl _) (by simp; omega)⟩
        case measure => simp [intOf]; omega
    · obtain rfl : k = 1 := by omega
      obtain ⟨q1, q2, q3⟩ := HFS.out _ _ HNM.out
      rw [← HL.out] at q1 q2 q3
      by_cases hz : at0 + 0 = s.size
      · have hres := Go.Lib.hid (q2 hz)
        clear q2 q3
        have hz2 : (at0 : Int) + 0 = (s.size : Int) := by omega
        try simp only [Int.add_zero] at hz2
        clear hz
        go_wp2_with fail
        go_ret2
        exact retParts_some hres.out HO.out HB.out
      · have hres := Go.Lib.hid (q3 hz)
        clear q2 q3
        have hz2 : ¬ (at0 : Int) + 0 = (s.size : Int) := by omega
        try simp only [Int.add_zero] at hz2
        clear hz
        go_wp2_with fail
        go_ret2
        exact retParts_none hres.out HB.out
set_option maxRecDepth 100000 in
set_option maxHeartbeats 4000000 in
theorem Parts_33 (s : ByteArray) (w : World) (h : s.size ≤ 1000) :
    Calls Tryd.prog 10 #[.int .i64 33, .string s] w (RetParts w (Rc.partsN 33 (bl s))) := by
  have hl := size_bl s
  obtain ⟨hfn, hfs⟩ := partsN_shape (t := 33) (a := 6) (m := 1) (b := 0) rfl (d := bl s) (by omega) (by omega)
  have hen : ∀ at_ : Nat, at_ ≤ 2000 → ∀ w, Calls Tryd.prog 38 #[.string s, .int .i64 at_] w fun e w' => e = .returned (endV (bl s) at_) ∧ Below w.heap.size w w' := fun at_ hat w => end_any s at_ w (by unfold maxLen; omega) hat
  have hnn : ∀ k, Rc.names (bl s) 6 k = none → k ≤ 1 → Rc.names (bl s) 6 1 = none := fun k h1 h2 => Rc.names_none h1 h2
  have HFN := Go.Lib.hid hfn
  have HFS := Go.Lib.hid hfs
  have HEN := Go.Lib.hid hen
  have HL := Go.Lib.hid hl
  have HNN := Go.Lib.hid hnn
  clear hfn hfs hen hl hnn
  generalize Rc.partsN 33 (bl s) = res at *
  go_enter Tryd.func10, Tryd.ntmps10
  go_wp2_with fail
  go_loopw [10, 11, 12] (fun v at_ i wr => ∃ (k at0 : Nat) (l : List (Nat × Nat)), i = .int .i64 k ∧ k ≤ 1 ∧ at_ = .int .i64 at0 ∧ at0 ≤ 1010 ∧ l.length ≤ k ∧ Rc.names (bl s) 6 k = some (l, at0) ∧ wr.ownsRow w.heap.size 34 2 v l.length (encP l) ∧ Below w.heap.size w wr) (fun _ _ i _ => 1 - (intOf i).toNat)
  case atStart => exact ⟨0, 6, [], rfl, by omega, rfl, by omega, by simp, rfl, World.ownsRow_nil _ _ _ _, Below.refl _ _⟩
  case round =>
    obtain ⟨k, at0, l, rfl, hk, rfl, hat, hlk, hnm, hown, hbel⟩ := hrel
    have hbz := hbel.size
    have HNM := Go.Lib.hid hnm
    have HO := Go.Lib.hid hown
    have HB := Go.Lib.hid hbel
    clear hnm hown hbel
    by_cases hlt : k < 1
    · have hld := HEN.out at0 (by omega)
      have hstep := Rc.names_succ HNM.out
      cases hlq : Nm.lead ((bl s).drop at0) with
      | none =>
        have hv : endV (bl s) at0 = .tuple #[.int .i64 0, .bool false] := endV_none hlq
        rw [hlq] at hstep
        have hnone : Hid (res = none) := Go.Lib.hid (HFN.out (HNN.out _ hstep (by omega)))
        rw [hv] at hld
        have HLD := Go.Lib.hid hld
        clear hld
        clear hlq hstep hv
        go_wp2_with fail
        refine (HLD.out _).mono ?_; rintro e wb ⟨rfl, hx⟩
        have HB2 := Go.Lib.hid hx
        clear hx
        go_wp2_with fail
        go_ret2
        exact retParts_none hnone.out (HB.out.trans (HB2.out.mono HB.out.size))
      | some n =>
        have hv : endV (bl s) at0 = .tuple #[.int .i64 ((at0 + n : Nat) : Int), .bool true] := by unfold endV; rw [hlq]
        rw [hlq] at hstep
        simp only at hstep
        have hle := Nm.lead_le hlq
        rw [List.length_drop, ← HL.out] at hle
        rw [hv] at hld
        have HLD := Go.Lib.hid hld
        have HST := Go.Lib.hid hstep
        clear hld hstep
        clear hlq hv
        go_wp2_with fail
        refine (HLD.out _).mono ?_; rintro e wb ⟨rfl, hx⟩
        have hown := owns_below HO.out hx
        have hb := HB.out.trans (hx.mono hbz)
        have hbz2 := hb.size
        have HO2 := Go.Lib.hid hown
        have HB2 := Go.Lib.hid hb
        clear hown hb
        clear hx
        have hsub : (at0 : Int) + (n : Int) - (at0 : Int) = (n : Int) := by omega
        have hsub2 : ((at0 + n : Nat) : Int) - (at0 : Int) = (n : Int) := by omega
        go_wp2_with (at_builtin; refine wpList_app eiPt (.tmp 75) (.tmp 81) rfl rfl w.heap.size rfl rfl (HO2.out.alloc _) (slc_new _ 2 1 34 [.int .i64 (at0 : Int), .int .i64 (n : Int)] rfl (by decide)) (one_pair at0 n) (by unfold maxLen; omega) (by omega) (by simp; omega) ?_; intro v1 w1 hown1 hg1)
        go_roundw
        case rel => exact ⟨k + 1, at0 + n, l ++ [(at0, n)], by go_num, by omega, by go_num, by omega, by simp; omega, HST.out, by rw [List.length_append, encP_snoc]; exact hown1, below_app (HB2.out.alloc hbz2 _) (HO2.out.alloc _) hg1 (Nat.le_refl _) (by simp; omega)⟩
        case measure => simp [intOf]; omega
    · obtain rfl : k = 1 := by omega
      obtain ⟨q1, q2, q3⟩ := HFS.out _ _ HNM.out
      rw [← HL.out] at q1 q2 q3
      by_cases hz : at0 + 0 = s.size
      · have hres := Go.Lib.hid (q2 hz)
        clear q2 q3
        have hz2 : (at0 : Int) + 0 = (s.size : Int) := by omega
        try simp only [Int.add_zero] at hz2
        clear hz
        go_wp2_with fail
        go_ret2
        exact retParts_some hres.out HO.out HB.out
      · have hres := Go.Lib.hid (q3 hz)
        clear q2 q3
        have hz2 : ¬ (at0 : Int) + 0 = (s.size : Int) := by omega
        try simp only [Int.add_zero] at hz2
        clear hz
        go_wp2_with fail
        go_ret2
        exact retParts_none hres.out HB.out
set_option maxRecDepth 100000 in
set_option maxHeartbeats 4000000 in
theorem Parts_6 (s : ByteArray) (w : World) (h : s.size ≤ 1000) :
    Calls Tryd.prog 10 #[.int .i64 6, .string s] w (RetParts w (Rc.partsN 6 (bl s))) := by
  have hl := size_bl s
  obtain ⟨hfn, hfs⟩ := partsN_shape (t := 6) (a := 0) (m := 2) (b := 20) rfl (d := bl s) (by omega) (by omega)
  have hen : ∀ at_ : Nat, at_ ≤ 2000 → ∀ w, Calls Tryd.prog 38 #[.string s, .int .i64 at_] w fun e w' => e = .returned (endV (bl s) at_) ∧ Below w.heap.size w w' := fun at_ hat w => end_any s at_ w (by unfold maxLen; omega) hat
  have hnn : ∀ k, Rc.names (bl s) 0 k = none → k ≤ 2 → Rc.names (bl s) 0 2 = none := fun k h1 h2 => Rc.names_none h1 h2
  have HFN := Go.Lib.hid hfn
  have HFS := Go.Lib.hid hfs
  have HEN := Go.Lib.hid hen
  have HL := Go.Lib.hid hl
  have HNN := Go.Lib.hid hnn
  clear hfn hfs hen hl hnn
  generalize Rc.partsN 6 (bl s) = res at *
  go_enter Tryd.func10, Tryd.ntmps10
  go_wp2_with fail
  go_loopw [10, 11, 12] (fun v at_ i wr => ∃ (k at0 : Nat) (l : List (Nat × Nat)), i = .int .i64 k ∧ k ≤ 2 ∧ at_ = .int .i64 at0 ∧ at0 ≤ 1010 ∧ l.length ≤ k ∧ Rc.names (bl s) 0 k = some (l, at0) ∧ wr.ownsRow w.heap.size 34 2 v l.length (encP l) ∧ Below w.heap.size w wr) (fun _ _ i _ => 2 - (intOf i).toNat)
  case atStart => exact ⟨0, 0, [], rfl, by omega, rfl, by omega, by simp, rfl, World.ownsRow_nil _ _ _ _, Below.refl _ _⟩
  case round =>
    obtain ⟨k, at0, l, rfl, hk, rfl, hat, hlk, hnm, hown, hbel⟩ := hrel
    have hbz := hbel.size
    have HNM := Go.Lib.hid hnm
    have HO := Go.Lib.hid hown
    have HB := Go.Lib.hid hbel
    clear hnm hown hbel
    by_cases hlt : k < 2
    · have hld := HEN.out at0 (by omega)
      have hstep := Rc.names_succ HNM.out
      cases hlq : Nm.lead ((bl s).drop at0) with
      | none =>
        have hv : endV (bl s) at0 = .tuple #[.int .i64 0, .bool false] := endV_none hlq
        rw [hlq] at hstep
        have hnone : Hid (res = none) := Go.Lib.hid (HFN.out (HNN.out _ hstep (by omega)))
        rw [hv] at hld
        have HLD := Go.Lib.hid hld
        clear hld
        clear hlq hstep hv
        go_wp2_with fail
        refine (HLD.out _).mono ?_; rintro e wb ⟨rfl, hx⟩
        have HB2 := Go.Lib.hid hx
        clear hx
        go_wp2_with fail
        go_ret2
        exact retParts_none hnone.out (HB.out.trans (HB2.out.mono HB.out.size))
      | some n =>
        have hv : endV (bl s) at0 = .tuple #[.int .i64 ((at0 + n : Nat) : Int), .bool true] := by unfold endV; rw [hlq]
        rw [hlq] at hstep
        simp only at hstep
        have hle := Nm.lead_le hlq
        rw [List.length_drop, ← HL.out] at hle
        rw [hv] at hld
        have HLD := Go.Lib.hid hld
        have HST := Go.Lib.hid hstep
        clear hld hstep
        clear hlq hv
        go_wp2_with fail
        refine (HLD.out _).mono ?_; rintro e wb ⟨rfl, hx⟩
        have hown := owns_below HO.out hx
        have hb := HB.out.trans (hx.mono hbz)
        have hbz2 := hb.size
        have HO2 := Go.Lib.hid hown
        have HB2 := Go.Lib.hid hb
        clear hown hb
        clear hx
        have hsub : (at0 : Int) + (n : Int) - (at0 : Int) = (n : Int) := by omega
        have hsub2 : ((at0 + n : Nat) : Int) - (at0 : Int) = (n : Int) := by omega
        go_wp2_with (at_builtin; refine wpList_app eiPt (.tmp 75) (.tmp 81) rfl rfl w.heap.size rfl rfl (HO2.out.alloc _) (slc_new _ 2 1 34 [.int .i64 (at0 : Int), .int .i64 (n : Int)] rfl (by decide)) (one_pair at0 n) (by unfold maxLen; omega) (by omega) (by simp; omega) ?_; intro v1 w1 hown1 hg1)
        go_roundw
        case rel => exact ⟨k + 1, at0 + n, l ++ [(at0, n)], by go_num, by omega, by go_num, by omega, by simp; omega, HST.out, by rw [List.length_append, encP_snoc]; exact hown1, below_app (HB2.out.alloc hbz2 _) (HO2.out.alloc _) hg1 (Nat.le_refl _) (by simp; omega)⟩
        case measure => simp [intOf]; omega
    · obtain rfl : k = 2 := by omega
      obtain ⟨q1, q2, q3⟩ := HFS.out _ _ HNM.out
      rw [← HL.out] at q1 q2 q3
      by_cases hz : at0 + 20 = s.size
      · have hres := Go.Lib.hid (q2 hz)
        clear q2 q3
        have hz2 : (at0 : Int) + 20 = (s.size : Int) := by omega
        try simp only [Int.add_zero] at hz2
        clear hz
        go_wp2_with fail
        go_ret2
        exact retParts_some hres.out HO.out HB.out
      · have hres := Go.Lib.hid (q3 hz)
        clear q2 q3
        have hz2 : ¬ (at0 : Int) + 20 = (s.size : Int) := by omega
        try simp only [Int.add_zero] at hz2
        clear hz
        go_wp2_with fail
        go_ret2
        exact retParts_none hres.out HB.out
theorem Parts_any (t : Int) (s : ByteArray) (w : World) :
    Calls Tryd.prog 10 #[.int .i64 t, .string s] w (RetParts w (Rc.partsN t (bl s))) := by
  by_cases h : 1000 < s.size
  · exact Parts_big t s w h
  have h := Nat.le_of_not_lt h
  by_cases h1 : t = 1 ∨ t = 28
  · exact Parts_fix t s w h h1
  by_cases h2 : t = 16
  · subst h2; exact Parts_txt s w h
  by_cases h3 : t = 2 ∨ t = 5 ∨ t = 12 ∨ t = 15 ∨ t = 33 ∨ t = 6
  · rcases h3 with rfl | rfl | rfl | rfl | rfl | rfl
    · exact Parts_2 s w h
    · exact Parts_5 s w h
    · exact Parts_12 s w h
    · exact Parts_15 s w h
    · exact Parts_33 s w h
    · exact Parts_6 s w h
  · exact Parts_none t s w h (by omega) (by omega) h2 (by unfold Rc.shape; rw [if_neg (by omega), if_neg (by omega), if_neg (by omega), if_neg (by omega)])
end Go.Proofs.YthfpijacemkbbaaDoor

