/- Merged texts of the seat, in their order: RqE, RpA, RqO, RqP, Cnt, CntB. -/
import Derived.Test.YthfhmbooeemaaaaG2
import Derived.Test.YthfhmbooeemaaaaG3
import Derived.Test.YthfhmbooeemaaaaG4
import Derived.Test.YthfhmbooeemaaaaG7
import Derived.Test.YthfhmbooeemaaaaG8
/- The contract of record.MakeA. -/
namespace Go.Proofs.Ythfhmbooeemaaaa
open Go.RowKit
set_option linter.unusedVariables false

def makeAN (n : List UInt8) (ttl x : Int) : Rc.RR := if 0 ≤ x ∧ x ≤ 4294967295 then madeN ⟨n, 1, 1, ttl, four x⟩ else rZ
theorem one_rrC (r : Rc.RR) : (rrC r).all (·.oneCell') = true := by simp [rrC, Value.oneCell']
end Go.Proofs.Ythfhmbooeemaaaa

/- The contracts of the reference's end, Parts: where names stand in data, by trying. -/
namespace Go.Proofs.Ythfhmbooeemaaaa
open Go.RowKit
set_option linter.unusedVariables false

theorem lead_none {s : List UInt8} {q : Nat} (h : ∀ m, 1 ≤ m → m ≤ q → Nm.valid (s.take m) = false) (hq : 255 ≤ q ∨ s.length ≤ q) : Nm.lead s = none := by
  cases hl : Nm.lead s with
  | none => rfl
  | some n =>
    obtain ⟨h1, h2, h3⟩ := Nm.lead_le hl
    have h4 := Rc.lead_take hl
    rw [h n h1 (by omega)] at h4
    cases h4

/-- where a name that begins at a place ends -/
def endV (d : List UInt8) (at_ : Nat) : Value := match Nm.lead (d.drop at_) with
  | some n => .tuple #[.int .i64 ((at_ + n : Nat) : Int), .bool true]
  | none => .tuple #[.int .i64 0, .bool false]
theorem endV_none {d : List UInt8} {at_ : Nat} (h : Nm.lead (d.drop at_) = none) : endV d at_ = .tuple #[.int .i64 0, .bool false] := by unfold endV; rw [h]
theorem endV_some {d : List UInt8} {at_ k : Nat} (h : Nm.lead (d.drop at_) = some (k + 1 - at_)) (hk : at_ ≤ k) : endV d at_ = .tuple #[.int .i64 ((k : Int) + 1), .bool true] := by
  unfold endV
  rw [h]
  simp only
  congr 4
  omega

set_option maxRecDepth 100000 in
set_option maxHeartbeats 1000000 in
theorem end_any (s : ByteArray) (at_ : Nat) (w : World) (hs : s.size ≤ maxLen) (ha : at_ ≤ 2000) :
    Calls Try.prog 78 #[.string s, .int .i64 at_] w fun e w' => e = .returned (endV (bl s) at_) ∧ Below w.heap.size w w' := by
  have HB := Go.Lib.hid (Below.refl w.heap.size w)
  have hl := size_bl s
  unfold maxLen at hs
  have HL := Go.Lib.hid hl
  clear hl
  go_enter Try.func78, Try.ntmps78
  go_wp2_with fail
  go_loopw [6] (fun i wr => ∃ k : Nat, i = .int .i64 k ∧ at_ ≤ k ∧ k ≤ at_ + 256 ∧ (∀ m, 1 ≤ m → m ≤ k - at_ → Nm.valid (((bl s).drop at_).take m) = false) ∧ Below w.heap.size w wr) (fun i _ => s.size - (intOf i).toNat)
  case atStart => exact ⟨at_, rfl, Nat.le_refl _, by omega, fun m h1 h2 => by omega, HB.out⟩
  case round =>
    obtain ⟨k, rfl, hk1, hk2, hall, hbr⟩ := hrel
    clear HB
    have HALL := Go.Lib.hid hall
    have HB := Go.Lib.hid hbr
    clear hall hbr
    by_cases hlt : k < s.size
    · have hx : s.extract at_ (k + 1) = mk (((bl s).drop at_).take (k + 1 - at_)) := by
        apply bl_inj
        rw [bl_extract, bl_mk]
      have hv := fun w => refValid_any (mk (((bl s).drop at_).take (k + 1 - at_))) w
      rw [bl_mk] at hv
      have i1 : (at_ : Int) ≤ (k : Int) + 1 := by omega
      have i2 : (k : Int) + 1 ≤ (s.size : Int) := by omega
      have HX := Go.Lib.hid hx
      clear hx
      cases hvb : Nm.valid (((bl s).drop at_).take (k + 1 - at_)) with
      | true =>
        have hld := Rc.take_lead (s := (bl s).drop at_) (m := k + 1 - at_) (by rw [List.length_drop, ← HL.out]; omega) hvb
        have hfin := Go.Lib.hid (endV_some hld hk1)
        rw [hvb] at hv
        have HV := Go.Lib.hid hv
        clear hv
        clear hvb hld
        go_wp2_with fail
        rw [HX.out]
        refine (HV.out _).mono ?_; rintro e wb ⟨rfl, hx⟩
        have HB2 := Go.Lib.hid hx
        clear hx
        go_wp2_with fail
        go_ret2
        exact ⟨congrArg Ending.returned hfin.out.symm, HB.out.trans (HB2.out.mono HB.out.size)⟩
      | false =>
        have hall2 : ∀ m, 1 ≤ m → m ≤ k + 1 - at_ → Nm.valid (((bl s).drop at_).take m) = false := fun m h1 h2 => by
          by_cases h3 : m ≤ k - at_
          · exact HALL.out m h1 h3
          · obtain rfl : m = k + 1 - at_ := by omega
            exact hvb
        rw [hvb] at hv
        have HV := Go.Lib.hid hv
        clear hv
        clear hvb
        by_cases hbig : 255 < k - at_
        · have hfin := Go.Lib.hid (endV_none (lead_none hall2 (.inl (by omega))))
          clear hall2
          go_wp2_with fail
          rw [HX.out]
          refine (HV.out _).mono ?_; rintro e wb ⟨rfl, hx⟩
          have HB2 := Go.Lib.hid hx
          clear hx
          go_wp2_with fail
          go_ret2
          exact ⟨congrArg Ending.returned hfin.out.symm, HB.out.trans (HB2.out.mono HB.out.size)⟩
        · have HALL2 := Go.Lib.hid hall2
          clear hall2
          go_wp2_with fail
          rw [HX.out]
          refine (HV.out _).mono ?_; rintro e wb ⟨rfl, hx⟩
          have HB2 := Go.Lib.hid hx
          clear hx
          go_wp2_with fail
          go_roundw
          case rel => exact ⟨k + 1, by go_num, by omega, by omega, HALL2.out, HB.out.trans (HB2.out.mono HB.out.size)⟩
          case measure => simp [intOf]; omega
    · have hfin := Go.Lib.hid (endV_none (lead_none HALL.out (.inr (by rw [List.length_drop, ← HL.out]; omega))))
      go_wp2_with fail
      go_ret2
      exact ⟨congrArg Ending.returned hfin.out.symm, HB.out⟩

/-! ### plain: how the parts go on -/
theorem partsN_shape {t : Int} {a m b : Nat} {d : List UInt8} (h : Rc.shape t = some (a, m, b)) (hm : 1 ≤ m) (hl : d.length ≤ 1000) :
    (Rc.names d a m = none → Rc.partsN t d = none) ∧ (∀ l e, Rc.names d a m = some (l, e) → e ≤ d.length ∧ (e + b = d.length → Rc.partsN t d = some l) ∧ (¬ e + b = d.length → Rc.partsN t d = none)) := by
  have ht : ¬ t = 1 ∧ ¬ t = 28 ∧ ¬ t = 16 := by
    refine ⟨?_, ?_, ?_⟩ <;> (rintro rfl; simp [Rc.shape] at h)
  have hd : Rc.dataB t d = (Rc.placesP t d).2 := by
    unfold Rc.dataB
    rw [if_neg (by omega), if_neg ht.1, if_neg ht.2.1, if_neg ht.2.2]
  by_cases hs : d.length < a
  · have hp : Rc.placesP t d = ([], false) := by unfold Rc.placesP; rw [h]; simp only; rw [if_pos hs]
    have hn : Rc.names d a m = none := by
      refine Rc.names_none (m := 1) ?_ hm
      rw [Rc.names_succ (show Rc.names d a 0 = some ([], a) from rfl), List.drop_of_length_le (by omega)]
      rfl
    rw [hn]
    refine ⟨fun _ => Rc.partsN_none (by rw [hd, hp]), fun l e h => by cases h⟩
  · obtain ⟨h1, h2⟩ := placesP_eq h hs
    refine ⟨fun hn => Rc.partsN_none (by rw [hd, h1 hn]), fun l e hn => ?_⟩
    have hp := h2 l e hn
    have hle := (Rc.names_chain (by omega) m l e hn).2.2.1
    refine ⟨hle, fun he => ?_, fun he => ?_⟩
    · rw [Rc.partsN_some (by rw [hd, hp]; simp; omega), hp]
    · exact Rc.partsN_none (by rw [hd, hp]; simp; omega)
theorem partsN_flat {t : Int} {d : List UInt8} {b : Bool} (h : Rc.shape t = none) (hd : Rc.dataB t d = b) : Rc.partsN t d = if b then some [] else none := by
  cases b with
  | true =>
    rw [Rc.partsN_some hd]
    unfold Rc.placesP
    rw [h]
    rfl
  | false => rw [Rc.partsN_none hd]; rfl

/-! ### Parts -/
theorem infoPt : (Try.prog.info? 119).map (fun i => (i.zero, i.size, i.bytes)) = some (some (.agg #[.int .i64 0, .int .i64 0]), 2, 16) := by kernel_rfl
theorem eiPt : EI Try.prog 101 119 2 16 := ei_of Try.underlying101 infoPt rfl (by decide)
/-- parts, or none, in new memory -/
def RetParts (w : World) (o : Option (List (Nat × Nat))) (e : Ending) (w' : World) : Prop := ∃ v, e = .returned (.tuple #[v, .bool o.isSome]) ∧ Pairs w' v (o.getD []) ∧ Below w.heap.size w w'
theorem retParts_none {w w' : World} {o : Option (List (Nat × Nat))} (h : o = none) (hb : Below w.heap.size w w') : RetParts w o (.returned (.tuple #[.slice none 0 0, .bool false])) w' := by
  subst h; exact ⟨_, rfl, SlC.nil _ _, hb⟩
theorem retParts_flat {w w' : World} {o : Option (List (Nat × Nat))} {b : Bool} (h : o = if b then some [] else none) (hb : Below w.heap.size w w') : RetParts w o (.returned (.tuple #[.slice none 0 0, .bool b])) w' := by
  subst h; cases b <;> exact ⟨_, rfl, SlC.nil _ _, hb⟩
theorem retParts_some {w w' : World} {o : Option (List (Nat × Nat))} {v : Value} {l : List (Nat × Nat)} (h : o = some l) (ho : w'.ownsRow w.heap.size 119 2 v l.length (encP l)) (hb : Below w.heap.size w w') : RetParts w o (.returned (.tuple #[v, .bool true])) w' := by
  subst h; exact ⟨_, rfl, SlC.of_owns ho, hb⟩

set_option maxRecDepth 100000 in
set_option maxHeartbeats 4000000 in
theorem Parts_big (t : Int) (s : ByteArray) (w : World) (h : 1000 < s.size) :
    Calls Try.prog 63 #[.int .i64 t, .string s] w (RetParts w (Rc.partsN t (bl s))) := by
  have hl := size_bl s
  have hfin : Hid (Rc.partsN t (bl s) = none) := Go.Lib.hid (Rc.partsN_none (by unfold Rc.dataB; rw [if_pos (by omega)]))
  clear hl
  go_enter Try.func63, Try.ntmps63
  go_wp2_with fail
  go_ret2
  exact retParts_none hfin.out (Below.refl _ _)

set_option maxRecDepth 100000 in
set_option maxHeartbeats 4000000 in
theorem Parts_fix (t : Int) (s : ByteArray) (w : World) (h : s.size ≤ 1000) (ht : t = 1 ∨ t = 28) :
    Calls Try.prog 63 #[.int .i64 t, .string s] w (RetParts w (Rc.partsN t (bl s))) := by
  have hl := size_bl s
  rcases ht with rfl | rfl
  · have hfin : Hid (Rc.partsN 1 (bl s) = if ((s.size : Int) == 4) then some [] else none) := Go.Lib.hid (partsN_flat rfl (by unfold Rc.dataB; rw [if_neg (by omega), if_pos rfl, Bool.eq_iff_iff, decide_eq_true_eq, beq_iff_eq]; omega))
    clear hl
    go_enter Try.func63, Try.ntmps63
    go_wp2_with fail
    go_ret2
    exact retParts_flat hfin.out (Below.refl _ _)
  · have hfin : Hid (Rc.partsN 28 (bl s) = if ((s.size : Int) == 16) then some [] else none) := Go.Lib.hid (partsN_flat rfl (by unfold Rc.dataB; rw [if_neg (by omega), if_neg (by omega), if_pos rfl, Bool.eq_iff_iff, decide_eq_true_eq, beq_iff_eq]; omega))
    clear hl
    go_enter Try.func63, Try.ntmps63
    go_wp2_with fail
    go_ret2
    exact retParts_flat hfin.out (Below.refl _ _)

set_option maxRecDepth 100000 in
set_option maxHeartbeats 4000000 in
theorem Parts_none (t : Int) (s : ByteArray) (w : World) (h : s.size ≤ 1000) (h1 : ¬ t = 1) (h2 : ¬ t = 28) (h3 : ¬ t = 16) (hs : Rc.shape t = none) :
    Calls Try.prog 63 #[.int .i64 t, .string s] w (RetParts w (Rc.partsN t (bl s))) := by
  have hl := size_bl s
  have hfin : Hid (Rc.partsN t (bl s) = some []) := Go.Lib.hid (partsN_flat (b := true) hs (by unfold Rc.dataB Rc.placesP; rw [if_neg (by omega), if_neg h1, if_neg h2, if_neg h3, hs]))
  have h4 : ¬ (t = 2 ∨ t = 5 ∨ t = 12) ∧ ¬ t = 15 ∧ ¬ t = 33 ∧ ¬ t = 6 := by
    unfold Rc.shape at hs
    repeat' split at hs
    all_goals first | (refine ⟨?_, ?_, ?_, ?_⟩ <;> assumption) | cases hs
  have b1 : (t == 1) = false := beq_eq_false_iff_ne.2 h1
  have b2 : (t == 28) = false := beq_eq_false_iff_ne.2 h2
  have b3 : (t == 16) = false := beq_eq_false_iff_ne.2 h3
  have b4 : (t == 15) = false := beq_eq_false_iff_ne.2 h4.2.1
  have b5 : (t == 33) = false := beq_eq_false_iff_ne.2 h4.2.2.1
  have b6 : (t == 6) = false := beq_eq_false_iff_ne.2 h4.2.2.2
  have b7 : (t == 2) = false := beq_eq_false_iff_ne.2 (by omega)
  have b8 : (t == 5) = false := beq_eq_false_iff_ne.2 (by omega)
  have b9 : (t == 12) = false := beq_eq_false_iff_ne.2 (by omega)
  clear hl h1 h2 h3 h4 hs
  go_enter Try.func63, Try.ntmps63
  go_wp2_with fail
  go_ret2
  exact retParts_flat (b := true) hfin.out (Below.refl _ _)

theorem textsB_ne {d : List UInt8} (h : 0 < d.length) : Rc.textsB d = Rc.textsF d := by
  cases d with
  | nil => simp at h
  | cons c r => rfl
theorem drop_get {d : List UInt8} {k : Nat} (h : k < d.length) : d.drop k = d.getD k 0 :: d.drop (k + 1) := by
  rw [List.drop_eq_getElem_cons h]
  simp [List.getD_eq_getElem?_getD, h]

set_option maxRecDepth 100000 in
set_option maxHeartbeats 4000000 in
theorem Parts_txt (s : ByteArray) (w : World) (h : s.size ≤ 1000) :
    Calls Try.prog 63 #[.int .i64 16, .string s] w (RetParts w (Rc.partsN 16 (bl s))) := by
  have hl := size_bl s
  have hfin : Hid (∀ b, Rc.textsB (bl s) = b → Rc.partsN 16 (bl s) = if b then some [] else none) := Go.Lib.hid (fun b hb => partsN_flat rfl (by unfold Rc.dataB; rw [if_neg (by omega), if_neg (by omega), if_neg (by omega), if_pos rfl]; exact hb))
  generalize Rc.partsN 16 (bl s) = res at *
  have HL := Go.Lib.hid hl
  clear hl
  go_enter Try.func63, Try.ntmps63
  go_wp2_with fail
  go_loopw [9] (fun i wr => wr = w ∧ ∃ k : Nat, i = .int .i64 k ∧ k ≤ s.size + 300 ∧ (k ≤ s.size → Rc.textsF ((bl s).drop k) = Rc.textsF (bl s)) ∧ (s.size < k → Rc.textsF (bl s) = false)) (fun i _ => s.size - (intOf i).toNat)
  case atStart => exact ⟨rfl, 0, rfl, by omega, fun _ => rfl, fun h => by omega⟩
  case round =>
    obtain ⟨rfl, k, rfl, hk, hk1, hk2⟩ := hrel
    by_cases hlt : k < s.size
    · have hd := drop_get (d := bl s) (k := k) (by rw [← HL.out]; exact hlt)
      have hx : s[k] = (bl s).getD k 0 := by rw [get_bl]; simp [List.getD_eq_getElem?_getD, ← HL.out, hlt]
      have hcs := Rc.textsF_cons ((bl s).getD k 0) ((bl s).drop (k + 1))
      rw [← hd, hk1 (by omega), List.length_drop, ← HL.out, List.drop_drop] at hcs
      generalize (bl s).getD k 0 = c at *
      have hcb := c.toNat_lt
      have n1 : k + 1 + c.toNat ≤ s.size → Rc.textsF ((bl s).drop (k + 1 + c.toNat)) = Rc.textsF (bl s) := fun h => by
        rw [if_neg (by omega)] at hcs
        rw [hcs]
      have n2 : s.size < k + 1 + c.toNat → Rc.textsF (bl s) = false := fun h => by
        rw [if_pos (by omega)] at hcs
        exact hcs
      have N1 := Go.Lib.hid n1
      have N2 := Go.Lib.hid n2
      clear n1 n2
      clear hcs hd hk1 hk2
      go_wp2_with fail
      go_roundw
      case rel => exact ⟨trivial, k + 1 + c.toNat, by go_num, by omega, N1.out, N2.out⟩
      case measure => simp [intOf]; omega
    · by_cases h0 : s.size = 0
      · have hb : Rc.textsB (bl s) = false := by
          have : bl s = [] := List.eq_nil_of_length_eq_zero (by rw [← HL.out]; exact h0)
          rw [this]; rfl
        have hres := Go.Lib.hid (hfin.out _ hb)
        clear hb hk1 hk2
        go_wp2_with fail
        go_ret2
        exact retParts_flat (b := false) hres.out (Below.refl _ _)
      · have hb := textsB_ne (d := bl s) (by rw [← HL.out]; omega)
        have hv : Rc.textsB (bl s) = ((k : Int) == (s.size : Int)) := by
          rw [hb]
          by_cases he : k = s.size
          · have := hk1 (by omega)
            rw [List.drop_of_length_le (by rw [← HL.out]; omega)] at this
            rw [← this, he, beq_self_eq_true]
            rfl
          · rw [hk2 (by omega)]
            symm
            rw [beq_eq_false_iff_ne]
            omega
        have hres := Go.Lib.hid (hfin.out _ hv)
        clear hb hk1 hk2 hv
        go_wp2_with fail
        go_ret2
        exact retParts_flat hres.out (Below.refl _ _)

set_option maxRecDepth 100000 in
set_option maxHeartbeats 4000000 in
theorem Parts_2 (s : ByteArray) (w : World) (h : s.size ≤ 1000) :
    Calls Try.prog 63 #[.int .i64 2, .string s] w (RetParts w (Rc.partsN 2 (bl s))) := by
  have hl := size_bl s
  obtain ⟨hfn, hfs⟩ := partsN_shape (t := 2) (a := 0) (m := 1) (b := 0) rfl (d := bl s) (by omega) (by omega)
  have hen : ∀ at_ : Nat, at_ ≤ 2000 → ∀ w, Calls Try.prog 78 #[.string s, .int .i64 at_] w fun e w' => e = .returned (endV (bl s) at_) ∧ Below w.heap.size w w' := fun at_ hat w => end_any s at_ w (by unfold maxLen; omega) hat
  have hnn : ∀ k, Rc.names (bl s) 0 k = none → k ≤ 1 → Rc.names (bl s) 0 1 = none := fun k h1 h2 => Rc.names_none h1 h2
  have HFN := Go.Lib.hid hfn
  have HFS := Go.Lib.hid hfs
  have HEN := Go.Lib.hid hen
  have HL := Go.Lib.hid hl
  have HNN := Go.Lib.hid hnn
  clear hfn hfs hen hl hnn
  generalize Rc.partsN 2 (bl s) = res at *
  go_enter Try.func63, Try.ntmps63
  go_wp2_with fail
  go_loopw [10, 11, 12] (fun v at_ i wr => ∃ (k at0 : Nat) (l : List (Nat × Nat)), i = .int .i64 k ∧ k ≤ 1 ∧ at_ = .int .i64 at0 ∧ at0 ≤ 1010 ∧ l.length ≤ k ∧ Rc.names (bl s) 0 k = some (l, at0) ∧ wr.ownsRow w.heap.size 119 2 v l.length (encP l) ∧ Below w.heap.size w wr) (fun _ _ i _ => 1 - (intOf i).toNat)
  case atStart => exact ⟨0, 0, [], rfl, by omega, rfl, by omega, by simp, rfl, World.ownsRow_nil _ _ _ _, Below.refl _ _⟩
  case round =>
    obtain ⟨k, at0, l, rfl, hk, rfl, hat, hlk, hnm, hown, hbel⟩ := hrel
    have hbz := hbel.size
    have HNM := Go.Lib.hid hnm
    have HO := Go.Lib.hid hown
    have HB := Go.Lib.hid hbel
    clear hnm hown hbel
    by_cases hlt : k < 1
    · have hld := HEN.out at0 (by omega)
      have hstep := Rc.names_succ HNM.out
      cases hlq : Nm.lead ((bl s).drop at0) with
      | none =>
        have hv : endV (bl s) at0 = .tuple #[.int .i64 0, .bool false] := endV_none hlq
        rw [hlq] at hstep
        have hnone : Hid (res = none) := Go.Lib.hid (HFN.out (HNN.out _ hstep (by omega)))
        rw [hv] at hld
        have HLD := Go.Lib.hid hld
        clear hld
        clear hlq hstep hv
        go_wp2_with fail
        refine (HLD.out _).mono ?_; rintro e wb ⟨rfl, hx⟩
        have HB2 := Go.Lib.hid hx
        clear hx
        go_wp2_with fail
        go_ret2
        exact retParts_none hnone.out (HB.out.trans (HB2.out.mono HB.out.size))
      | some n =>
        have hv : endV (bl s) at0 = .tuple #[.int .i64 ((at0 + n : Nat) : Int), .bool true] := by unfold endV; rw [hlq]
        rw [hlq] at hstep
        simp only at hstep
        have hle := Nm.lead_le hlq
        rw [List.length_drop, ← HL.out] at hle
        rw [hv] at hld
        have HLD := Go.Lib.hid hld
        have HST := Go.Lib.hid hstep
        clear hld hstep
        clear hlq hv
        go_wp2_with fail
        refine (HLD.out _).mono ?_; rintro e wb ⟨rfl, hx⟩
        have hown := owns_below HO.out hx
        have hb := HB.out.trans (hx.mono hbz)
        have hbz2 := hb.size
        have HO2 := Go.Lib.hid hown
        have HB2 := Go.Lib.hid hb
        clear hown hb
        clear hx
        have hsub : (at0 : Int) + (n : Int) - (at0 : Int) = (n : Int) := by omega
        have hsub2 : ((at0 + n : Nat) : Int) - (at0 : Int) = (n : Int) := by omega
        go_wp2_with (at_builtin; refine wpList_app eiPt (.tmp 75) (.tmp 81) rfl rfl w.heap.size rfl rfl (HO2.out.alloc _) (slc_new _ 2 1 119 [.int .i64 (at0 : Int), .int .i64 (n : Int)] rfl (by decide)) (one_pair at0 n) (by unfold maxLen; omega) (by omega) (by simp; omega) ?_; intro v1 w1 hown1 hg1)
        go_roundw
        case rel => exact ⟨k + 1, at0 + n, l ++ [(at0, n)], by go_num, by omega, by go_num, by omega, by simp; omega, HST.out, by rw [List.length_append, encP_snoc]; exact hown1, below_app (HB2.out.alloc hbz2 _) (HO2.out.alloc _) hg1 (Nat.le_refl _) (by simp; omega)⟩
        case measure => simp [intOf]; omega
    · obtain rfl : k = 1 := by omega
      obtain ⟨q1, q2, q3⟩ := HFS.out _ _ HNM.out
      rw [← HL.out] at q1 q2 q3
      by_cases hz : at0 + 0 = s.size
      · have hres := Go.Lib.hid (q2 hz)
        clear q2 q3
        have hz2 : (at0 : Int) + 0 = (s.size : Int) := by omega
        try simp only [Int.add_zero] at hz2
        clear hz
        go_wp2_with fail
        go_ret2
        exact retParts_some hres.out HO.out HB.out
      · have hres := Go.Lib.hid (q3 hz)
        clear q2 q3
        have hz2 : ¬ (at0 : Int) + 0 = (s.size : Int) := by omega
        try simp only [Int.add_zero] at hz2
        clear hz
        go_wp2_with fail
        go_ret2
        exact retParts_none hres.out HB.out
set_option maxRecDepth 100000 in
set_option maxHeartbeats 4000000 in
theorem Parts_5 (s : ByteArray) (w : World) (h : s.size ≤ 1000) :
    Calls Try.prog 63 #[.int .i64 5, .string s] w (RetParts w (Rc.partsN 5 (bl s))) := by
  have hl := size_bl s
  obtain ⟨hfn, hfs⟩ := partsN_shape (t := 5) (a := 0) (m := 1) (b := 0) rfl (d := bl s) (by omega) (by omega)
  have hen : ∀ at_ : Nat, at_ ≤ 2000 → ∀ w, Calls Try.prog 78 #[.string s, .int .i64 at_] w fun e w' => e = .returned (endV (bl s) at_) ∧ Below w.heap.size w w' := fun at_ hat w => end_any s at_ w (by unfold maxLen; omega) hat
  have hnn : ∀ k, Rc.names (bl s) 0 k = none → k ≤ 1 → Rc.names (bl s) 0 1 = none := fun k h1 h2 => Rc.names_none h1 h2
  have HFN := Go.Lib.hid hfn
  have HFS := Go.Lib.hid hfs
  have HEN := Go.Lib.hid hen
  have HL := Go.Lib.hid hl
  have HNN := Go.Lib.hid hnn
  clear hfn hfs hen hl hnn
  generalize Rc.partsN 5 (bl s) = res at *
  go_enter Try.func63, Try.ntmps63
  go_wp2_with fail
  go_loopw [10, 11, 12] (fun v at_ i wr => ∃ (k at0 : Nat) (l : List (Nat × Nat)), i = .int .i64 k ∧ k ≤ 1 ∧ at_ = .int .i64 at0 ∧ at0 ≤ 1010 ∧ l.length ≤ k ∧ Rc.names (bl s) 0 k = some (l, at0) ∧ wr.ownsRow w.heap.size 119 2 v l.length (encP l) ∧ Below w.heap.size w wr) (fun _ _ i _ => 1 - (intOf i).toNat)
  case atStart => exact ⟨0, 0, [], rfl, by omega, rfl, by omega, by simp, rfl, World.ownsRow_nil _ _ _ _, Below.refl _ _⟩
  case round =>
    obtain ⟨k, at0, l, rfl, hk, rfl, hat, hlk, hnm, hown, hbel⟩ := hrel
    have hbz := hbel.size
    have HNM := Go.Lib.hid hnm
    have HO := Go.Lib.hid hown
    have HB := Go.Lib.hid hbel
    clear hnm hown hbel
    by_cases hlt : k < 1
    · have hld := HEN.out at0 (by omega)
      have hstep := Rc.names_succ HNM.out
      cases hlq : Nm.lead ((bl s).drop at0) with
      | none =>
        have hv : endV (bl s) at0 = .tuple #[.int .i64 0, .bool false] := endV_none hlq
        rw [hlq] at hstep
        have hnone : Hid (res = none) := Go.Lib.hid (HFN.out (HNN.out _ hstep (by omega)))
        rw [hv] at hld
        have HLD := Go.Lib.hid hld
        clear hld
        clear hlq hstep hv
        go_wp2_with fail
        refine (HLD.out _).mono ?_; rintro e wb ⟨rfl, hx⟩
        have HB2 := Go.Lib.hid hx
        clear hx
        go_wp2_with fail
        go_ret2
        exact retParts_none hnone.out (HB.out.trans (HB2.out.mono HB.out.size))
      | some n =>
        have hv : endV (bl s) at0 = .tuple #[.int .i64 ((at0 + n : Nat) : Int), .bool true] := by unfold endV; rw [hlq]
        rw [hlq] at hstep
        simp only at hstep
        have hle := Nm.lead_le hlq
        rw [List.length_drop, ← HL.out] at hle
        rw [hv] at hld
        have HLD := Go.Lib.hid hld
        have HST := Go.Lib.hid hstep
        clear hld hstep
        clear hlq hv
        go_wp2_with fail
        refine (HLD.out _).mono ?_; rintro e wb ⟨rfl, hx⟩
        have hown := owns_below HO.out hx
        have hb := HB.out.trans (hx.mono hbz)
        have hbz2 := hb.size
        have HO2 := Go.Lib.hid hown
        have HB2 := Go.Lib.hid hb
        clear hown hb
        clear hx
        have hsub : (at0 : Int) + (n : Int) - (at0 : Int) = (n : Int) := by omega
        have hsub2 : ((at0 + n : Nat) : Int) - (at0 : Int) = (n : Int) := by omega
        go_wp2_with (at_builtin; refine wpList_app eiPt (.tmp 75) (.tmp 81) rfl rfl w.heap.size rfl rfl (HO2.out.alloc _) (slc_new _ 2 1 119 [.int .i64 (at0 : Int), .int .i64 (n : Int)] rfl (by decide)) (one_pair at0 n) (by unfold maxLen; omega) (by omega) (by simp; omega) ?_; intro v1 w1 hown1 hg1)
        go_roundw
        case rel => exact ⟨k + 1, at0 + n, l ++ [(at0, n)], by go_num, by omega, by go_num, by omega, by simp; omega, HST.out, by rw [List.length_append, encP_snoc]; exact hown1, below_app (HB2.out.alloc hbz2 _) (HO2.out.alloc _) hg1 (Nat.le_refl _) (by simp; omega)⟩
        case measure => simp [intOf]; omega
    · obtain rfl : k = 1 := by omega
      obtain ⟨q1, q2, q3⟩ := HFS.out _ _ HNM.out
      rw [← HL.out] at q1 q2 q3
      by_cases hz : at0 + 0 = s.size
      · have hres := Go.Lib.hid (q2 hz)
        clear q2 q3
        have hz2 : (at0 : Int) + 0 = (s.size : Int) := by omega
        try simp only [Int.add_zero] at hz2
        clear hz
        go_wp2_with fail
        go_ret2
        exact retParts_some hres.out HO.out HB.out
      · have hres := Go.Lib.hid (q3 hz)
        clear q2 q3
        have hz2 : ¬ (at0 : Int) + 0 = (s.size : Int) := by omega
        try simp only [Int.add_zero] at hz2
        clear hz
        go_wp2_with fail
        go_ret2
        exact retParts_none hres.out HB.out
set_option maxRecDepth 100000 in
set_option maxHeartbeats 4000000 in
theorem Parts_12 (s : ByteArray) (w : World) (h : s.size ≤ 1000) :
    Calls Try.prog 63 #[.int .i64 12, .string s] w (RetParts w (Rc.partsN 12 (bl s))) := by
  have hl := size_bl s
  obtain ⟨hfn, hfs⟩ := partsN_shape (t := 12) (a := 0) (m := 1) (b := 0) rfl (d := bl s) (by omega) (by omega)
  have hen : ∀ at_ : Nat, at_ ≤ 2000 → ∀ w, Calls Try.prog 78 #[.string s, .int .i64 at_] w fun e w' => e = .returned (endV (bl s) at_) ∧ Below w.heap.size w w' := fun at_ hat w => end_any s at_ w (by unfold maxLen; omega) hat
  have hnn : ∀ k, Rc.names (bl s) 0 k = none → k ≤ 1 → Rc.names (bl s) 0 1 = none := fun k h1 h2 => Rc.names_none h1 h2
  have HFN := Go.Lib.hid hfn
  have HFS := Go.Lib.hid hfs
  have HEN := Go.Lib.hid hen
  have HL := Go.Lib.hid hl
  have HNN := Go.Lib.hid hnn
  clear hfn hfs hen hl hnn
  generalize Rc.partsN 12 (bl s) = res at *
  go_enter Try.func63, Try.ntmps63
  go_wp2_with fail
  go_loopw [10, 11, 12] (fun v at_ i wr => ∃ (k at0 : Nat) (l : List (Nat × Nat)), i = .int .i64 k ∧ k ≤ 1 ∧ at_ = .int .i64 at0 ∧ at0 ≤ 1010 ∧ l.length ≤ k ∧ Rc.names (bl s) 0 k = some (l, at0) ∧ wr.ownsRow w.heap.size 119 2 v l.length (encP l) ∧ Below w.heap.size w wr) (fun _ _ i _ => 1 - (intOf i).toNat)
  case atStart => exact ⟨0, 0, [], rfl, by omega, rfl, by omega, by simp, rfl, World.ownsRow_nil _ _ _ _, Below.refl _ _⟩
  case round =>
    obtain ⟨k, at0, l, rfl, hk, rfl, hat, hlk, hnm, hown, hbel⟩ := hrel
    have hbz := hbel.size
    have HNM := Go.Lib.hid hnm
    have HO := Go.Lib.hid hown
    have HB := Go.Lib.hid hbel
    clear hnm hown hbel
    by_cases hlt : k < 1
    · have hld := HEN.out at0 (by omega)
      have hstep := Rc.names_succ HNM.out
      cases hlq : Nm.lead ((bl s).drop at0) with
      | none =>
        have hv : endV (bl s) at0 = .tuple #[.int .i64 0, .bool false] := endV_none hlq
        rw [hlq] at hstep
        have hnone : Hid (res = none) := Go.Lib.hid (HFN.out (HNN.out _ hstep (by omega)))
        rw [hv] at hld
        have HLD := Go.Lib.hid hld
        clear hld
        clear hlq hstep hv
        go_wp2_with fail
        refine (HLD.out _).mono ?_; rintro e wb ⟨rfl, hx⟩
        have HB2 := Go.Lib.hid hx
        clear hx
        go_wp2_with fail
        go_ret2
        exact retParts_none hnone.out (HB.out.trans (HB2.out.mono HB.out.size))
      | some n =>
        have hv : endV (bl s) at0 = .tuple #[.int .i64 ((at0 + n : Nat) : Int), .bool true] := by unfold endV; rw [hlq]
        rw [hlq] at hstep
        simp only at hstep
        have hle := Nm.lead_le hlq
        rw [List.length_drop, ← HL.out] at hle
        rw [hv] at hld
        have HLD := Go.Lib.hid hld
        have HST := Go.Lib.hid hstep
        clear hld hstep
        clear hlq hv
        go_wp2_with fail
        refine (HLD.out _).mono ?_; rintro e wb ⟨rfl, hx⟩
        have hown := owns_below HO.out hx
        have hb := HB.out.trans (hx.mono hbz)
        have hbz2 := hb.size
        have HO2 := Go.Lib.hid hown
        have HB2 := Go.Lib.hid hb
        clear hown hb
        clear hx
        have hsub : (at0 : Int) + (n : Int) - (at0 : Int) = (n : Int) := by omega
        have hsub2 : ((at0 + n : Nat) : Int) - (at0 : Int) = (n : Int) := by omega
        go_wp2_with (at_builtin; refine wpList_app eiPt (.tmp 75) (.tmp 81) rfl rfl w.heap.size rfl rfl (HO2.out.alloc _) (slc_new _ 2 1 119 [.int .i64 (at0 : Int), .int .i64 (n : Int)] rfl (by decide)) (one_pair at0 n) (by unfold maxLen; omega) (by omega) (by simp; omega) ?_; intro v1 w1 hown1 hg1)
        go_roundw
        case rel => exact ⟨k + 1, at0 + n, l ++ [(at0, n)], by go_num, by omega, by go_num, by omega, by simp; omega, HST.out, by rw [List.length_append, encP_snoc]; exact hown1, below_app (HB2.out.alloc hbz2 _) (HO2.out.alloc _) hg1 (Nat.le_refl _) (by simp; omega)⟩
        case measure => simp [intOf]; omega
    · obtain rfl : k = 1 := by omega
      obtain ⟨q1, q2, q3⟩ := HFS.out _ _ HNM.out
      rw [← HL.out] at q1 q2 q3
      by_cases hz : at0 + 0 = s.size
      · have hres := Go.Lib.hid (q2 hz)
        clear q2 q3
        have hz2 : (at0 : Int) + 0 = (s.size : Int) := by omega
        try simp only [Int.add_zero] at hz2
        clear hz
        go_wp2_with fail
        go_ret2
        exact retParts_some hres.out HO.out HB.out
      · have hres := Go.Lib.hid (q3 hz)
        clear q2 q3
        have hz2 : ¬ (at0 : Int) + 0 = (s.size : Int) := by omega
        try simp only [Int.add_zero] at hz2
        clear hz
        go_wp2_with fail
        go_ret2
        exact retParts_none hres.out HB.out
set_option maxRecDepth 100000 in
set_option maxHeartbeats 4000000 in
theorem Parts_15 (s : ByteArray) (w : World) (h : s.size ≤ 1000) :
    Calls Try.prog 63 #[.int .i64 15, .string s] w (RetParts w (Rc.partsN 15 (bl s))) := by
  have hl := size_bl s
  obtain ⟨hfn, hfs⟩ := partsN_shape (t := 15) (a := 2) (m := 1) (b := 0) rfl (d := bl s) (by omega) (by omega)
  have hen : ∀ at_ : Nat, at_ ≤ 2000 → ∀ w, Calls Try.prog 78 #[.string s, .int .i64 at_] w fun e w' => e = .returned (endV (bl s) at_) ∧ Below w.heap.size w w' := fun at_ hat w => end_any s at_ w (by unfold maxLen; omega) hat
  have hnn : ∀ k, Rc.names (bl s) 2 k = none → k ≤ 1 → Rc.names (bl s) 2 1 = none := fun k h1 h2 => Rc.names_none h1 h2
  have HFN := Go.Lib.hid hfn
  have HFS := Go.Lib.hid hfs
  have HEN := Go.Lib.hid hen
  have HL := Go.Lib.hid hl
  have HNN := Go.Lib.hid hnn
  clear hfn hfs hen hl hnn
  generalize Rc.partsN 15 (bl s) = res at *
  go_enter Try.func63, Try.ntmps63
  go_wp2_with fail
  go_loopw [10, 11, 12] (fun v at_ i wr => ∃ (k at0 : Nat) (l : List (Nat × Nat)), i = .int .i64 k ∧ k ≤ 1 ∧ at_ = .int .i64 at0 ∧ at0 ≤ 1010 ∧ l.length ≤ k ∧ Rc.names (bl s) 2 k = some (l, at0) ∧ wr.ownsRow w.heap.size 119 2 v l.length (encP l) ∧ Below w.heap.size w wr) (fun _ _ i _ => 1 - (intOf i).toNat)
  case atStart => exact ⟨0, 2, [], rfl, by omega, rfl, by omega, by simp, rfl, World.ownsRow_nil _ _ _ _, Below.refl _ _⟩
  case round =>
    obtain ⟨k, at0, l, rfl, hk, rfl, hat, hlk, hnm, hown, hbel⟩ := hrel
    have hbz := hbel.size
    have HNM := Go.Lib.hid hnm
    have HO := Go.Lib.hid hown
    have HB := Go.Lib.hid hbel
    clear hnm hown hbel
    by_cases hlt : k < 1
    · have hld := HEN.out at0 (by omega)
      have hstep := Rc.names_succ HNM.out
      cases hlq : Nm.lead ((bl s).drop at0) with
      | none =>
        have hv : endV (bl s) at0 = .tuple #[.int .i64 0, .bool false] := endV_none hlq
        rw [hlq] at hstep
        have hnone : Hid (res = none) := Go.Lib.hid (HFN.out (HNN.out _ hstep (by omega)))
        rw [hv] at hld
        have HLD := Go.Lib.hid hld
        clear hld
        clear hlq hstep hv
        go_wp2_with fail
        refine (HLD.out _).mono ?_; rintro e wb ⟨rfl, hx⟩
        have HB2 := Go.Lib.hid hx
        clear hx
        go_wp2_with fail
        go_ret2
        exact retParts_none hnone.out (HB.out.trans (HB2.out.mono HB.out.size))
      | some n =>
        have hv : endV (bl s) at0 = .tuple #[.int .i64 ((at0 + n : Nat) : Int), .bool true] := by unfold endV; rw [hlq]
        rw [hlq] at hstep
        simp only at hstep
        have hle := Nm.lead_le hlq
        rw [List.length_drop, ← HL.out] at hle
        rw [hv] at hld
        have HLD := Go.Lib.hid hld
        have HST := Go.Lib.hid hstep
        clear hld hstep
        clear hlq hv
        go_wp2_with fail
        refine (HLD.out _).mono ?_; rintro e wb ⟨rfl, hx⟩
        have hown := owns_below HO.out hx
        have hb := HB.out.trans (hx.mono hbz)
        have hbz2 := hb.size
        have HO2 := Go.Lib.hid hown
        have HB2 := Go.Lib.hid hb
        clear hown hb
        clear hx
        have hsub : (at0 : Int) + (n : Int) - (at0 : Int) = (n : Int) := by omega
        have hsub2 : ((at0 + n : Nat) : Int) - (at0 : Int) = (n : Int) := by omega
        go_wp2_with (at_builtin; refine wpList_app eiPt (.tmp 75) (.tmp 81) rfl rfl w.heap.size rfl rfl (HO2.out.alloc _) (slc_new _ 2 1 119 [.int .i64 (at0 : Int), .int .i64 (n : Int)] rfl (by decide)) (one_pair at0 n) (by unfold maxLen; omega) (by omega) (by simp; omega) ?_; intro v1 w1 hown1 hg1)
        go_roundw
        case rel => exact ⟨k + 1, at0 + n, l ++ [(at0, n)], by go_num, by omega, by go_num, by omega, by simp; omega, HST.out, by rw [List.length_append, encP_snoc]; exact hown1, below_app (HB2.out.alloc hbz2 _) (HO2.out.alloc _) hg1 (Nat.le_refl _) (by simp; omega)⟩
        case measure => simp [intOf]; omega
    · obtain rfl : k = 1 := by omega
      obtain ⟨q1, q2, q3⟩ := HFS.out _ _ HNM.out
      rw [← HL.out] at q1 q2 q3
      by_cases hz : at0 + 0 = s.size
      · have hres := Go.Lib.hid (q2 hz)
        clear q2 q3
        have hz2 : (at0 : Int) + 0 = (s.size : Int) := by omega
        try simp only [Int.add_zero] at hz2
        clear hz
        go_wp2_with fail
        go_ret2
        exact retParts_some hres.out HO.out HB.out
      · have hres := Go.Lib.hid (q3 hz)
        clear q2 q3
        have hz2 : ¬ (at0 : Int) + 0 = (s.size : Int) := by omega
        try simp only [Int.add_zero] at hz2
        clear hz
        go_wp2_with fail
        go_ret2
        exact retParts_none hres.out HB.out
set_option maxRecDepth 100000 in
set_option maxHeartbeats 4000000 in
theorem Parts_33 (s : ByteArray) (w : World) (h : s.size ≤ 1000) :
    Calls Try.prog 63 #[.int .i64 33, .string s] w (RetParts w (Rc.partsN 33 (bl s))) := by
  have hl := size_bl s
  obtain ⟨hfn, hfs⟩ := partsN_shape (t := 33) (a := 6) (m := 1) (b := 0) rfl (d := bl s) (by omega) (by omega)
  have hen : ∀ at_ : Nat, at_ ≤ 2000 → ∀ w, Calls Try.prog 78 #[.string s, .int .i64 at_] w fun e w' => e = .returned (endV (bl s) at_) ∧ Below w.heap.size w w' := fun at_ hat w => end_any s at_ w (by unfold maxLen; omega) hat
  have hnn : ∀ k, Rc.names (bl s) 6 k = none → k ≤ 1 → Rc.names (bl s) 6 1 = none := fun k h1 h2 => Rc.names_none h1 h2
  have HFN := Go.Lib.hid hfn
  have HFS := Go.Lib.hid hfs
  have HEN := Go.Lib.hid hen
  have HL := Go.Lib.hid hl
  have HNN := Go.Lib.hid hnn
  clear hfn hfs hen hl hnn
  generalize Rc.partsN 33 (bl s) = res at *
  go_enter Try.func63, Try.ntmps63
  go_wp2_with fail
  go_loopw [10, 11, 12] (fun v at_ i wr => ∃ (k at0 : Nat) (l : List (Nat × Nat)), i = .int .i64 k ∧ k ≤ 1 ∧ at_ = .int .i64 at0 ∧ at0 ≤ 1010 ∧ l.length ≤ k ∧ Rc.names (bl s) 6 k = some (l, at0) ∧ wr.ownsRow w.heap.size 119 2 v l.length (encP l) ∧ Below w.heap.size w wr) (fun _ _ i _ => 1 - (intOf i).toNat)
  case atStart => exact ⟨0, 6, [], rfl, by omega, rfl, by omega, by simp, rfl, World.ownsRow_nil _ _ _ _, Below.refl _ _⟩
  case round =>
    obtain ⟨k, at0, l, rfl, hk, rfl, hat, hlk, hnm, hown, hbel⟩ := hrel
    have hbz := hbel.size
    have HNM := Go.Lib.hid hnm
    have HO := Go.Lib.hid hown
    have HB := Go.Lib.hid hbel
    clear hnm hown hbel
    by_cases hlt : k < 1
    · have hld := HEN.out at0 (by omega)
      have hstep := Rc.names_succ HNM.out
      cases hlq : Nm.lead ((bl s).drop at0) with
      | none =>
        have hv : endV (bl s) at0 = .tuple #[.int .i64 0, .bool false] := endV_none hlq
        rw [hlq] at hstep
        have hnone : Hid (res = none) := Go.Lib.hid (HFN.out (HNN.out _ hstep (by omega)))
        rw [hv] at hld
        have HLD := Go.Lib.hid hld
        clear hld
        clear hlq hstep hv
        go_wp2_with fail
        refine (HLD.out _).mono ?_; rintro e wb ⟨rfl, hx⟩
        have HB2 := Go.Lib.hid hx
        clear hx
        go_wp2_with fail
        go_ret2
        exact retParts_none hnone.out (HB.out.trans (HB2.out.mono HB.out.size))
      | some n =>
        have hv : endV (bl s) at0 = .tuple #[.int .i64 ((at0 + n : Nat) : Int), .bool true] := by unfold endV; rw [hlq]
        rw [hlq] at hstep
        simp only at hstep
        have hle := Nm.lead_le hlq
        rw [List.length_drop, ← HL.out] at hle
        rw [hv] at hld
        have HLD := Go.Lib.hid hld
        have HST := Go.Lib.hid hstep
        clear hld hstep
        clear hlq hv
        go_wp2_with fail
        refine (HLD.out _).mono ?_; rintro e wb ⟨rfl, hx⟩
        have hown := owns_below HO.out hx
        have hb := HB.out.trans (hx.mono hbz)
        have hbz2 := hb.size
        have HO2 := Go.Lib.hid hown
        have HB2 := Go.Lib.hid hb
        clear hown hb
        clear hx
        have hsub : (at0 : Int) + (n : Int) - (at0 : Int) = (n : Int) := by omega
        have hsub2 : ((at0 + n : Nat) : Int) - (at0 : Int) = (n : Int) := by omega
        go_wp2_with (at_builtin; refine wpList_app eiPt (.tmp 75) (.tmp 81) rfl rfl w.heap.size rfl rfl (HO2.out.alloc _) (slc_new _ 2 1 119 [.int .i64 (at0 : Int), .int .i64 (n : Int)] rfl (by decide)) (one_pair at0 n) (by unfold maxLen; omega) (by omega) (by simp; omega) ?_; intro v1 w1 hown1 hg1)
        go_roundw
        case rel => exact ⟨k + 1, at0 + n, l ++ [(at0, n)], by go_num, by omega, by go_num, by omega, by simp; omega, HST.out, by rw [List.length_append, encP_snoc]; exact hown1, below_app (HB2.out.alloc hbz2 _) (HO2.out.alloc _) hg1 (Nat.le_refl _) (by simp; omega)⟩
        case measure => simp [intOf]; omega
    · obtain rfl : k = 1 := by omega
      obtain ⟨q1, q2, q3⟩ := HFS.out _ _ HNM.out
      rw [← HL.out] at q1 q2 q3
      by_cases hz : at0 + 0 = s.size
      · have hres := Go.Lib.hid (q2 hz)
        clear q2 q3
        have hz2 : (at0 : Int) + 0 = (s.size : Int) := by omega
        try simp only [Int.add_zero] at hz2
        clear hz
        go_wp2_with fail
        go_ret2
        exact retParts_some hres.out HO.out HB.out
      · have hres := Go.Lib.hid (q3 hz)
        clear q2 q3
        have hz2 : ¬ (at0 : Int) + 0 = (s.size : Int) := by omega
        try simp only [Int.add_zero] at hz2
        clear hz
        go_wp2_with fail
        go_ret2
        exact retParts_none hres.out HB.out
set_option maxRecDepth 100000 in
set_option maxHeartbeats 4000000 in
theorem Parts_6 (s : ByteArray) (w : World) (h : s.size ≤ 1000) :
    Calls Try.prog 63 #[.int .i64 6, .string s] w (RetParts w (Rc.partsN 6 (bl s))) := by
  have hl := size_bl s
  obtain ⟨hfn, hfs⟩ := partsN_shape (t := 6) (a := 0) (m := 2) (b := 20) rfl (d := bl s) (by omega) (by omega)
  have hen : ∀ at_ : Nat, at_ ≤ 2000 → ∀ w, Calls Try.prog 78 #[.string s, .int .i64 at_] w fun e w' => e = .returned (endV (bl s) at_) ∧ Below w.heap.size w w' := fun at_ hat w => end_any s at_ w (by unfold maxLen; omega) hat
  have hnn : ∀ k, Rc.names (bl s) 0 k = none → k ≤ 2 → Rc.names (bl s) 0 2 = none := fun k h1 h2 => Rc.names_none h1 h2
  have HFN := Go.Lib.hid hfn
  have HFS := Go.Lib.hid hfs
  have HEN := Go.Lib.hid hen
  have HL := Go.Lib.hid hl
  have HNN := Go.Lib.hid hnn
  clear hfn hfs hen hl hnn
  generalize Rc.partsN 6 (bl s) = res at *
  go_enter Try.func63, Try.ntmps63
  go_wp2_with fail
  go_loopw [10, 11, 12] (fun v at_ i wr => ∃ (k at0 : Nat) (l : List (Nat × Nat)), i = .int .i64 k ∧ k ≤ 2 ∧ at_ = .int .i64 at0 ∧ at0 ≤ 1010 ∧ l.length ≤ k ∧ Rc.names (bl s) 0 k = some (l, at0) ∧ wr.ownsRow w.heap.size 119 2 v l.length (encP l) ∧ Below w.heap.size w wr) (fun _ _ i _ => 2 - (intOf i).toNat)
  case atStart => exact ⟨0, 0, [], rfl, by omega, rfl, by omega, by simp, rfl, World.ownsRow_nil _ _ _ _, Below.refl _ _⟩
  case round =>
    obtain ⟨k, at0, l, rfl, hk, rfl, hat, hlk, hnm, hown, hbel⟩ := hrel
    have hbz := hbel.size
    have HNM := Go.Lib.hid hnm
    have HO := Go.Lib.hid hown
    have HB := Go.Lib.hid hbel
    clear hnm hown hbel
    by_cases hlt : k < 2
    · have hld := HEN.out at0 (by omega)
      have hstep := Rc.names_succ HNM.out
      cases hlq : Nm.lead ((bl s).drop at0) with
      | none =>
        have hv : endV (bl s) at0 = .tuple #[.int .i64 0, .bool false] := endV_none hlq
        rw [hlq] at hstep
        have hnone : Hid (res = none) := Go.Lib.hid (HFN.out (HNN.out _ hstep (by omega)))
        rw [hv] at hld
        have HLD := Go.Lib.hid hld
        clear hld
        clear hlq hstep hv
        go_wp2_with fail
        refine (HLD.out _).mono ?_; rintro e wb ⟨rfl, hx⟩
        have HB2 := Go.Lib.hid hx
        clear hx
        go_wp2_with fail
        go_ret2
        exact retParts_none hnone.out (HB.out.trans (HB2.out.mono HB.out.size))
      | some n =>
        have hv : endV (bl s) at0 = .tuple #[.int .i64 ((at0 + n : Nat) : Int), .bool true] := by unfold endV; rw [hlq]
        rw [hlq] at hstep
        simp only at hstep
        have hle := Nm.lead_le hlq
        rw [List.length_drop, ← HL.out] at hle
        rw [hv] at hld
        have HLD := Go.Lib.hid hld
        have HST := Go.Lib.hid hstep
        clear hld hstep
        clear hlq hv
        go_wp2_with fail
        refine (HLD.out _).mono ?_; rintro e wb ⟨rfl, hx⟩
        have hown := owns_below HO.out hx
        have hb := HB.out.trans (hx.mono hbz)
        have hbz2 := hb.size
        have HO2 := Go.Lib.hid hown
        have HB2 := Go.Lib.hid hb
        clear hown hb
        clear hx
        have hsub : (at0 : Int) + (n : Int) - (at0 : Int) = (n : Int) := by omega
        have hsub2 : ((at0 + n : Nat) : Int) - (at0 : Int) = (n : Int) := by omega
        go_wp2_with (at_builtin; refine wpList_app eiPt (.tmp 75) (.tmp 81) rfl rfl w.heap.size rfl rfl (HO2.out.alloc _) (slc_new _ 2 1 119 [.int .i64 (at0 : Int), .int .i64 (n : Int)] rfl (by decide)) (one_pair at0 n) (by unfold maxLen; omega) (by omega) (by simp; omega) ?_; intro v1 w1 hown1 hg1)
        go_roundw
        case rel => exact ⟨k + 1, at0 + n, l ++ [(at0, n)], by go_num, by omega, by go_num, by omega, by simp; omega, HST.out, by rw [List.length_append, encP_snoc]; exact hown1, below_app (HB2.out.alloc hbz2 _) (HO2.out.alloc _) hg1 (Nat.le_refl _) (by simp; omega)⟩
        case measure => simp [intOf]; omega
    · obtain rfl : k = 2 := by omega
      obtain ⟨q1, q2, q3⟩ := HFS.out _ _ HNM.out
      rw [← HL.out] at q1 q2 q3
      by_cases hz : at0 + 20 = s.size
      · have hres := Go.Lib.hid (q2 hz)
        clear q2 q3
        have hz2 : (at0 : Int) + 20 = (s.size : Int) := by omega
        try simp only [Int.add_zero] at hz2
        clear hz
        go_wp2_with fail
        go_ret2
        exact retParts_some hres.out HO.out HB.out
      · have hres := Go.Lib.hid (q3 hz)
        clear q2 q3
        have hz2 : ¬ (at0 : Int) + 20 = (s.size : Int) := by omega
        try simp only [Int.add_zero] at hz2
        clear hz
        go_wp2_with fail
        go_ret2
        exact retParts_none hres.out HB.out
theorem Parts_any (t : Int) (s : ByteArray) (w : World) :
    Calls Try.prog 63 #[.int .i64 t, .string s] w (RetParts w (Rc.partsN t (bl s))) := by
  by_cases h : 1000 < s.size
  · exact Parts_big t s w h
  have h := Nat.le_of_not_lt h
  by_cases h1 : t = 1 ∨ t = 28
  · exact Parts_fix t s w h h1
  by_cases h2 : t = 16
  · subst h2; exact Parts_txt s w h
  by_cases h3 : t = 2 ∨ t = 5 ∨ t = 12 ∨ t = 15 ∨ t = 33 ∨ t = 6
  · rcases h3 with rfl | rfl | rfl | rfl | rfl | rfl
    · exact Parts_2 s w h
    · exact Parts_5 s w h
    · exact Parts_12 s w h
    · exact Parts_15 s w h
    · exact Parts_33 s w h
    · exact Parts_6 s w h
  · exact Parts_none t s w h (by omega) (by omega) h2 (by unfold Rc.shape; rw [if_neg (by omega), if_neg (by omega), if_neg (by omega), if_neg (by omega)])
end Go.Proofs.Ythfhmbooeemaaaa

/- The contracts of the reference's CheckRR, word, made, MakeA, MakeName, MakeSOA. -/
namespace Go.Proofs.Ythfhmbooeemaaaa
open Go.RowKit
set_option linter.unusedVariables false

theorem rr_cells {X : World} {g : Nat} {n d : List UInt8} {t c l : Int} {T : TypeId} (h : X.heap[g]? = some (.cells (rrC ⟨n, t, c, l, d⟩) T (0, 0))) :
    (∀ W', Below X.heap.size X W' → W'.cell? ⟨g, 0, none⟩ = some (.string (mk n))) ∧ (∀ W', Below X.heap.size X W' → W'.cell? ⟨g, 1, none⟩ = some (.int .i64 t)) ∧ (∀ W', Below X.heap.size X W' → W'.cell? ⟨g, 2, none⟩ = some (.int .i64 c)) ∧
    (∀ W', Below X.heap.size X W' → W'.cell? ⟨g, 3, none⟩ = some (.int .i64 l)) ∧ (∀ W', Below X.heap.size X W' → W'.cell? ⟨g, 4, none⟩ = some (.string (mk d))) := by
  have hg := cell_of_heap h
  have hl := (Array.getElem?_eq_some_iff.1 h).1
  exact ⟨fun W' k => (k.cell (p := ⟨g, 0, none⟩) hl).trans (hg 0), fun W' k => (k.cell (p := ⟨g, 1, none⟩) hl).trans (hg 1), fun W' k => (k.cell (p := ⟨g, 2, none⟩) hl).trans (hg 2), fun W' k => (k.cell (p := ⟨g, 3, none⟩) hl).trans (hg 3), fun W' k => (k.cell (p := ⟨g, 4, none⟩) hl).trans (hg 4)⟩
theorem heap_later {B : Nat} {W W' : World} {g : Nat} {o : Obj} (h : W.heap[g]? = some o) (hb : Below W.heap.size W W') : W'.heap[g]? = some o := (hb.block _ (Array.getElem?_eq_some_iff.1 h).1).trans h

/-! ### plain -/
set_option maxRecDepth 100000 in
set_option maxHeartbeats 8000000 in
theorem refCheck_any (r : Rc.RR) (w : World) (hr : RROk r) : Calls Try.prog 32 #[rrV r] w fun e w' => e = .returned (.bool (checkB r)) ∧ Below w.heap.size w w' := by
  obtain ⟨rn, ty, cl, tl, rd⟩ := r
  obtain ⟨h1, h2⟩ := hr
  simp only at h1 h2
  simp only [rrV]
  have hp := fun W => Parts_any ty (mk rd) W
  have hv := fun W => refValid_any (mk rn) W
  rw [bl_mk] at hp hv
  have hH := World.alloc_heap_new w (.cells (rrC ⟨rn, ty, cl, tl, rd⟩) 45)
  have h0 : Below w.heap.size w (w.alloc (.cells (rrC ⟨rn, ty, cl, tl, rd⟩) 45)) := (Below.refl _ w).alloc (Nat.le_refl _) _
  have hck : checkB ⟨rn, ty, cl, tl, rd⟩ = (Nm.valid rn && decide (1 ≤ ty ∧ ty ≤ 65535) && (ty != 41) && decide (0 ≤ cl ∧ cl ≤ 65535) && decide (0 ≤ tl ∧ tl ≤ 2147483647) && Rc.dataB ty rd) := rfl
  have hpd := Rc.partsN_isSome ty rd
  generalize Rc.partsN ty rd = ps at *
  generalize Rc.dataB ty rd = db at *
  generalize Nm.valid rn = vb at *
  generalize checkB ⟨rn, ty, cl, tl, rd⟩ = res at *
  rw [← hpd] at hck
  have HP := Go.Lib.hid hp
  have HV := Go.Lib.hid hv
  have HH := Go.Lib.hid hH
  have H0 := Go.Lib.hid h0
  have HCK := Go.Lib.hid hck
  clear hp hv hH h0 hck
  clear hpd
  have key : ps.isSome = false ∨ (ps.isSome = true ∧ vb = false) ∨ (ps.isSome = true ∧ vb = true) := by cases ps.isSome <;> cases vb <;> simp
  rcases key with k1 | ⟨k1, k2⟩ | ⟨k1, k2⟩
  · have hres : Hid (res = false) := Go.Lib.hid (by rw [HCK.out, k1]; simp)
    clear HCK
    go_enter Try.func32, Try.ntmps32
    go_wp2_with fail
    change Calls _ _ _ (w.alloc (.cells (rrC ⟨rn, ty, cl, tl, rd⟩) 45)) _
    generalize w.alloc (.cells (rrC ⟨rn, ty, cl, tl, rd⟩) 45) = X at *
    refine (HP.out _).mono ?_; rintro e X1 ⟨v, rfl, _, hx⟩
    rw [k1]
    have HX := Go.Lib.hid hx
    clear hx
    go_wp2_with fail
    go_ret
    exact ⟨ret_bool hres.out.symm, H0.out.trans (HX.out.mono H0.out.size)⟩
  · have hres : Hid (res = false) := Go.Lib.hid (by rw [HCK.out, k2]; simp)
    clear HCK
    go_enter Try.func32, Try.ntmps32
    go_wp2_with fail
    change Calls _ _ _ (w.alloc (.cells (rrC ⟨rn, ty, cl, tl, rd⟩) 45)) _
    generalize w.alloc (.cells (rrC ⟨rn, ty, cl, tl, rd⟩) 45) = X at *
    obtain ⟨c0, c1, c2, c3, c4⟩ := rr_cells HH.out
    refine (HP.out _).mono ?_; rintro e X1 ⟨v, rfl, _, hx⟩
    rw [k1]
    go_wp2_with fail
    refine (HV.out _).mono ?_; rintro e X2 ⟨rfl, hx2⟩
    rw [k2]
    have hb := H0.out.trans ((hx.trans (hx2.mono hx.size)).mono H0.out.size)
    have HB := Go.Lib.hid hb
    clear hb
    clear hx hx2
    go_wp2_with fail
    go_ret
    exact ⟨ret_bool hres.out.symm, HB.out⟩
  · have key : (ty < 1) ∨ (1 ≤ ty ∧ 65535 < ty) ∨ (1 ≤ ty ∧ ty ≤ 65535 ∧ (ty != 41) = false ∧ ty = 41) ∨ (1 ≤ ty ∧ ty ≤ 65535 ∧ (ty != 41) = true ∧ cl < 0) ∨ (1 ≤ ty ∧ ty ≤ 65535 ∧ (ty != 41) = true ∧ 0 ≤ cl ∧ 65535 < cl) ∨
        (1 ≤ ty ∧ ty ≤ 65535 ∧ (ty != 41) = true ∧ 0 ≤ cl ∧ cl ≤ 65535 ∧ tl < 0) ∨ (1 ≤ ty ∧ ty ≤ 65535 ∧ (ty != 41) = true ∧ 0 ≤ cl ∧ cl ≤ 65535 ∧ 0 ≤ tl ∧ 2147483648 ≤ tl) ∨ (1 ≤ ty ∧ ty ≤ 65535 ∧ (ty != 41) = true ∧ 0 ≤ cl ∧ cl ≤ 65535 ∧ 0 ≤ tl ∧ tl < 2147483648) := by
      by_cases h41 : ty = 41
      · have : (ty != 41) = false := by simp [h41]
        rw [this]; simp; omega
      · have : (ty != 41) = true := by simp [h41]
        rw [this]; simp; omega
    rcases key with p1 | ⟨p1, p2⟩ | ⟨p1, p2, p3, p3'⟩ | ⟨p1, p2, p3, p4⟩ | ⟨p1, p2, p3, p4, p5⟩ | ⟨p1, p2, p3, p4, p5, p6⟩ | ⟨p1, p2, p3, p4, p5, p6, p7⟩ | ⟨p1, p2, p3, p4, p5, p6, p7⟩
    case inr.inr.inr.inr.inr.inr.inr =>
      have hres : Hid (res = true) := Go.Lib.hid (by rw [HCK.out, k1, k2, p3]; simp; omega)
      clear HCK
      go_enter Try.func32, Try.ntmps32
      go_wp2_with fail
      change Calls _ _ _ (w.alloc (.cells (rrC ⟨rn, ty, cl, tl, rd⟩) 45)) _
      generalize w.alloc (.cells (rrC ⟨rn, ty, cl, tl, rd⟩) 45) = X at *
      obtain ⟨c0, c1, c2, c3, c4⟩ := rr_cells HH.out
      refine (HP.out _).mono ?_; rintro e X1 ⟨v, rfl, _, hx⟩
      rw [k1]
      go_wp2_with fail
      refine (HV.out _).mono ?_; rintro e X2 ⟨rfl, hx2⟩
      rw [k2]
      have hx3 := hx.trans (hx2.mono hx.size)
      have hb := H0.out.trans (hx3.mono H0.out.size)
      have HB := Go.Lib.hid hb
      clear hb
      clear hx hx2
      go_wp2_with fail
      go_ret
      exact ⟨ret_bool (by have h := hres.out; first | (rw [h]; done) | (simp [h]; done) | (simp [h]; omega)), HB.out⟩
    all_goals
      have hres : Hid (res = false) := Go.Lib.hid (by rw [HCK.out, k1, k2]; simp; omega)
      try clear p3'
      clear HCK
      go_enter Try.func32, Try.ntmps32
      go_wp2_with fail
      change Calls _ _ _ (w.alloc (.cells (rrC ⟨rn, ty, cl, tl, rd⟩) 45)) _
      generalize w.alloc (.cells (rrC ⟨rn, ty, cl, tl, rd⟩) 45) = X at *
      obtain ⟨c0, c1, c2, c3, c4⟩ := rr_cells HH.out
      refine (HP.out _).mono ?_; rintro e X1 ⟨v, rfl, _, hx⟩
      rw [k1]
      go_wp2_with fail
      refine (HV.out _).mono ?_; rintro e X2 ⟨rfl, hx2⟩
      rw [k2]
      have hx3 := hx.trans (hx2.mono hx.size)
      have HB := Go.Lib.hid (H0.out.trans (hx3.mono H0.out.size))
      clear hx hx2
      go_wp2_with fail
      go_ret
      exact ⟨ret_bool (by have h := hres.out; first | (rw [h]; done) | (simp [h]; done) | (simp [h]; omega)), HB.out⟩
theorem word_any (n : Int) (w : World) : Calls Try.prog 54 #[.int .i64 n] w fun e w' => e = .returned (.bool (decide (0 ≤ n ∧ n ≤ 4294967295))) ∧ w = w' := by
  by_cases h1 : 0 ≤ n
  · by_cases h2 : n < 4294967296
    · have hr : Hid (decide (0 ≤ n ∧ n ≤ 4294967295) = true) := Go.Lib.hid (decide_eq_true ⟨h1, by omega⟩)
      go_enter Try.func54, Try.ntmps54
      go_wp2_with fail
      go_ret
      exact ⟨ret_bool (by have h := hr.out; first | (rw [h]; done) | (simp; done) | (simp; omega)), rfl⟩
    · have hr : Hid (decide (0 ≤ n ∧ n ≤ 4294967295) = false) := Go.Lib.hid (decide_eq_false fun h => by omega)
      go_enter Try.func54, Try.ntmps54
      go_wp2_with fail
      go_ret
      exact ⟨ret_bool (by have h := hr.out; first | (rw [h]; done) | (simp; done) | (simp; omega)), rfl⟩
  · have hr : Hid (decide (0 ≤ n ∧ n ≤ 4294967295) = false) := Go.Lib.hid (decide_eq_false fun h => h1 h.1)
    go_enter Try.func54, Try.ntmps54
    go_wp2_with fail
    go_ret
    exact ⟨ret_bool (by have h := hr.out; first | (rw [h]; done) | (simp; done) | (simp; omega)), rfl⟩
def madeM (r : Rc.RR) (more : Bool) : Rc.RR := if more && checkB r then r else rZ
set_option maxRecDepth 100000 in
set_option maxHeartbeats 8000000 in
theorem refMade_any (r : Rc.RR) (more : Bool) (w : World) (hr : RROk r) : Calls Try.prog 52 #[rrV r, .bool more] w fun e w' => e = .returned (rrV (madeM r more)) ∧ Below w.heap.size w w' := by
  have hc := fun W => refCheck_any r W hr
  have hm : madeM r more = if more && checkB r then r else rZ := rfl
  obtain ⟨hR, hZ⟩ := two_boxes w (rrC r) (rrC rZ) 45
  have hb0 : Below w.heap.size w ((w.alloc (.cells (rrC r) 45)).alloc (.cells (rrC rZ) 45)) := ((Below.refl _ w).alloc (Nat.le_refl _) _).alloc (by simp) _
  have hone1 := one_rrC rZ
  have hone2 := one_rrC r
  generalize checkB r = cb at *
  obtain ⟨n, t, c, l, d⟩ := r
  have hck := rr_cells hR
  generalize hres : madeM ⟨n, t, c, l, d⟩ more = res at *
  simp only [rrV] at hc ⊢
  have HC := Go.Lib.hid hc
  have HM := Go.Lib.hid hm
  have HRES := Go.Lib.hid hres
  clear hc hm hres
  cases more with
  | false =>
    have hr : Hid (res = rZ) := Go.Lib.hid (by rw [HM.out]; rfl)
    clear HRES HM hck hR HC
    have HZ := Go.Lib.hid hZ
    have HB0 := Go.Lib.hid hb0
    have HONE1 := Go.Lib.hid hone1
    clear hZ hb0 hone1
    go_enter Try.func52, Try.ntmps52
    go_wp2_with (refine wpList_store_row rfl 45 (.tmp 4) (.tmp 12) rfl (w.heap.size + 1) (rrC rZ) rfl rfl _ _ HZ.out infoR5 rfl HONE1.out ?_)
    refine ret_rr (r := rZ) rfl rfl rfl (setRow_heap _ (w.heap.size + 1) _ (rrC rZ) _ _ HZ.out) ⟨by rw [hr.out], below_setRow HB0.out (by omega) _⟩
  | true =>
    obtain ⟨c0, c1, c2, c3, c4⟩ := hck
    have hrx := Below.refl ((w.alloc (.cells (rrC ⟨n, t, c, l, d⟩) 45)).alloc (.cells (rrC rZ) 45)).heap.size ((w.alloc (.cells (rrC ⟨n, t, c, l, d⟩) 45)).alloc (.cells (rrC rZ) 45))
    have d0 := c0 _ hrx
    have d1 := c1 _ hrx
    have d2 := c2 _ hrx
    have d3 := c3 _ hrx
    have d4 := c4 _ hrx
    have HZ := Go.Lib.hid hZ
    have HB0 := Go.Lib.hid hb0
    have HONE1 := Go.Lib.hid hone1
    have HONE2 := Go.Lib.hid hone2
    clear hZ hb0 hone1 hone2
    clear hrx hR
    cases cb with
    | false =>
      have hr : Hid (res = rZ) := Go.Lib.hid (by rw [HM.out]; rfl)
      clear HRES HM
      go_enter Try.func52, Try.ntmps52
      go_wp2_with fail
      clear d0 d1 d2 d3 d4
      change Calls _ _ _ ((w.alloc (.cells (rrC ⟨n, t, c, l, d⟩) 45)).alloc (.cells (rrC rZ) 45)) _
      generalize (w.alloc (.cells (rrC ⟨n, t, c, l, d⟩) 45)).alloc (.cells (rrC rZ) 45) = X at *
      refine (HC.out _).mono ?_; rintro e X1 ⟨rfl, hx⟩
      have hZ1 := heap_later (B := 0) HZ.out hx
      have hb1 := HB0.out.trans (hx.mono HB0.out.size)
      have HZ1 := Go.Lib.hid hZ1
      have HB1 := Go.Lib.hid hb1
      clear hZ1 hb1
      go_wp2_with (refine wpList_store_row rfl 45 (.tmp 4) (.tmp 12) rfl (w.heap.size + 1) (rrC rZ) rfl rfl _ _ HZ1.out infoR5 rfl HONE1.out ?_)
      refine ret_rr (r := rZ) rfl rfl rfl (setRow_heap _ (w.heap.size + 1) _ (rrC rZ) _ _ HZ1.out) ⟨by rw [hr.out], below_setRow HB1.out (by omega) _⟩
    | true =>
      have hr : Hid (res = ⟨n, t, c, l, d⟩) := Go.Lib.hid (by rw [HM.out]; rfl)
      clear HRES HM
      go_enter Try.func52, Try.ntmps52
      go_wp2_with fail
      clear d0 d1 d2 d3 d4
      change Calls _ _ _ ((w.alloc (.cells (rrC ⟨n, t, c, l, d⟩) 45)).alloc (.cells (rrC rZ) 45)) _
      generalize (w.alloc (.cells (rrC ⟨n, t, c, l, d⟩) 45)).alloc (.cells (rrC rZ) 45) = X at *
      refine (HC.out _).mono ?_; rintro e X1 ⟨rfl, hx⟩
      have hZ1 := heap_later (B := 0) HZ.out hx
      have hb1 := HB0.out.trans (hx.mono HB0.out.size)
      have HZ1 := Go.Lib.hid hZ1
      have HB1 := Go.Lib.hid hb1
      clear hZ1 hb1
      go_wp2_with (refine wpList_store_row rfl 45 (.tmp 4) (.tmp 13) rfl (w.heap.size + 1) (rrC ⟨n, t, c, l, d⟩) rfl rfl _ _ HZ1.out infoR5 rfl HONE2.out ?_)
      refine ret_rr (r := ⟨n, t, c, l, d⟩) rfl rfl rfl (setRow_heap _ (w.heap.size + 1) _ (rrC ⟨n, t, c, l, d⟩) _ _ HZ1.out) ⟨by rw [hr.out], below_setRow HB1.out (by omega) _⟩
end Go.Proofs.Ythfhmbooeemaaaa

/- The contracts of the reference's MakeA, MakeName, MakeSOA. -/
namespace Go.Proofs.Ythfhmbooeemaaaa
open Go.RowKit
set_option linter.unusedVariables false

theorem madeM_true (r : Rc.RR) : madeM r true = madeN r := by unfold madeM madeN; simp
theorem madeM_false (r : Rc.RR) : madeM r false = rZ := by unfold madeM; simp
theorem makeA_ref (n : List UInt8) (ttl x : Int) : madeM ⟨n, 1, 1, ttl, four x⟩ (decide (0 ≤ x ∧ x ≤ 4294967295)) = makeAN n ttl x := by
  unfold makeAN
  by_cases h : 0 ≤ x ∧ x ≤ 4294967295
  · rw [decide_eq_true h, if_pos h, madeM_true]
  · rw [decide_eq_false h, if_neg h, madeM_false]
set_option maxRecDepth 100000 in
set_option maxHeartbeats 8000000 in
theorem refMakeA_any (n : List UInt8) (ttl x : Int) (w : World) (hn : n.length ≤ maxLen) :
    Calls Try.prog 23 #[.string (mk n), .int .i64 ttl, .int .i64 x] w fun e w' => e = .returned (rrV (makeAN n ttl x)) ∧ Below w.heap.size w w' := by
  have hw := word_any x
  have hby := freshetref1_four_any x
  have hmd := fun W => refMade_any ⟨n, 1, 1, ttl, four x⟩ (decide (0 ≤ x ∧ x ≤ 4294967295)) W ⟨hn, by show (four x).length ≤ maxLen; rw [show (four x).length = 4 from rfl]; unfold maxLen; decide⟩
  rw [makeA_ref] at hmd
  have hone := one_rrC (makeAN n ttl x)
  have hZ := World.alloc_heap_new w (.cells (rrC rZ) 45)
  have hb0 : Below w.heap.size w (w.alloc (.cells (rrC rZ) 45)) := (Below.refl _ w).alloc (Nat.le_refl _) _
  simp only [rrV] at hmd
  generalize makeAN n ttl x = res at *
  generalize four x = l at *
  generalize decide (0 ≤ x ∧ x ≤ 4294967295) = b at *
  have HW := Go.Lib.hid hw
  have HMD := Go.Lib.hid hmd
  have HBY := Go.Lib.hid hby
  have HONE := Go.Lib.hid hone
  clear hw hmd hby hone
  go_enter Try.func23, Try.ntmps23
  go_wp2_with fail
  change Calls _ _ _ (w.alloc (.cells (rrC rZ) 45)) _
  generalize w.alloc (.cells (rrC rZ) 45) = X at *
  refine (HBY.out _).mono ?_; rintro e X1 ⟨rfl, hx1⟩
  have HX1 := Go.Lib.hid hx1
  have HZ := Go.Lib.hid hZ
  have HB0 := Go.Lib.hid hb0
  clear hx1 hZ hb0
  go_wp2_with fail
  refine (HW.out _).mono ?_; rintro e _ ⟨rfl, rfl⟩
  go_wp2_with fail
  refine (HMD.out _).mono ?_; rintro e X2 ⟨rfl, hx2⟩
  have hb := HB0.out.trans (((HX1.out).trans (hx2.mono HX1.out.size)).mono HB0.out.size)
  have hZ2 := heap_later (B := 0) HZ.out (HX1.out.trans (hx2.mono HX1.out.size))
  have HB := Go.Lib.hid hb
  have HZ2 := Go.Lib.hid hZ2
  clear hb hZ2
  clear hx2
  go_wp2_with (refine wpList_store_row rfl 45 (.tmp 6) (.tmp 14) rfl w.heap.size (rrC res) rfl rfl _ _ HZ2.out infoR5 rfl HONE.out ?_)
  refine ret_rr (r := res) rfl rfl rfl (setRow_heap X2 w.heap.size _ (rrC res) _ _ HZ2.out) ⟨rfl, below_setRow HB.out (Nat.le_refl _) _⟩
end Go.Proofs.Ythfhmbooeemaaaa

/- Message: messages of one question and many like records: their bytes. -/
namespace Go.Proofs.Ythfhmbooeemaaaa
open Go.RowKit
set_option maxRecDepth 100000
set_option linter.unusedVariables false

/-- the record -/
def rA : Rc.RR := ⟨[0], 1, 1, 5, [0, 0, 0, 7]⟩
theorem rA_make : makeAN [0] 5 7 = rA := by decide +kernel
theorem rA_ok : checkB rA = true := by decide +kernel
theorem rA_S (k : Nat) (M : Met) : recS rA k M = ([0, 0, 1, 0, 1, 0, 0, 0, 5, 0, 4, 0, 0, 0, 7], M) := by
  have h1 : Rc.partsN 1 [0, 0, 0, 7] = some [] := by decide +kernel
  unfold recS rA
  simp only [labs_root, nameS, h1, Option.getD_some, partsS]
  rfl
theorem secS_rA : ∀ (n k : Nat) (M : Met), (secS (List.replicate n rA) k M).1.length = 15 * n ∧ (secS (List.replicate n rA) k M).2 = M
  | 0, k, M => ⟨rfl, rfl⟩
  | n + 1, k, M => by
    obtain ⟨h1, h2⟩ := secS_rA n (k + (recS rA k M).1.length) (recS rA k M).2
    rw [List.replicate_succ, secS, List.length_append, h1, h2]
    rw [rA_S]
    refine ⟨?_, rfl⟩
    simp only [List.length_cons, List.length_nil]
    omega
/-- the message -/
def cM (a b c : Nat) (ct ed : Bool) : Msg := ⟨5, false, 0, false, ct, true, false, 0, [⟨[1, 97, 0], 1, 1⟩], List.replicate a rA, List.replicate b rA, List.replicate c rA, ed, 0⟩
theorem cM_one : cM 0 0 0 false false = oneM := rfl
theorem cM_check (a b c : Nat) (ct ed : Bool) : checkM (cM a b c ct ed) = decide (a ≤ 64 ∧ b ≤ 64 ∧ c ≤ 64) := by
  have hr : ((allR (cM a b c ct ed)).all fun x => checkB x.2) = true := by
    rw [List.all_eq_true]
    rintro ⟨s, r⟩ hx
    have : r = rA := by
      rcases mem_allR.1 ⟨s, hx⟩ with h | h | h <;> exact (List.mem_replicate.1 h).2
    rw [this]
    exact rA_ok
  unfold checkM
  rw [hr]
  have hh : headOk (cM a b c ct ed) = true := by cases ed <;> rfl
  have hq : (cM a b c ct ed).qs.all qOk = true := by
    show [(⟨[1, 97, 0], 1, 1⟩ : Qn)].all qOk = true
    decide +kernel
  rw [hh, hq]
  unfold cntOk
  simp only [cM, List.length_replicate, List.length_singleton, Bool.true_and, Bool.and_true]
  rw [Bool.eq_iff_iff]
  simp only [Bool.and_eq_true, decide_eq_true_eq, Nat.max_le]
  constructor
  · rintro ⟨_, ⟨h1, h2⟩, h3⟩
    exact ⟨h1, h2, h3⟩
  · rintro ⟨h1, h2, h3⟩
    exact ⟨rfl, ⟨h1, h2⟩, h3⟩
theorem qs_one : qsS [⟨[1, 97, 0], 1, 1⟩] 12 [] = ([1, 97, 0, 0, 1, 0, 1], [([1, 97, 0], 12)]) := by
  have h : Nm.labs [1, 97, 0] = [[97]] := by decide +kernel
  simp only [qsS, qS, h, nameS]
  rfl
theorem optB_len (m : Msg) : (optB m).length = if m.edns then 11 else 0 := by
  unfold optB
  cases m.edns <;> rfl
theorem cM_len (a b c : Nat) (ct ed : Bool) : (bytesM (cM a b c ct ed)).length = 19 + 15 * (a + b + c) + if ed then 11 else 0 := by
  unfold bytesM
  simp only [List.length_append, hdrB_len, optB_len, secS_append]
  show 12 + (qsS [⟨[1, 97, 0], 1, 1⟩] 12 []).1.length + ((secS (List.replicate a rA) _ _).1.length + (secS (List.replicate b rA) _ _).1.length + (secS (List.replicate c rA) _ _).1.length) + _ = _
  rw [(secS_rA a _ _).1, (secS_rA b _ _).1, (secS_rA c _ _).1, qs_one]
  simp only [List.length_cons, List.length_nil, cM]
  cases ed
  · simp only [Bool.false_eq_true, if_false]
    omega
  · simp only [if_true]
    omega
theorem cM_enc {a b c : Nat} {ct ed : Bool} (ha : a ≤ 64) (hb : b ≤ 64) (hc : c ≤ 64) : encN (cM a b c ct ed) = (bytesM (cM a b c ct ed), 0) := by
  unfold encN outN
  rw [cM_check, decide_eq_true ⟨ha, hb, hc⟩, if_pos rfl, endW_bytes, if_neg]
  rw [cM_len]
  simp only [Bool.false_or, decide_eq_true_eq]
  cases ed <;> simp <;> omega
theorem cM_bad {a b c : Nat} {ct ed : Bool} (h : ¬ (a ≤ 64 ∧ b ≤ 64 ∧ c ≤ 64)) : encN (cM a b c ct ed) = ([], 1) := by
  unfold encN
  rw [cM_check, decide_eq_false h]
  rfl
theorem cM_S {a b c : Nat} {ct ed : Bool} (ha : a ≤ 100) (hb : b ≤ 100) (hc : c ≤ 100) : MsgS (cM a b c ct ed) := by
  refine ⟨by show 1 ≤ _; decide, ?_, ?_, ?_, fun x hx => ?_, fun x hx => ?_⟩
  · show (List.replicate a rA).length ≤ _; simp; omega
  · show (List.replicate b rA).length ≤ _; simp; omega
  · show (List.replicate c rA).length ≤ _; simp; omega
  · obtain rfl := List.mem_singleton.1 hx
    show 3 ≤ maxLen
    decide
  · obtain ⟨s, r⟩ := x
    have : r = rA := by
      rcases mem_allR.1 ⟨s, hx⟩ with h | h | h <;> exact (List.mem_replicate.1 h).2
    rw [this]
    show 1 ≤ maxLen ∧ 4 ≤ maxLen
    decide
/-- the counts stand where they should -/
theorem cM_counts {a b c : Nat} {ct ed : Bool} (ha : a ≤ 64) (hb : b ≤ 64) (hc : c ≤ 64) : ((bytesM (cM a b c ct ed)).getD 7 0).toNat = a ∧ ((bytesM (cM a b c ct ed)).getD 9 0).toNat = b ∧ ((bytesM (cM a b c ct ed)).getD 11 0).toNat = c + if ed then 1 else 0 := by
  have h1 : ∀ (x : List UInt8) (i : Nat), i < 12 → (bytesM (cM a b c ct ed)).getD i 0 = (hdrB (cM a b c ct ed)).getD i 0 := fun x i hi => by
    unfold bytesM
    simp only [List.getD_eq_getElem?_getD]
    rw [List.append_assoc, List.append_assoc, List.getElem?_append_left (by rw [hdrB_len]; exact hi)]
  rw [h1 [] 7 (by omega), h1 [] 9 (by omega), h1 [] 11 (by omega)]
  have e : hdrB (cM a b c ct ed) = two2 5 ++ (two2 (flagsN (cM a b c ct ed)) ++ (two2 ((1 : Nat) : Int) ++ (two2 ((List.replicate a rA).length : Int) ++ (two2 ((List.replicate b rA).length : Int) ++ (two2 (((List.replicate c rA).length : Int) + flagN ed 0) ++ []))))) := rfl
  rw [e]
  simp only [List.length_replicate]
  have b1 := byteOf_nat (a : Int) 1
  have b2 := byteOf_nat (b : Int) 1
  have b3 := byteOf_nat ((c : Int) + flagN ed 0) 1
  refine ⟨?_, ?_, ?_⟩
  · show (byteOf (a : Int) 1).toNat = a
    omega
  · show (byteOf (b : Int) 1).toNat = b
    omega
  · show (byteOf ((c : Int) + flagN ed 0) 1).toNat = _
    cases ed
    · rw [show flagN false 0 = 0 from rfl] at b3 ⊢
      simp only [Bool.false_eq_true, if_false]
      omega
    · rw [show flagN true 0 = 1 from rfl] at b3 ⊢
      simp only [if_true]
      omega
/-- one(): its other lists are nil -/
def RetOne (w : World) (e : Ending) (w' : World) : Prop := ∃ aq cq, e = .returned (MV oneM (.slice aq 1 cq) nilS nilS nilS) ∧ SlT w' 47 3 (.slice aq 1 cq) 1 (encQn oneM.qs) ∧ Below w.heap.size w w'
set_option maxHeartbeats 2000000 in
theorem one_nil (w : World) : Calls Try.prog 22 #[] w (RetOne w) := by
  go_enter Try.func22, Try.ntmps22
  go_wp2_with fail
  refine ret_msg (m := oneM) rfl rfl rfl (heap_old (heap_alloc_new _ _) _) ⟨_, _, rfl, ?_, ?_⟩
  · have := slt_new (w.alloc (.cells (MC oneM (.slice (some ⟨w.heap.size + 1, 0, none⟩) 1 1) (.slice none 0 0) (.slice none 0 0) (.slice none 0 0)) 27)) 3 1 47 (encQn oneM.qs) rfl (by decide)
    rw [World.size_alloc] at this
    exact this
  · exact ((Below.refl _ w).alloc (Nat.le_refl _) _).alloc (by simp) _
end Go.Proofs.Ythfhmbooeemaaaa

/- Message: a message in a box, its lists filled one by one. -/
namespace Go.Proofs.Ythfhmbooeemaaaa
open Go.RowKit
set_option maxRecDepth 100000
set_option linter.unusedVariables false

theorem SlT.kept {w w' : World} {e sz n : Nat} {v : Value} {cs : List Value} {row : Option Nat} (h : SlT w e sz v n cs) (hg : w.grownBy w' row) (hr : ∀ g, row = some g → ∃ xs T fr, w.heap[g]? = some (.cells xs T fr) ∧ T ≠ e) : SlT w' e sz v n cs := by
  obtain ⟨⟨h1, a, cap, rfl, h2, h3, h4, h5⟩, hT⟩ := h
  have hb : ∀ x m c, Value.slice a n cap = .slice (some x) m c → 0 < m → w'.heap[x.block]? = w.heap[x.block]? := fun x m c hv hm => by
    obtain ⟨xs, fr, hx⟩ := hT x m c hv hm
    refine hg.block _ (Array.getElem?_eq_some_iff.1 hx).1 (fun e2 => ?_)
    obtain ⟨ys, T, fr2, hy, hne⟩ := hr _ e2.symm
    rw [hx] at hy
    simp only [Option.some.injEq, Obj.cells.injEq] at hy
    exact hne hy.2.1.symm
  refine ⟨⟨h1, a, cap, rfl, h2, h3, h4, ?_⟩, fun x m c hv hm => ?_⟩
  · rcases h5 with h5 | ⟨b, off, rfl, hlt, hc⟩
    · exact .inl h5
    · by_cases hn : n = 0
      · exact .inl hn
      · refine .inr ⟨b, off, rfl, Nat.lt_of_lt_of_le hlt hg.size, fun j hj => ?_⟩
        rw [← hc j hj]
        simp only [World.cell?]
        rw [hb ⟨b, off, none⟩ n cap rfl (by omega)]
  · obtain ⟨xs, fr, hx⟩ := hT x m c hv hm
    exact ⟨xs, fr, (hb x m c hv hm).trans hx⟩
/-- the record's cells -/
abbrev fA : List Value := [.string (mk [0]), .int .i64 1, .int .i64 1, .int .i64 5, .string (mk [0, 0, 0, 7])]
theorem encR_repl (n : Nat) : encR (List.replicate (n + 1) rA) = encR (List.replicate n rA) ++ fA := by
  rw [List.replicate_succ', encR_snoc]
  rfl
/-- the message's box while it is filled -/
structure Fill (w : World) (N R : Nat) (ed : Bool) (q va vs vd : Value) (a b c : Nat) (wr : World) : Prop where
  row : wr.heap[N]? = some (.cells (MC (cM a b c false ed) q va vs vd) 27 (0, 0))
  rr : wr.heap[R]? = some (.cells (rrC rA) 45 (0, 0))
  q : SlT wr 47 3 q 1 (encQn oneM.qs)
  a : wr.ownsRow (R + 1) 45 5 va a (encR (List.replicate a rA))
  s : wr.ownsRow (R + 1) 45 5 vs b (encR (List.replicate b rA))
  d : wr.ownsRow (R + 1) 45 5 vd c (encR (List.replicate c rA))
  ap1 : Apart va vs
  ap2 : Apart va vd
  ap3 : Apart vs vd
  hb : Below w.heap.size w wr
theorem Fill.msg {w : World} {N R : Nat} {ed : Bool} {q va vs vd : Value} {a b c : Nat} {wr : World} (h : Fill w N R ed q va vs vd a b c wr) : MsgL wr (cM a b c false ed) q va vs vd :=
  ⟨h.q.1, by have := SlC.of_owns h.a; unfold RRs; simpa [cM] using this, by have := SlC.of_owns h.s; unfold RRs; simpa [cM] using this, by have := SlC.of_owns h.d; unfold RRs; simpa [cM] using this⟩
/-- what an append to a list of it leaves -/
theorem Fill.grown {w : World} {N R : Nat} {ed : Bool} {q va vs vd v : Value} {a b c k : Nat} {wr W1 : World} (h : Fill w N R ed q va vs vd a b c wr) (hNR : N < R) (hwN : w.heap.size ≤ N) {o : Obj} {cs : List Value} (hv : wr.ownsRow (R + 1) 45 5 v k cs) (hg : (wr.alloc o).grownBy W1 v.ownBlock) :
    W1.heap[N]? = some (.cells (MC (cM a b c false ed) q va vs vd) 27 (0, 0)) ∧ W1.heap[R]? = some (.cells (rrC rA) 45 (0, 0)) ∧ SlT W1 47 3 q 1 (encQn oneM.qs) ∧ Below w.heap.size w W1 ∧
    (∀ {u : Value} {m : Nat} {xs : List Value}, wr.ownsRow (R + 1) 45 5 u m xs → Apart v u → W1.ownsRow (R + 1) 45 5 u m xs) := by
  have hlt : ∀ g, v.ownBlock = some g → R + 1 ≤ g := fun g e => (hv.lt g e).1
  have hlR := (Array.getElem?_eq_some_iff.1 h.rr).1
  have hlN := (Array.getElem?_eq_some_iff.1 h.row).1
  have hblk : ∀ k, k ≤ R → W1.heap[k]? = wr.heap[k]? := fun k hk => by
    refine (hg.block k (by simp; omega) (fun e => by have := hlt k e.symm; omega)).trans (Below.heap_alloc _ _ _ (by omega))
  refine ⟨(hblk N (by omega)).trans h.row, (hblk R (Nat.le_refl _)).trans h.rr, ?_, ?_, ?_⟩
  · refine (h.q.below ((Below.refl _ wr).alloc (Nat.le_refl _) o)).kept hg (fun g e => ?_)
    obtain ⟨cc, fz, hk⟩ := owns_kind (hv.alloc o) g e
    exact ⟨cc, _, fz, hk, by decide⟩
  · exact (h.hb.alloc h.hb.size o).grown hg (by have := h.hb.size; simp; omega) (fun k e => by have := hlt k e; omega)
  · intro u m xs hu hap
    exact (hu.alloc o).kept hg hap.kept
theorem Fill.app1 {w : World} {N R : Nat} {ed : Bool} {q va vs vd v1 : Value} {a b c : Nat} {wr W1 : World} (h : Fill w N R ed q va vs vd a b c wr) (hNR : N < R) (hwN : w.heap.size ≤ N) {o : Obj} (hg : (wr.alloc o).grownBy W1 va.ownBlock) (hsn : SameOrNew (wr.heap.size + 1) va v1)
    (hown : W1.ownsRow (R + 1) 45 5 v1 (a + 1) (encR (List.replicate a rA) ++ fA)) : Fill w N R ed q v1 vs vd (a + 1) b c (W1.setCell ⟨N, 9, none⟩ v1) := by
  obtain ⟨r1, r2, r3, r4, r5⟩ := h.grown hNR hwN h.a hg
  have hN : wr.heap.size ≤ wr.heap.size + 1 := Nat.le_succ _
  refine ⟨heap_set r1, (heap_set_other r1 (by omega)).trans r2, r3.setCell r1 (by decide), ?_, World.ownsRow.setCellOther (r5 h.s h.ap1) r1 (by decide) _ _, World.ownsRow.setCellOther (r5 h.d h.ap2) r1 (by decide) _ _, h.ap1.put h.s hN hsn, h.ap2.put h.d hN hsn, h.ap3, r4.setCell (p := ⟨N, 9, none⟩) hwN _⟩
  rw [encR_repl]
  exact World.ownsRow.setCellOther hown r1 (by decide) _ _
theorem Fill.app2 {w : World} {N R : Nat} {ed : Bool} {q va vs vd v1 : Value} {a b c : Nat} {wr W1 : World} (h : Fill w N R ed q va vs vd a b c wr) (hNR : N < R) (hwN : w.heap.size ≤ N) {o : Obj} (hg : (wr.alloc o).grownBy W1 vs.ownBlock) (hsn : SameOrNew (wr.heap.size + 1) vs v1)
    (hown : W1.ownsRow (R + 1) 45 5 v1 (b + 1) (encR (List.replicate b rA) ++ fA)) : Fill w N R ed q va v1 vd a (b + 1) c (W1.setCell ⟨N, 10, none⟩ v1) := by
  obtain ⟨r1, r2, r3, r4, r5⟩ := h.grown hNR hwN h.s hg
  have hN : wr.heap.size ≤ wr.heap.size + 1 := Nat.le_succ _
  refine ⟨heap_set r1, (heap_set_other r1 (by omega)).trans r2, r3.setCell r1 (by decide), World.ownsRow.setCellOther (r5 h.a h.ap1.symm) r1 (by decide) _ _, ?_, World.ownsRow.setCellOther (r5 h.d h.ap3) r1 (by decide) _ _, (h.ap1.symm.put h.a hN hsn).symm, h.ap2, h.ap3.put h.d hN hsn, r4.setCell (p := ⟨N, 10, none⟩) hwN _⟩
  rw [encR_repl]
  exact World.ownsRow.setCellOther hown r1 (by decide) _ _
theorem Fill.app3 {w : World} {N R : Nat} {ed : Bool} {q va vs vd v1 : Value} {a b c : Nat} {wr W1 : World} (h : Fill w N R ed q va vs vd a b c wr) (hNR : N < R) (hwN : w.heap.size ≤ N) {o : Obj} (hg : (wr.alloc o).grownBy W1 vd.ownBlock) (hsn : SameOrNew (wr.heap.size + 1) vd v1)
    (hown : W1.ownsRow (R + 1) 45 5 v1 (c + 1) (encR (List.replicate c rA) ++ fA)) : Fill w N R ed q va vs v1 a b (c + 1) (W1.setCell ⟨N, 11, none⟩ v1) := by
  obtain ⟨r1, r2, r3, r4, r5⟩ := h.grown hNR hwN h.d hg
  have hN : wr.heap.size ≤ wr.heap.size + 1 := Nat.le_succ _
  refine ⟨heap_set r1, (heap_set_other r1 (by omega)).trans r2, r3.setCell r1 (by decide), World.ownsRow.setCellOther (r5 h.a h.ap2.symm) r1 (by decide) _ _, World.ownsRow.setCellOther (r5 h.s h.ap3.symm) r1 (by decide) _ _, ?_, h.ap1, (h.ap2.symm.put h.a hN hsn).symm, (h.ap3.symm.put h.s hN hsn).symm, r4.setCell (p := ⟨N, 11, none⟩) hwN _⟩
  rw [encR_repl]
  exact World.ownsRow.setCellOther hown r1 (by decide) _ _
end Go.Proofs.Ythfhmbooeemaaaa

