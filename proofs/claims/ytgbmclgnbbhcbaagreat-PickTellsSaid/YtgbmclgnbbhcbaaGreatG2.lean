/- Merged texts of the seat, in their order: NameA, Sm, RefA, OrdT, OrdI, Rc, Seq, SeqP, BitsF, NameB, NameC, NameD, RefD. -/
import Derived.Test.YtgbmclgnbbhcbaaGreatG1
import Derived.OrdersIn
import Derived.TacticsIn
import Derived.RangeFuncCalls
import Derived.RangeFuncBox
import Derived.RangeFuncNested
import Derived.RangeFuncBound
import Derived.RangeFuncLeaves
import Derived.Shelf.Abstract
import Derived.WalkKit
import Derived.OwnWalkIn
import Derived.TacticsInMore
import Derived.LoopNIn
import Derived.LoopIn
import Derived.Maps.AppendAt
import Derived.Laws.BitsLemmas
import Derived.Test.YtgbmclgnbbhcbaaGreatShelf
import Derived.Deep.QuietTactic
import Derived.BigQuiet
/- The contracts of name.Lead, Valid, fold, Fold, Same: what each returns, at every text that memory bears. -/
namespace Go.Proofs.YtgbmclgnbbhcbaaGreat
open Go.RowKit

def leadV (s : ByteArray) : Value := match Nm.lead (bl s) with
  | some n => .tuple #[.int .i64 (n : Int), .bool true]
  | none => .tuple #[.int .i64 0, .bool false]

theorem getq {s : ByteArray} {k : Nat} (h : k < s.size) : (bl s)[k]? = some s[k] := by
  rw [get_bl s k h]
  exact List.getElem?_eq_getElem (by rw [← size_bl]; exact h)

theorem byte_ne {c : UInt8} (h : ¬ ((c.toNat : Int) = 0)) : c ≠ 0 := by
  intro h0
  subst h0
  simp at h

set_option maxRecDepth 100000 in
set_option maxHeartbeats 800000 in
theorem lead_any (s : ByteArray) (w : World) (hs : s.size ≤ maxLen) :
    Calls Tryz.prog 52 #[.string s] w fun e w' => e = .returned (leadV s) ∧ w = w' := by
  unfold maxLen at hs
  go_enter Tryz.func52, Tryz.ntmps52
  go_wp2
  go_loop [4] (fun at_ => ∃ k : Nat, at_ = .int .i64 k ∧ k ≤ 400 ∧ ((k ≤ s.size ∧ ∃ ls, Nm.GoodL ls ∧ Nm.pre ls = (bl s).take k) ∨ (s.size < k ∧ Nm.lead (bl s) = none))) (fun at_ => 1000 - (intOf at_).toNat)
  case atStart => exact ⟨0, rfl, by omega, .inl ⟨by omega, [], Nm.good_nil, by simp [Nm.pre]⟩⟩
  case round =>
    obtain ⟨k, rfl, hk0, hrel⟩ := hrel
    have HR := Go.Lib.hid hrel
    clear hrel
    by_cases hk : k < s.size ∧ k < 255
    · obtain ⟨hk1, hk2⟩ := hk
      have hq := getq hk1
      generalize hc : s[k] = c at hq
      have hq := Go.Lib.hid hq
      have hb := c.toNat_lt
      by_cases h0 : c.toNat = 0
      · have hz : ((c.toNat : Int) == 0) = true := by rw [h0]; rfl
        have hlead : Hid (leadV s = .tuple #[.int .i64 ((k : Int) + 1), .bool true]) := Go.Lib.hid (by
          rcases HR.out with ⟨_, ls, hg, hp⟩ | ⟨h, _⟩
          · have hc0 : c = 0 := by rw [← UInt8.toNat_inj]; simpa using h0
            obtain ⟨e1, e2⟩ := Nm.split_at hp hq.out
            rw [hc0] at e1
            have := Nm.lead_zero hg e1 (by omega)
            unfold leadV
            rw [this, e2]
            simp
          · omega)
        clear h0
        go_wp2
        go_ret2
        exact ⟨congrArg Ending.returned hlead.out.symm, rfl⟩
      · have hz : ((c.toNat : Int) == 0) = false := by rw [beq_eq_false_iff_ne]; omega
        have hne : c ≠ 0 := fun h => by rw [h] at h0; simp at h0
        have HNE := Go.Lib.hid hne
        clear hne h0
        by_cases hbig : 63 < c.toNat
        · have hlead : Hid (leadV s = .tuple #[.int .i64 0, .bool false]) := Go.Lib.hid (by
            rcases HR.out with ⟨_, ls, hg, hp⟩ | ⟨h, _⟩
            · obtain ⟨e1, e2⟩ := Nm.split_at hp hq.out
              have := Nm.lead_big hg e1 HNE.out (.inl hbig)
              unfold leadV
              rw [this]
            · omega)
          have hbi : (63 : Int) < (c.toNat : Int) := by omega
          go_wp2
          go_ret2
          exact ⟨congrArg Ending.returned hlead.out.symm, rfl⟩
        · have hbi : (c.toNat : Int) ≤ 63 := by omega
          have hnext : Hid ((k + 1 + c.toNat ≤ s.size ∧ ∃ ls, Nm.GoodL ls ∧ Nm.pre ls = (bl s).take (k + 1 + c.toNat)) ∨ (s.size < k + 1 + c.toNat ∧ Nm.lead (bl s) = none)) := Go.Lib.hid (by
            rcases HR.out with ⟨_, ls, hg, hp⟩ | ⟨h, _⟩
            · by_cases hfit : k + 1 + c.toNat ≤ s.size
              · obtain ⟨l, _, _, e1, e2⟩ := Nm.take_step hg hp hq.out HNE.out (by omega) (by rw [← size_bl]; exact hfit)
                exact .inl ⟨hfit, _, e2, e1⟩
              · obtain ⟨e1, e2⟩ := Nm.split_at hp hq.out
                refine .inr ⟨by omega, Nm.lead_big hg e1 HNE.out (.inr ?_)⟩
                rw [List.length_drop, ← size_bl]
                omega
            · omega)
          go_wp2
          go_round
          case rel => exact ⟨k + 1 + c.toNat, by go_num, by omega, hnext.out⟩
          case measure => simp [intOf]; omega
    · have hlead : Hid (leadV s = .tuple #[.int .i64 0, .bool false]) := Go.Lib.hid (by
        have : Nm.lead (bl s) = none := by
          rcases HR.out with ⟨h, ls, hg, hp⟩ | ⟨_, h⟩
          · by_cases he : k = s.size
            · exact Nm.lead_end hg (by rw [hp, he, size_bl, List.take_length])
            · have h255 : 255 ≤ k := by omega
              refine Nm.lead_long (r := (bl s).drop k) hg (by rw [hp, List.take_append_drop]) ?_
              rw [hp, List.length_take, ← size_bl]
              omega
          · exact h
        unfold leadV
        rw [this])
      have hor : s.size ≤ k ∨ (k < s.size ∧ 255 ≤ k) := by omega
      clear hk
      rcases hor with h | ⟨h1, h2⟩
      all_goals
        go_wp2
        go_ret2
        exact ⟨congrArg Ending.returned hlead.out.symm, rfl⟩

theorem valid_any (s : ByteArray) (w : World) (hs : s.size ≤ maxLen) :
    Calls Tryz.prog 31 #[.string s] w fun e w' => e = .returned (.bool (Nm.valid (bl s))) ∧ w = w' := by
  have hv := Nm.valid_lead (bl s)
  rw [← size_bl] at hv
  have hl := lead_any s w hs
  unfold leadV at hl
  cases hlead : Nm.lead (bl s) with
  | none =>
    rw [hlead] at hv hl
    simp only at hv hl
    have HV := Go.Lib.hid hv
    have HL := Go.Lib.hid hl
    clear hv hl hlead
    unfold maxLen at hs
    go_enter Tryz.func31, Tryz.ntmps31
    go_wp2_with (go_at_call 52; refine HL.out.mono ?_; rintro e w' ⟨rfl, rfl⟩)
    go_ret
    exact ⟨ret_bool HV.out.symm, rfl⟩
  | some n =>
    rw [hlead] at hv hl
    simp only at hv hl
    have HV := Go.Lib.hid hv
    have HL := Go.Lib.hid hl
    clear hv hl hlead
    unfold maxLen at hs
    go_enter Tryz.func31, Tryz.ntmps31
    go_wp2_with (go_at_call 52; refine HL.out.mono ?_; rintro e w' ⟨rfl, rfl⟩)
    go_ret
    refine ⟨ret_bool ?_, rfl⟩
    rw [HV.out, Bool.eq_iff_iff]
    simp
    omega

def encB (l : List UInt8) : List Value := l.map fun b => .int .u8 b.toNat

theorem low_up {c : UInt8} (h1 : 65 ≤ (c.toNat : Int)) (h2 : (c.toNat : Int) ≤ 90) : ((Nm.low c).toNat : Int) = (c.toNat : Int) + 97 - 65 := by
  unfold Nm.low
  have h : 65 ≤ c.toNat ∧ c.toNat ≤ 90 := by omega
  simp only [h, and_self, if_true, UInt8.toNat_add]
  have : (32 : UInt8).toNat = 32 := rfl
  rw [this]
  omega
theorem low_no {c : UInt8} (h : ¬ (65 ≤ (c.toNat : Int) ∧ (c.toNat : Int) ≤ 90)) : Nm.low c = c := by
  unfold Nm.low
  have h : ¬ (65 ≤ c.toNat ∧ c.toNat ≤ 90) := by omega
  simp [h]

/-- what stands in the row when k bytes are folded -/
def half (l : List UInt8) (k : Nat) : List UInt8 := (l.take k).map Nm.low ++ l.drop k

theorem half_length (l : List UInt8) (k : Nat) : (half l k).length = l.length := by
  unfold half
  rw [List.length_append, List.length_map, List.length_take, List.length_drop]; omega
theorem half_get {l : List UInt8} {k : Nat} (h : k < l.length) : (half l k)[k]? = some l[k] := by
  unfold half
  rw [List.getElem?_append_right (by rw [List.length_map, List.length_take]; omega), List.length_map, List.length_take, List.getElem?_drop]
  rw [show k + (k - min k l.length) = k from by omega]
  exact List.getElem?_eq_getElem h
theorem half_set {l : List UInt8} {k : Nat} (h : k < l.length) : (half l k).set k (Nm.low l[k]) = half l (k + 1) := by
  unfold half
  rw [List.set_append_right _ _ (by rw [List.length_map, List.length_take]; omega), List.length_map, List.length_take, show k - min k l.length = 0 from by omega,
    List.take_succ_eq_append_getElem h, List.map_append, List.append_assoc]
  have e := List.drop_eq_getElem_cons h
  rw [e]
  rfl
theorem half_same {l : List UInt8} {k : Nat} (h : k < l.length) (hl : Nm.low l[k] = l[k]) : half l (k + 1) = half l k := by
  rw [← half_set h, hl]
  refine List.ext_getElem? fun i => ?_
  · by_cases hi : k = i
    · subst hi; rw [List.getElem?_set_self (by rw [half_length]; exact h), half_get h]
    · rw [List.getElem?_set_ne hi]
theorem half_end (l : List UInt8) : half l l.length = Nm.foldB l := by simp [half, Nm.foldB]

set_option maxRecDepth 100000 in
set_option maxHeartbeats 800000 in
theorem fold_any (s : ByteArray) (w : World) (hs : s.size ≤ maxLen) :
    Calls Tryz.prog 51 #[.string s] w fun e w' => e = .returned (.string (mk (Nm.foldB (bl s)))) ∧ Below w.heap.size w w' := by
  obtain ⟨cap, w1, hrun, hcap, hcm, hrow, hb1, hsz⟩ := run_conv_bytes s hs w
  have hlen := size_bl s
  unfold maxLen at hs
  have HR := Go.Lib.hid hrow
  have HB := Go.Lib.hid hb1
  have HS := Go.Lib.hid hsz
  have HL := Go.Lib.hid hlen
  clear hrow hb1 hsz hlen
  generalize hg : w.heap.size = g at *
  have HG := Go.Lib.hid hg
  clear hg
  go_enter Tryz.func51, Tryz.ntmps51
  go_wp2
  go_loopw [10] (fun i wr => ∃ k : Nat, i = .int .i64 k ∧ k ≤ s.size ∧ Row wr g (encB (half (bl s) k)) ∧ Below g w wr) (fun i _ => s.size - (intOf i).toNat)
  case atStart => exact ⟨0, rfl, by omega, by simpa [half, encB] using HR.out, HB.out⟩
  case round =>
    obtain ⟨k, rfl, hk, hrow, hb⟩ := hrel
    by_cases hlt : k < s.size
    · have hkl : k < (bl s).length := by rw [← HL.out]; exact hlt
      have hcell : wr.cell? ⟨g, k, none⟩ = some (.int .u8 ((bl s)[k]'hkl).toNat) := by
        rw [hrow.cell (by simp [encB, half_length]; exact hkl)]
        simp [encB, half_get hkl]
      have hfree : wr.frozen? ⟨g, k, none⟩ = false := hrow.free (by simp [encB, half_length]; exact hkl)
      have hset : Row (wr.setCell ⟨g, k, none⟩ (.int .u8 (Nm.low ((bl s)[k]'hkl)).toNat)) g (encB (half (bl s) (k + 1))) := by
        have := hrow.set k (.int .u8 (Nm.low ((bl s)[k]'hkl)).toNat)
        rw [← half_set hkl]
        unfold encB at this ⊢
        rwa [List.map_set]
      have hsame : Nm.low ((bl s)[k]'hkl) = (bl s)[k]'hkl → half (bl s) (k + 1) = half (bl s) k := half_same hkl
      have HSET := Go.Lib.hid hset
      have HSAME := Go.Lib.hid hsame
      have HROW := Go.Lib.hid hrow
      have HBW := Go.Lib.hid hb
      clear hset hsame hrow hb
      generalize (bl s)[k]'hkl = c at *
      have hcb := c.toNat_lt
      by_cases hup : 65 ≤ (c.toNat : Int) ∧ (c.toNat : Int) ≤ 90
      · obtain ⟨h1, h2⟩ := hup
        have hlow := low_up h1 h2
        have HLOW := Go.Lib.hid hlow
        clear hlow
        go_wp2
        go_roundw
        case rel => exact ⟨k + 1, by go_num, by omega, by rw [← HLOW.out]; exact HSET.out, HBW.out.setCell (p := ⟨g, k, none⟩) (Nat.le_refl _) _⟩
        case measure => simp [intOf]; omega
      · have hlow := Go.Lib.hid (HSAME.out (low_no hup))
        have hor : (c.toNat : Int) < 65 ∨ (65 ≤ (c.toNat : Int) ∧ 90 < (c.toNat : Int)) := by omega
        clear hup
        rcases hor with h | ⟨h1, h2⟩
        all_goals
          go_wp2
          go_roundw
          case rel => exact ⟨k + 1, by go_num, by omega, by rw [hlow.out]; exact HROW.out, HBW.out⟩
          case measure => simp [intOf]; omega
    · have hke : k = s.size := by omega
      have hby : Byts wr (.slice (some ⟨g, 0, none⟩) s.size cap) (Nm.foldB (bl s)) := by
        have h1 := hrow.slc (n := s.size) (by simp [encB, half_length, HL.out]) hcap hcm
        rw [hke, HL.out, half_end] at h1
        rw [HL.out]
        unfold Byts
        rw [Nm.foldB_length]
        exact h1
      have hcv := run_conv_string hby
      clear hke hby
      go_wp2
      go_ret
      exact ⟨rfl, hb⟩

set_option maxRecDepth 100000 in
theorem Fold_any (s : ByteArray) (w : World) (hs : s.size ≤ maxLen) :
    Calls Tryz.prog 32 #[.string s] w fun e w' => e = .returned (.string (mk (Nm.foldN (bl s)))) ∧ Below w.heap.size w w' := by
  have hv := valid_any s w hs
  have hf := fold_any s w hs
  cases hc : Nm.valid (bl s) with
  | true =>
    rw [hc] at hv
    have hfin : Hid (Nm.foldN (bl s) = Nm.foldB (bl s)) := Go.Lib.hid (by simp [Nm.foldN, hc])
    have HV := Go.Lib.hid hv
    have HF := Go.Lib.hid hf
    clear hv hf hc hs
    go_enter Tryz.func32, Tryz.ntmps32
    go_wp2_with (first | (go_at_call 31; refine HV.out.mono ?_; rintro e w' ⟨rfl, rfl⟩) | (go_at_call 51; refine HF.out.mono ?_; rintro e w' ⟨rfl, hb⟩))
    go_ret
    exact ⟨ret_str (by rw [hfin.out]), hb⟩
  | false =>
    rw [hc] at hv
    have hfin : Hid (Nm.foldN (bl s) = bl s) := Go.Lib.hid (by simp [Nm.foldN, hc])
    have HV := Go.Lib.hid hv
    clear hv hf hc hs
    go_enter Tryz.func32, Tryz.ntmps32
    go_wp2_with (go_at_call 31; refine HV.out.mono ?_; rintro e w' ⟨rfl, rfl⟩)
    go_ret
    exact ⟨ret_str (by rw [hfin.out, mk_bl]), Below.refl _ _⟩

theorem eqs (a b : List UInt8) : ((mk a).toList == (mk b).toList) = (a == b) := by rw [toList_bl, toList_bl, bl_mk, bl_mk]

set_option maxRecDepth 100000 in
theorem Same_any (s t : ByteArray) (w : World) (hs : s.size ≤ maxLen) (ht : t.size ≤ maxLen) :
    Calls Tryz.prog 30 #[.string s, .string t] w fun e w' => e = .returned (.bool (Nm.sameN (bl s) (bl t))) ∧ Below w.heap.size w w' := by
  have hv := valid_any s w hs
  have hu := valid_any t w ht
  cases hc : Nm.valid (bl s) with
  | false =>
    rw [hc] at hv
    have hfin : Hid (Nm.sameN (bl s) (bl t) = false) := Go.Lib.hid (by simp [Nm.sameN, hc])
    have HV := Go.Lib.hid hv
    clear hv hu hc hs ht
    go_enter Tryz.func30, Tryz.ntmps30
    go_wp2_with (go_at_call 31; refine HV.out.mono ?_; rintro e w' ⟨rfl, rfl⟩)
    go_ret
    exact ⟨ret_bool hfin.out.symm, Below.refl _ _⟩
  | true =>
    cases hd : Nm.valid (bl t) with
    | false =>
      rw [hc] at hv
      rw [hd] at hu
      have hfin : Hid (Nm.sameN (bl s) (bl t) = false) := Go.Lib.hid (by simp [Nm.sameN, hd])
      have HV := Go.Lib.hid hv
      have HU := Go.Lib.hid hu
      clear hv hu hc hd hs ht
      go_enter Tryz.func30, Tryz.ntmps30
      go_wp2_with fail
      refine HV.out.mono ?_; rintro e w' ⟨rfl, rfl⟩
      go_wp2_with fail
      refine HU.out.mono ?_; rintro e w' ⟨rfl, rfl⟩
      go_wp2_with fail
      go_ret
      exact ⟨ret_bool hfin.out.symm, Below.refl _ _⟩
    | true =>
      rw [hc] at hv
      rw [hd] at hu
      have hfin : Hid (Nm.sameN (bl s) (bl t) = (Nm.foldB (bl s) == Nm.foldB (bl t))) := Go.Lib.hid (by simp [Nm.sameN, hc, hd])
      have HV := Go.Lib.hid hv
      have HU := Go.Lib.hid hu
      clear hv hu hc hd
      go_enter Tryz.func30, Tryz.ntmps30
      go_wp2_with fail
      refine HV.out.mono ?_; rintro e w' ⟨rfl, rfl⟩
      go_wp2_with fail
      refine HU.out.mono ?_; rintro e w' ⟨rfl, rfl⟩
      go_wp2_with fail
      refine (fold_any s _ hs).mono ?_; rintro e w1 ⟨rfl, hb1⟩
      go_wp2_with fail
      refine (fold_any t _ ht).mono ?_; rintro e w2 ⟨rfl, hb2⟩
      go_wp2_with fail
      go_ret
      exact ⟨ret_bool (by rw [hfin.out, eqs]), hb1.trans (hb2.mono hb1.size)⟩
end Go.Proofs.YtgbmclgnbbhcbaaGreat

/- Small words for walks: sums that fit, one world, texts that are alike or not, and freshetalike.Round. No conditions. -/
namespace Go.Proofs.YtgbmclgnbbhcbaaGreat
open Go.RowKit

theorem wrapi {n : Int} (h1 : -9223372036854775808 ≤ n) (h2 : n ≤ 9223372036854775807) : IntKind.i64.wrap n = n := by
  rw [IntKind.wrap_i64]; omega

/-- one world -/
def AtW (w0 w : World) : Prop := w = w0
theorem AtW.cell {w0 : World} {p : Addr} {v : Value} (h : w0.cell? p = some v) (w3 : Subtype (AtW w0)) : w3.1.cell? p = some v := by
  have := w3.2
  unfold AtW at this
  rw [this]; exact h

theorem bne_mk_false {a b : List UInt8} (h : a = b) : ((mk a).toList != (mk b).toList) = false := by rw [toList_bl, toList_bl, bl_mk, bl_mk, h, bne_self_eq_false]
theorem bne_mk_true {a b : List UInt8} (h : ¬ a = b) : ((mk a).toList != (mk b).toList) = true := by rw [toList_bl, toList_bl, bl_mk, bl_mk]; simpa using h

theorem beq_mk_true {a b : List UInt8} (h : a = b) : ((mk a).toList == (mk b).toList) = true := by rw [toList_bl, toList_bl, bl_mk, bl_mk, h, beq_self_eq_true]
theorem beq_mk_false {a b : List UInt8} (h : ¬ a = b) : ((mk a).toList == (mk b).toList) = false := by rw [toList_bl, toList_bl, bl_mk, bl_mk]; simpa using h
theorem ne_mk {a b : List UInt8} (h : ¬ a = b) : ¬ (mk a).toList = (mk b).toList := by rw [toList_bl, toList_bl, bl_mk, bl_mk]; exact h

theorem slc_bounds {w : World} {sz n m cap : Nat} {a : Option Addr} {cs : List Value} (h : SlC w sz (.slice a n cap) m cs) : n ≤ cap ∧ cap ≤ maxLen := by
  obtain ⟨_, a', cap', hv, h1, h2, _⟩ := h
  simp only [Value.slice.injEq] at hv
  obtain ⟨_, rfl, rfl⟩ := hv
  exact ⟨h1, h2⟩

theorem below_drewN {B : Nat} {w wr : World} (h : Below B w wr) (n : Nat) : Below B w (wr.drewN n) := ⟨h.os, h.tape, h.output, h.size, h.block⟩

theorem owns_below {w w' : World} {base e sz n : Nat} {v : Value} {xs : List Value} (h : w.ownsRow base e sz v n xs) (hb : Below w.heap.size w w') : w'.ownsRow base e sz v n xs :=
  h.kept (⟨hb.os, hb.tape, hb.output, hb.size, fun k hk _ => hb.block k hk⟩ : w.grownBy w' none) (by cases Value.ownBlock _ <;> simp)

end Go.Proofs.YtgbmclgnbbhcbaaGreat

/- The contracts of the reference's Labels, Valid, Fold, Same: what each returns, at every text that memory bears. -/
namespace Go.Proofs.YtgbmclgnbbhcbaaGreat
open Go.RowKit

theorem infoS : (Tryz.prog.info? 9).map (fun i => (i.zero, i.size, i.bytes)) = some (some (.string ⟨#[]⟩), 1, 16) := by kernel_rfl
theorem eiS : EI Tryz.prog 29 9 1 16 := ei_of Tryz.underlying29 infoS rfl (by decide)

def encS (ls : List (List UInt8)) : List Value := ls.map fun l => .string (mk l)
theorem encS_snoc (ls : List (List UInt8)) (l : List UInt8) : encS (ls ++ [l]) = encS ls ++ [.string (mk l)] := by simp [encS]
theorem extract_mk (s : ByteArray) (a b : Nat) : s.extract a b = mk (((bl s).drop a).take (b - a)) := by
  apply bl_inj
  rw [bl_mk, bl_extract]

/-- it returns a list of texts, in new memory -/
def RetStrs (w : World) (ls : List (List UInt8)) (e : Ending) (w' : World) : Prop := ∃ v, e = .returned v ∧ Strs w' v ls ∧ Below w.heap.size w w'
def RetStrsB (w : World) (p : List (List UInt8) × Bool) (e : Ending) (w' : World) : Prop := ∃ v, e = .returned (.tuple #[v, .bool p.2]) ∧ Strs w' v p.1 ∧ Below w.heap.size w w'

theorem strs_owned {w : World} {g e : Nat} {v : Value} {ls : List (List UInt8)} (h : w.ownsRow g e 1 v ls.length (encS ls)) : Strs w v ls := SlC.of_owns h

set_option maxRecDepth 100000 in
set_option maxHeartbeats 1000000 in
theorem refLabels_any (s : ByteArray) (w : World) :
    Calls Tryz.prog 57 #[.string s] w (RetStrsB w (Nm.refLab (bl s))) := by
  have hsz := size_bl s
  by_cases hlong : 255 < s.size
  · have hfin := Go.Lib.hid (Nm.refLab_long (s := bl s) (by omega))
    clear hsz
    go_enter Tryz.func57, Tryz.ntmps57
    go_wp2
    go_ret2
    exact ⟨_, by rw [hfin.out]; rfl, by rw [hfin.out]; exact SlC.nil _ _, Below.refl _ _⟩
  have hs : s.size ≤ 255 := by omega
  have HSZ := Go.Lib.hid hsz
  clear hsz hlong
  generalize hg : w.heap.size = g at *
  have HG := Go.Lib.hid hg
  clear hg
  go_enter Tryz.func57, Tryz.ntmps57
  go_wp2
  go_loopw [4, 5] (fun v at_ wr => ∃ (k : Nat) (ls : List (List UInt8)), at_ = .int .i64 k ∧ k ≤ s.size ∧ Nm.GoodL ls ∧ Nm.pre ls = (bl s).take k ∧ ls.length ≤ k ∧ wr.ownsRow g 9 1 v ls.length (encS ls) ∧ Below g w wr)
    (fun _ at_ _ => s.size - (intOf at_).toNat)
  case atStart => exact ⟨0, [], rfl, by omega, Nm.good_nil, by simp [Nm.pre], by simp, World.ownsRow_nil _ _ _ _, Below.refl _ _⟩
  case round =>
    obtain ⟨k, ls, rfl, hk, hgl, hp, hll, hown, hb⟩ := hrel
    have HP := Go.Lib.hid hp
    have HO := Go.Lib.hid hown
    have HB := Go.Lib.hid hb
    have HGL := Go.Lib.hid hgl
    have hgw : g ≤ wr.heap.size := by have := HB.out.size; rw [HG.out] at this; exact this
    clear hp hown hb hgl
    by_cases hlt : k < s.size
    · have hq := getq hlt
      generalize hc : s[k] = c at hq
      have hq := Go.Lib.hid hq
      have hcb := c.toNat_lt
      by_cases h0 : c.toNat = 0
      · have hz : ((c.toNat : Int) == 0) = true := by rw [h0]; rfl
        have hc0 : c = 0 := by rw [← UInt8.toNat_inj]; simpa using h0
        have hsp := Nm.split_at HP.out hq.out
        rw [hc0] at hsp
        have hfin : Hid (Nm.refLab (bl s) = (ls, (((bl s).drop (k + 1)).isEmpty))) := Go.Lib.hid (Nm.refLab_some (by rw [← HSZ.out]; exact hs) (Nm.unwire_zero HGL.out hsp.1))
        have hbool : Hid (((bl s).drop (k + 1)).isEmpty = ((k : Int) == (s.size : Int) - 1)) := Go.Lib.hid (by
          rw [Bool.eq_iff_iff, List.isEmpty_iff, List.drop_eq_nil_iff, ← HSZ.out, beq_iff_eq]
          omega)
        clear h0 hsp
        rw [hc0] at hz
        go_wp2
        go_ret2
        exact ⟨_, by rw [hfin.out]; exact congrArg (fun b => Ending.returned (.tuple #[_, .bool b])) hbool.out.symm, by rw [hfin.out]; exact strs_owned HO.out, by rw [HG.out]; exact HB.out⟩
      · have hz : ((c.toNat : Int) == 0) = false := by rw [beq_eq_false_iff_ne]; omega
        have hne : c ≠ 0 := fun h => by rw [h] at h0; simp at h0
        have HNE := Go.Lib.hid hne
        clear hne h0
        by_cases hbad : 63 < (c.toNat : Int) ∨ (s.size : Int) - k - 1 < (c.toNat : Int)
        · have hfin : Hid (Nm.refLab (bl s) = ([], false)) := Go.Lib.hid (by
            refine Nm.refLab_none (Nm.unwire_big HGL.out (Nm.split_at HP.out hq.out).1 HNE.out ?_)
            rw [List.length_drop, ← HSZ.out]
            omega)
          have hor : 63 < (c.toNat : Int) ∨ ((c.toNat : Int) ≤ 63 ∧ (s.size : Int) - k - 1 < (c.toNat : Int)) := by omega
          clear hbad
          rcases hor with h | ⟨h1, h2⟩
          all_goals
            go_wp2
            go_ret2
            exact ⟨_, by rw [hfin.out]; rfl, by rw [hfin.out]; exact SlC.nil _ _, by rw [HG.out]; exact HB.out⟩
        · have h63 : (c.toNat : Int) ≤ 63 := by omega
          have hfit : k + 1 + c.toNat ≤ s.size := by omega
          clear hbad
          obtain ⟨l, hl1, hl2, hl3, hl4⟩ := Nm.take_step HGL.out HP.out hq.out HNE.out (by omega) (by rw [← HSZ.out]; exact hfit)
          have hex : Hid (s.extract (k + 1) (k + 1 + c.toNat) = mk l) := Go.Lib.hid (by rw [extract_mk, hl1]; congr 2; omega)
          have H3 := Go.Lib.hid hl3
          have H4 := Go.Lib.hid hl4
          have H1 : 1 ≤ c.toNat := Nm.toNat_pos HNE.out
          clear hl1 hl2 hl3 hl4
          go_wp2_with (at_builtin; refine wpList_app eiS (.tmp 37) (.tmp 46) rfl rfl g rfl rfl (HO.out.alloc _) (slc_new _ 1 1 9 [.string (s.extract (k + 1) (k + 1 + c.toNat))] rfl (by decide)) ?h1 ?h2 ?h3 ?h4 ?h5; rotate_right; intro v1 w1 hown1 hg1)
          case h1 => intro u hu; simp at hu; subst hu; rfl
          case h2 => unfold maxLen; omega
          case h3 => omega
          case h4 => simp; omega
          go_roundw
          case rel => exact ⟨k + 1 + c.toNat, ls ++ [l], by go_num, hfit, H4.out, H3.out, by simp; omega, by rw [List.length_append, encS_snoc, ← hex.out]; exact hown1, below_app (HB.out.alloc hgw _) (HO.out.alloc _) hg1 (Nat.le_refl _) (by simp; omega)⟩
          case measure => simp [intOf]; omega
    · have hke : k = s.size := by omega
      have hfin : Hid (Nm.refLab (bl s) = ([], false)) := Go.Lib.hid (by
        refine Nm.refLab_none (Nm.unwire_end HGL.out ?_)
        rw [HP.out, hke, HSZ.out, List.take_length])
      clear hke
      go_wp2
      go_ret2
      exact ⟨_, by rw [hfin.out]; rfl, by rw [hfin.out]; exact SlC.nil _ _, by rw [HG.out]; exact HB.out⟩
set_option maxRecDepth 100000 in
theorem refValid_any (s : ByteArray) (w : World) :
    Calls Tryz.prog 39 #[.string s] w fun e w' => e = .returned (.bool (Nm.valid (bl s))) ∧ Below w.heap.size w w' := by
  have hl := refLabels_any s w
  have hfin := Go.Lib.hid (Nm.refLab_valid (bl s))
  have HL := Go.Lib.hid hl
  clear hl
  go_enter Tryz.func39, Tryz.ntmps39
  go_wp2_with (go_at_call 57; refine HL.out.mono ?_; rintro e w' ⟨v, rfl, _, hb⟩)
  go_ret
  exact ⟨ret_bool hfin.out, hb⟩

theorem low_ref {c : UInt8} (h1 : 65 ≤ (c.toNat : Int)) (h2 : (c.toNat : Int) ≤ 90) : ((Nm.low c).toNat : Int) = (c.toNat : Int) + 32 := by
  rw [low_up h1 h2]; omega

set_option maxRecDepth 100000 in
set_option maxHeartbeats 800000 in
theorem refFold_any (s : ByteArray) (w : World) (hs : s.size ≤ maxLen) :
    Calls Tryz.prog 40 #[.string s] w fun e w' => e = .returned (.string (mk (Nm.foldN (bl s)))) ∧ Below w.heap.size w w' := by
  have hv := refValid_any s w
  cases hc : Nm.valid (bl s) with
  | false =>
    rw [hc] at hv
    have hfin : Hid (Nm.foldN (bl s) = bl s) := Go.Lib.hid (by simp [Nm.foldN, hc])
    have HV := Go.Lib.hid hv
    clear hv hc hs
    go_enter Tryz.func40, Tryz.ntmps40
    go_wp2_with (go_at_call 39; refine HV.out.mono ?_; rintro e w' ⟨rfl, hb⟩)
    go_ret
    exact ⟨ret_str (by rw [hfin.out, mk_bl]), hb⟩
  | true =>
    rw [hc] at hv
    have hfin : Hid (Nm.foldN (bl s) = Nm.foldB (bl s)) := Go.Lib.hid (by simp [Nm.foldN, hc])
    have HV := Go.Lib.hid hv
    clear hv hc
    have hlen := size_bl s
    go_enter Tryz.func40, Tryz.ntmps40
    go_wp2_with fail
    refine HV.out.mono ?_
    rintro e w0 ⟨rfl, hb0⟩
    obtain ⟨cap, w1, hrun, hcap, hcm, hrow, hb1, hsz⟩ := run_conv_bytes s hs w0
    unfold maxLen at hs
    have HR := Go.Lib.hid hrow
    have HB := Go.Lib.hid (hb0.trans (hb1.mono hb0.size))
    have hsg := hb0.size
    have HL := Go.Lib.hid hlen
    clear hrow hb0 hb1 hsz hlen
    generalize hg : w0.heap.size = g at *
    have HG := Go.Lib.hid hg
    clear hg
    go_wp2_with fail
    go_loopw [4] (fun i wr => ∃ k : Nat, i = .int .i64 k ∧ k ≤ s.size ∧ Row wr g (encB (half (bl s) k)) ∧ Below w.heap.size w wr) (fun i _ => s.size - (intOf i).toNat)
    case atStart => exact ⟨0, rfl, by omega, by simpa [half, encB] using HR.out, HB.out⟩
    case round =>
      obtain ⟨k, rfl, hk, hrow, hb⟩ := hrel
      by_cases hlt : k < s.size
      · have hkl : k < (bl s).length := by rw [← HL.out]; exact hlt
        have hcell : wr.cell? ⟨g, k, none⟩ = some (.int .u8 ((bl s)[k]'hkl).toNat) := by
          rw [hrow.cell (by simp [encB, half_length]; exact hkl)]
          simp [encB, half_get hkl]
        have hfree : wr.frozen? ⟨g, k, none⟩ = false := hrow.free (by simp [encB, half_length]; exact hkl)
        have hset : Row (wr.setCell ⟨g, k, none⟩ (.int .u8 (Nm.low ((bl s)[k]'hkl)).toNat)) g (encB (half (bl s) (k + 1))) := by
          have := hrow.set k (.int .u8 (Nm.low ((bl s)[k]'hkl)).toNat)
          rw [← half_set hkl]
          unfold encB at this ⊢
          rwa [List.map_set]
        have hsame : Nm.low ((bl s)[k]'hkl) = (bl s)[k]'hkl → half (bl s) (k + 1) = half (bl s) k := half_same hkl
        have HSET := Go.Lib.hid hset
        have HSAME := Go.Lib.hid hsame
        have HROW := Go.Lib.hid hrow
        have HBW := Go.Lib.hid hb
        clear hset hsame hrow hb
        generalize (bl s)[k]'hkl = c at *
        have hcb := c.toNat_lt
        by_cases hup : 65 ≤ (c.toNat : Int) ∧ (c.toNat : Int) ≤ 90
        · obtain ⟨h1, h2⟩ := hup
          have hlow := low_ref h1 h2
          have HLOW := Go.Lib.hid hlow
          clear hlow
          go_wp2
          go_roundw
          case rel => exact ⟨k + 1, by go_num, by omega, by rw [← HLOW.out]; exact HSET.out, HBW.out.setCell (p := ⟨g, k, none⟩) hsg _⟩
          case measure => simp [intOf]; omega
        · have hlow := Go.Lib.hid (HSAME.out (low_no hup))
          have hor : (c.toNat : Int) < 65 ∨ (65 ≤ (c.toNat : Int) ∧ 90 < (c.toNat : Int)) := by omega
          clear hup
          rcases hor with h | ⟨h1, h2⟩
          all_goals
            go_wp2
            go_roundw
            case rel => exact ⟨k + 1, by go_num, by omega, by rw [hlow.out]; exact HROW.out, HBW.out⟩
            case measure => simp [intOf]; omega
      · have hke : k = s.size := by omega
        have hby : Byts wr (.slice (some ⟨g, 0, none⟩) s.size cap) (Nm.foldB (bl s)) := by
          have h1 := hrow.slc (n := s.size) (by simp [encB, half_length, HL.out]) hcap hcm
          rw [hke, HL.out, half_end] at h1
          rw [HL.out]
          unfold Byts
          rw [Nm.foldB_length]
          exact h1
        have hcv := run_conv_string hby
        clear hke hby
        go_wp2
        go_ret
        exact ⟨ret_str (by rw [hfin.out]), hb⟩

theorem eqs' (a b : List UInt8) : ((mk a).toList == (mk b).toList) = (a == b) := by rw [toList_bl, toList_bl, bl_mk, bl_mk]

set_option maxRecDepth 100000 in
theorem refSame_any (s t : ByteArray) (w : World) (hs : s.size ≤ maxLen) (ht : t.size ≤ maxLen) :
    Calls Tryz.prog 21 #[.string s, .string t] w fun e w' => e = .returned (.bool (Nm.sameN (bl s) (bl t))) ∧ Below w.heap.size w w' := by
  have hv := refValid_any s w
  cases hc : Nm.valid (bl s) with
  | false =>
    rw [hc] at hv
    have hfin : Hid (Nm.sameN (bl s) (bl t) = false) := Go.Lib.hid (by simp [Nm.sameN, hc])
    have HV := Go.Lib.hid hv
    clear hv hc hs ht
    go_enter Tryz.func21, Tryz.ntmps21
    go_wp2_with (go_at_call 39; refine HV.out.mono ?_; rintro e w' ⟨rfl, hb⟩)
    go_ret
    exact ⟨ret_bool hfin.out.symm, hb⟩
  | true =>
    cases hd : Nm.valid (bl t) with
    | false =>
      rw [hc] at hv
      have hfin : Hid (Nm.sameN (bl s) (bl t) = false) := Go.Lib.hid (by simp [Nm.sameN, hd])
      have HD := Go.Lib.hid hd
      have HV := Go.Lib.hid hv
      clear hv hc hd hs ht
      go_enter Tryz.func21, Tryz.ntmps21
      go_wp2_with fail
      refine HV.out.mono ?_; rintro e w1 ⟨rfl, hb1⟩
      go_wp2_with fail
      refine (refValid_any t w1).mono ?_; rintro e w2 ⟨rfl, hb2⟩
      rw [HD.out]
      go_wp2_with fail
      go_ret
      exact ⟨ret_bool hfin.out.symm, hb1.trans (hb2.mono hb1.size)⟩
    | true =>
      rw [hc] at hv
      have hfin : Hid (Nm.sameN (bl s) (bl t) = (Nm.foldN (bl s) == Nm.foldN (bl t))) := Go.Lib.hid (by simp [Nm.sameN, Nm.foldN, hc, hd])
      have HD := Go.Lib.hid hd
      have HV := Go.Lib.hid hv
      clear hv hc hd
      go_enter Tryz.func21, Tryz.ntmps21
      go_wp2_with fail
      refine HV.out.mono ?_; rintro e w1 ⟨rfl, hb1⟩
      go_wp2_with fail
      refine (refValid_any t w1).mono ?_; rintro e w2 ⟨rfl, hb2⟩
      rw [HD.out]
      go_wp2_with fail
      refine (refFold_any s _ hs).mono ?_; rintro e w3 ⟨rfl, hb3⟩
      go_wp2_with fail
      refine (refFold_any t _ ht).mono ?_; rintro e w4 ⟨rfl, hb4⟩
      go_wp2_with fail
      go_ret
      have z1 := hb1.size
      have z2 := hb2.size
      have z3 := hb3.size
      exact ⟨ret_bool (by rw [hfin.out, eqs']), ((hb1.trans (hb2.mono z1)).trans (hb3.mono (by omega))).trans (hb4.mono (by omega))⟩

end Go.Proofs.YtgbmclgnbbhcbaaGreat

/- A region whose order is left open and whose last operation waits for all others, walked once, in the order of the text: the last one may leave the class of worlds in which the others may be done. No conditions beside. -/
namespace Go.Mix
open Go
section
variable {P : Program} {ops : Array Oper} {md : Region.Mode} {E : Nat → Bool} {C : World → Prop}

/-- the last operation -/
def tOp (P : Program) (ops : Array Oper) (i : Nat) (K : Act → World → Prop) (a : Act) (w : World) : Prop :=
  match ops[i]? with
  | none => K a w
  | some o => if Region.wanted o (yielded ops a.tmps) then o.wp P a w K NoExit else K (a.put o.dst undef) w

def wpAnyT (P : Program) (md : Region.Mode) (ops : Array Oper) (E : Nat → Bool) (C : World → Prop) (Q : Act → World → Prop) (tl : Nat) : Nat → Array Bool → Act → World → Prop
  | 0, listed, a, w => Region.ready md ops listed = [] ∧ Q a w
  | fuel + 1, listed, a, w =>
    (Region.ready md ops listed = [] → Q a w) ∧
    ∀ i ∈ Region.ready md ops listed, (i = tl → Region.ready md ops (listed.setIfInBounds i true) = [] ∧ tOp P ops i Q a w) ∧
      (i ≠ tl → mOp P ops E C i (wpAnyT P md ops E C Q tl fuel (listed.setIfInBounds i true)) a w)

theorem wpAny_end {Q : Exit → Act → World → Prop} {listed : Array Bool} (h : Region.ready md ops listed = []) (fuel : Nat) {a : Act} {w : World} (hq : Q .normal a w) : wpAny P md ops Q fuel listed a w := by
  cases fuel with
  | zero => exact ⟨h, hq⟩
  | succ n => exact ⟨fun _ => hq, fun i hi => (by rw [h] at hi; cases hi)⟩

theorem wpOp_of_tOp {i : Nat} {a : Act} {w : World} {K K' : Act → World → Prop} {Q : Exit → Act → World → Prop} (h : ∀ a w, K a w → K' a w)
    (hh : tOp P ops i K a w) : wpOp P ops Q i K' a w := by
  unfold tOp at hh
  unfold wpOp
  split
  · rename_i ho; simp only [ho] at hh; exact h _ _ hh
  · rename_i o ho
    simp only [ho] at hh
    split
    · rename_i hwt
      simp only [hwt, if_true] at hh
      exact .inl (wp_monoQ h hh)
    · rename_i hwt
      simp only [hwt] at hh
      exact h _ _ hh

theorem wpAny_of_wpAnyT {Q : Act → World → Prop} {Q' : Exit → Act → World → Prop} {tl : Nat} (hQ : ∀ a w, Q a w → Q' .normal a w) :
    ∀ (fuel : Nat) (listed : Array Bool) (a : Act) (w : World), C w → wpAnyT P md ops E C Q tl fuel listed a w → wpAny P md ops Q' fuel listed a w
  | 0, _, _, _, _, h => ⟨h.1, hQ _ _ h.2⟩
  | fuel + 1, listed, a, w, hw, h => ⟨fun h0 => hQ _ _ (h.1 h0), fun i hi => by
      by_cases hit : i = tl
      · obtain ⟨h1, h2⟩ := (h.2 i hi).1 hit
        exact wpOp_of_tOp (fun a' w' hq => wpAny_end h1 fuel (hQ _ _ hq)) h2
      · exact wpOp_of_mOp hw (fun a' w' hw' => wpAny_of_wpAnyT hQ fuel _ a' w' hw') ((h.2 i hi).2 hit)⟩

/-- the last operation waits for all others -/
def Tail (md : Region.Mode) (ops : Array Oper) (n tl : Nat) : Prop := ∀ i, i < ops.size → i ≠ tl → dep md ops n tl i = true

theorem wpAnyT_first {Q : Act → World → Prop} {n tl : Nat} (hch : Chain md ops E n) (htl : Tail md ops n tl) {i : Nat} {oi : Oper} (hi : ops[i]? = some oi) (hit : i ≠ tl)
    (hsel : ∀ (j : Nat) (o : Oper) cs b, ops[j]? = some o → o.op ≠ .select cs b) :
    ∀ (fuel : Nat) (listed : Array Bool) (a : Act) (w : World), Down md ops listed → C w →
      (∀ j oj, ops[j]? = some oj → j ≠ i → listed.getD j true = false → (∀ e ∈ oj.after, Region.binds md e = true → e.on ≠ i) → oi.apart ops oj = true) →
      i ∈ Region.ready md ops listed →
      mOp P ops E C i (wpAnyT P md ops E C Q tl fuel (listed.setIfInBounds i true)) a w → wpAnyT P md ops E C Q tl (fuel + 1) listed a w := by
  intro fuel
  induction fuel with
  | zero =>
    intro listed a w _ _ _ hr H
    refine ⟨fun h => (by rw [h] at hr; cases hr), fun j hj => ?_⟩
    by_cases hji : j = i
    · subst hji; exact ⟨fun h => absurd h hit, fun _ => H⟩
    · have := ready_mono hj hji
      obtain ⟨a', w', hK⟩ := mOp_ex H
      rw [hK.1] at this
      cases this
  | succ fuel ih =>
    intro listed a w hdn hw hfree hr H
    refine ⟨fun h => (by rw [h] at hr; cases hr), fun j hj => ?_⟩
    by_cases hji : j = i
    · subst hji; exact ⟨fun h => absurd h hit, fun _ => H⟩
    · obtain ⟨hjun, oj, hoj, hall⟩ := mem_ready.1 hj
      have hiun := (mem_ready.1 hr).1
      have hjt : j ≠ tl := by
        intro hjt
        subst hjt
        have h1 := htl i (Array.getElem?_eq_some_iff.1 hi).1 hit
        rw [dep_ready hdn (getD_true_false hiun) hj n] at h1
        cases h1
      refine ⟨fun h => absurd h hjt, fun _ => ?_⟩
      have hnot : ∀ e ∈ oj.after, Region.binds md e = true → e.on ≠ i := fun e he hb heq => by
        have h1 := hall e he hb
        rw [heq, getD_true_false hiun] at h1
        cases h1
      have hap := hfree j oj hoj hji hjun hnot
      have hE : ¬ (E i = true ∧ E j = true) := by
        rintro ⟨hEi, hEj⟩
        rcases hch i j (Array.getElem?_eq_some_iff.1 hi).1 (Array.getElem?_eq_some_iff.1 hoj).1 (Ne.symm hji) hEi hEj with h | h
        · rw [dep_ready hdn (getD_true_false hjun) hr n] at h; cases h
        · rw [dep_ready hdn (getD_true_false hiun) hj n] at h; cases h
      have H1 : mOp P ops E C i (mOp P ops E C j (wpAnyT P md ops E C Q tl fuel ((listed.setIfInBounds i true).setIfInBounds j true))) a w :=
        mOp_mono hw (fun a' w' _ hK => (hK.2 j (ready_mono hj hji)).2 hjt) H
      have H2 := mOp_comm hi hoj hap (fun cs b => hsel i oi cs b hi) (fun cs b => hsel j oj cs b hoj) hE hw H1
      have hfree' : ∀ k ok, ops[k]? = some ok → k ≠ i → (listed.setIfInBounds j true).getD k true = false →
          (∀ e ∈ ok.after, Region.binds md e = true → e.on ≠ i) → oi.apart ops ok = true := fun k ok hk hki hun hno => by
        refine hfree k ok hk hki ?_ hno
        by_cases hjk : j = k
        · subst hjk; exact hjun
        · rw [getD_set_ne true hjk] at hun; exact hun
      refine mOp_mono hw (fun a' w' hw' h3 => ih (listed.setIfInBounds j true) a' w' (hdn.ready hj) hw' hfree' (ready_mono hr (Ne.symm hji)) ?_) H2
      rw [Array.setIfInBounds_comm _ _ hji]
      exact h3

/-- THE WALK IN THE ORDER OF THE TEXT -/
def wpMixT (P : Program) (ops : Array Oper) (E : Nat → Bool) (C : World → Prop) (Q : Act → World → Prop) (tl : Nat) : Nat → List Oper → Act → World → Prop
  | _, [], a, w => Q a w
  | k, o :: rest, a, w =>
    (k = tl → if Region.wanted o (yielded ops a.tmps) then o.wp P a w Q NoExit else Q (a.put o.dst undef) w) ∧
    (k ≠ tl → if Region.wanted o (yielded ops a.tmps) then
      if E k then o.wp P a w (fun a' w' => C w' ∧ wpMixT P ops E C Q tl (k + 1) rest a' w') NoExit
      else ∃ v, (∀ w2 : Subtype C, (execOp a.eval o).run P w2.1 = .ok (.value v) w2.1) ∧ wpMixT P ops E C Q tl (k + 1) rest (a.put o.dst v) w
    else wpMixT P ops E C Q tl (k + 1) rest (a.put o.dst undef) w)

theorem wpAnyT_lex {Q : Act → World → Prop} {n tl : Nat} (hch : Chain md ops E n) (htl : Tail md ops n tl) (hlast : tl + 1 = ops.size) (hs : Region.noSelect ops = true) :
    ∀ (l : List Oper) (k : Nat) (listed : Array Bool) (a : Act) (w : World), (∀ j, l[j]? = ops[k + j]?) → (∀ j, j < k → listed.getD j true = true) → Down md ops listed → C w →
      Region.lexFrom md ops l.length k listed = true → wpMixT P ops E C Q tl k l a w → wpAnyT P md ops E C Q tl l.length listed a w
  | [], _, _, _, _, _, _, _, _, hB, h => ⟨by simpa [Region.lexFrom] using hB, h⟩
  | o :: l, k, listed, a, w, hl, hbf, hdn, hw, hB, h => by
    have h0 : ops[k]? = some o := by simpa using (hl 0).symm
    have hklt : k < ops.size := (Array.getElem?_eq_some_iff.1 h0).1
    simp only [List.length_cons, Region.lexFrom, Bool.and_eq_true] at hB
    obtain ⟨⟨hr, hf⟩, hB'⟩ := hB
    have hr' : k ∈ Region.ready md ops listed := by simpa using hr
    have hbf' : ∀ j, j < k + 1 → (listed.setIfInBounds k true).getD j true = true := fun j hj => by
      by_cases hjk : k = j
      · subst hjk
        cases hg : (listed.setIfInBounds k true).getD k true with
        | true => rfl
        | false =>
          exfalso
          rcases Nat.lt_or_ge k listed.size with h1 | h1
          · simp [h1] at hg
          · simp [h1] at hg
      · rw [getD_set_ne true hjk]; exact hbf j (by omega)
    by_cases hkt : k = tl
    · have hnil : ∀ j, j ∈ Region.ready md ops (listed.setIfInBounds k true) → False := fun j hj => by
        obtain ⟨hun, oj, hoj, _⟩ := mem_ready.1 hj
        have := (Array.getElem?_eq_some_iff.1 hoj).1
        rw [hbf' j (by omega)] at hun
        cases hun
      have hnil' : Region.ready md ops (listed.setIfInBounds k true) = [] := List.eq_nil_iff_forall_not_mem.2 fun j hj => hnil j hj
      refine ⟨fun h1 => (by rw [h1] at hr'; cases hr'), fun i hi => ?_⟩
      have hik : i = k := by
        obtain ⟨hun, oi, hoi, _⟩ := mem_ready.1 hi
        have := (Array.getElem?_eq_some_iff.1 hoi).1
        rcases Nat.lt_or_ge i k with h1 | h1
        · rw [hbf i h1] at hun; cases hun
        · omega
      subst hik
      refine ⟨fun _ => ⟨hnil', ?_⟩, fun h1 => absurd hkt h1⟩
      unfold tOp
      rw [h0]
      unfold wpMixT at h
      exact h.1 hkt
    · have hm : mOp P ops E C k (wpMixT P ops E C Q tl (k + 1) l) a w := by
        unfold mOp
        rw [h0]
        unfold wpMixT at h
        have h := h.2 hkt
        dsimp only
        split
        · rename_i hwt
          simp only [hwt, if_true] at h
          split
          · rename_i hE; simp only [hE, if_true] at h; exact h
          · rename_i hE
            simp only [hE] at h
            obtain ⟨v, h1, h2⟩ := h
            exact ⟨v, fun w2 hw2 => h1 ⟨w2, hw2⟩, h2⟩
        · rename_i hwt
          simp only [hwt] at h
          exact h
      refine wpAnyT_first hch htl h0 hkt (Region.noSelect_spec hs) l.length listed a w hdn hw (Region.free_spec h0 hf) hr' ?_
      exact mOp_mono hw (fun a' w' hw' hK => wpAnyT_lex hch htl hlast hs l (k + 1) _ a' w' (fun j => by have := hl (j + 1); simpa [Nat.add_assoc, Nat.add_comm 1 j] using this) hbf' (hdn.ready hr') hw' hB' hK) hm

/-- the last one waits for all, as a test -/
def tailB (md : Region.Mode) (ops : Array Oper) (tl : Nat) : Bool := (List.range ops.size).all (fun i => i == tl || dep md ops ops.size tl i) && tl + 1 == ops.size
theorem tail_of {tl : Nat} (h : tailB md ops tl = true) : Tail md ops ops.size tl ∧ tl + 1 = ops.size := by
  unfold tailB at h
  rw [Bool.and_eq_true, List.all_eq_true, beq_iff_eq] at h
  refine ⟨fun i hi hne => ?_, h.2⟩
  have := h.1 i (List.mem_range.2 hi)
  simp only [Bool.or_eq_true, beq_iff_eq] at this
  exact this.resolve_left hne

/-- a region's rest, behind a box -/
structure MixT (P : Program) (ops : Array Oper) (E : Nat → Bool) (C : World → Prop) (Q : Act → World → Prop) (tl k : Nat) (rest : List Oper) (a : Act) (w : World) : Prop where
  out : wpMixT P ops E C Q tl k rest a w

theorem wp_region_mixT {id : Nat} {l : List Oper} {Es : List Nat} (tl : Nat) (C : World → Prop) {Q : Exit → Act → World → Prop} {a : Act} {w : World} (hm : P.follows .mixedOrders = true)
    (hB : (Region.lexB .any l.toArray && chainB .any l.toArray Es && tailB .any l.toArray tl) = true) (hC : C w.drew)
    (h : MixT P l.toArray (fun k => Es.contains k) C (fun a' w' => Q .normal a' w') tl 0 l a w.drew) : (Code.region id l.toArray true).wp P Q a w := by
  simp only [Region.lexB, Bool.and_eq_true] at hB
  obtain ⟨ht1, ht2⟩ := tail_of hB.2
  refine wp_region_any hm (wpAny_of_wpAnyT (Q := fun a' w' => Q .normal a' w') (C := C) (E := fun k => Es.contains k) (tl := tl) (fun _ _ h => h) _ _ _ _ hC ?_)
  have := wpAnyT_lex (P := P) (C := C) (Q := fun a' w' => Q .normal a' w') (md := .any) (chain_of hB.1.2) ht1 ht2 hB.1.1.1 l 0 (Array.replicate l.toArray.size false) a w.drew (by simp) (fun j hj => by omega) (Down.start _) hC (by simpa using hB.1.1.2) h.out
  simpa using this

section
variable {Es : List Nat} {Q : Act → World → Prop} {o : Oper} {rest : List Oper} {a : Act} {w : World} {k tl : Nat}

theorem mixT_nil (h : Q a w) : MixT P ops (fun k => Es.contains k) C Q tl k [] a w := ⟨h⟩

theorem mixT_step (hk : (Es.contains k || k == tl) = false) (h : ∀ K : Act → World → Prop, (∀ a w, MixT P ops (fun k => Es.contains k) C Q tl (k + 1) rest a w → K a w) →
      if Region.wanted o (yielded ops a.tmps) then ∃ v, (∀ w2 : Subtype C, (execOp a.eval o).run P w2.1 = .ok (.value v) w2.1) ∧ K (a.put o.dst v) w else K (a.put o.dst undef) w) :
    MixT P ops (fun k => Es.contains k) C Q tl k (o :: rest) a w := by
  have := h (fun a w => wpMixT P ops (fun k => Es.contains k) C Q tl (k + 1) rest a w) (fun _ _ h => h.out)
  rw [Bool.or_eq_false_iff] at hk
  have hkt : k ≠ tl := by simpa using hk.2
  refine ⟨?_⟩
  unfold wpMixT
  refine ⟨fun h => absurd h hkt, fun _ => ?_⟩
  simp only [hk.1]
  exact this

theorem mixT_eff (hk : (Es.contains k && !(k == tl)) = true) (h : ∀ K : Act → World → Prop, (∀ a w, C w → MixT P ops (fun k => Es.contains k) C Q tl (k + 1) rest a w → K a w) →
      if Region.wanted o (yielded ops a.tmps) then o.wp P a w K NoExit else K (a.put o.dst undef) w) :
    MixT P ops (fun k => Es.contains k) C Q tl k (o :: rest) a w := by
  have h1 := h (fun a' w' => C w' ∧ wpMixT P ops (fun k => Es.contains k) C Q tl (k + 1) rest a' w') (fun _ _ hc hh => ⟨hc, hh.out⟩)
  rw [Bool.and_eq_true] at hk
  have hkt : k ≠ tl := by simpa using hk.2
  refine ⟨?_⟩
  unfold wpMixT
  refine ⟨fun h => absurd h hkt, fun _ => ?_⟩
  simp only [hk.1, if_true]
  by_cases hw : Region.wanted o (yielded ops a.tmps) = true
  · simp only [hw, if_true] at h1 ⊢
    exact h1
  · simp only [hw] at h1 ⊢
    exact h1.2

theorem mixT_last (hk : (k == tl) = true) (h : ∀ K : Act → World → Prop, (∀ a w, Q a w → K a w) →
      if Region.wanted o (yielded ops a.tmps) then o.wp P a w K NoExit else K (a.put o.dst undef) w) :
    MixT P ops (fun k => Es.contains k) C Q tl k [o] a w := by
  have h1 := h Q (fun _ _ h => h)
  have hkt : k = tl := by simpa using hk
  refine ⟨?_⟩
  unfold wpMixT
  exact ⟨fun _ => h1, fun h => absurd hkt h⟩
end
end
end Go.Mix

/- A region whose order is left open and whose last operation waits for all others, in a round of a range over a function: walked once, in the order of the text. No conditions beside. -/
namespace Go.Mix
open Go
section
variable {P : Program} {ops : Array Oper} {md : Region.Mode} {E : Nat → Bool} {C : World → Prop}

theorem operIn_of_wp {l n : Nat} {o : Oper} {a : Act} {w : World} {K K' : Act → World → Prop} {Q : Exit → Act → World → Prop} (hd : ∀ c, o.op ≠ .defer c) (h : ∀ a w, K a w → K' a w)
    (hh : o.wp P a w K NoExit) : o.wpIn (Fence.wide.inRound l) n P a w K' Q := by
  refine ⟨fun _ _ => trivial, ?_⟩
  rw [show (Fence.wide.inRound l).round = some l from rfl, Oper.semAt_some l _ _ hd]
  unfold Oper.wp at hh
  generalize (execOp a.eval o).run P w = r at *
  cases r with
  | ok x w' =>
    cases x <;> simp only [Oper.upon] at hh
    case value v => exact h _ _ hh
    case skip => exact h _ _ hh
    case defer d => exact h _ _ hh
    case enter f args =>
      refine ⟨(fun hx => by cases hx), CallsIn.inRound l (callsIn_wide.2 (hh.mono fun e w'' he => ?_))⟩
      cases e with
      | returned v => exact h _ _ he
      | panicked c => exact he.elim
      | outgrown => exact (letsOut_noExit he).elim
    case row r args =>
      refine ⟨(fun hx => by cases hx), fun c cs _ => ?_⟩
      obtain ⟨v, w'', hr, hs⟩ := hh c cs
      exact ⟨v, w'', h _ _ hr, stepsIn_wide.2 hs⟩
  | halt x w' => cases x <;> simp only [Oper.upon] at hh <;> exact hh.elim

def noDeferB (ops : Array Oper) : Bool := ops.all fun o => match o.op with | .defer _ => false | _ => true
theorem noDefer_spec (h : noDeferB ops = true) {i : Nat} {o : Oper} (hi : ops[i]? = some o) : ∀ c, o.op ≠ .defer c := by
  intro c e
  obtain ⟨hlt, rfl⟩ := Array.getElem?_eq_some_iff.1 hi
  have := Array.all_eq_true.1 h i hlt
  rw [e] at this
  cases this

theorem wpOpIn_of_mOp {l n i : Nat} {a : Act} {w : World} {K K' : Act → World → Prop} {Q : Exit → Act → World → Prop} (hnd : noDeferB ops = true) (hw : C w) (h : ∀ a w, C w → K a w → K' a w)
    (hh : mOp P ops E C i K a w) : wpOpIn (Fence.wide.inRound l) n P ops Q i K' a w := by
  unfold mOp at hh
  unfold wpOpIn
  split
  · rename_i ho; simp only [ho] at hh; exact h _ _ hw hh
  · rename_i o ho
    simp only [ho] at hh
    split
    · rename_i hwt
      simp only [hwt, if_true] at hh
      split at hh
      · exact operIn_of_wp (noDefer_spec hnd ho) (fun a w hk => h _ _ hk.1 hk.2) hh
      · obtain ⟨v, h1, h2⟩ := hh
        refine operIn_of_wp (K := fun a' w' => C w' ∧ K a' w') (noDefer_spec hnd ho) (fun a w hk => h _ _ hk.1 hk.2) ?_
        unfold Oper.wp
        rw [h1 w hw]
        exact ⟨hw, h2⟩
    · rename_i hwt
      simp only [hwt] at hh
      exact ⟨fun _ _ => trivial, h _ _ hw hh⟩

theorem wpOpIn_of_tOp {l n i : Nat} {a : Act} {w : World} {K K' : Act → World → Prop} {Q : Exit → Act → World → Prop} (hnd : noDeferB ops = true) (h : ∀ a w, K a w → K' a w)
    (hh : tOp P ops i K a w) : wpOpIn (Fence.wide.inRound l) n P ops Q i K' a w := by
  unfold tOp at hh
  unfold wpOpIn
  split
  · rename_i ho; simp only [ho] at hh; exact h _ _ hh
  · rename_i o ho
    simp only [ho] at hh
    split
    · rename_i hwt
      simp only [hwt, if_true] at hh
      exact operIn_of_wp (noDefer_spec hnd ho) h hh
    · rename_i hwt
      simp only [hwt] at hh
      exact ⟨fun _ _ => trivial, h _ _ hh⟩

theorem wpAnyIn_end {F : Fence} {n : Nat} {Q : Exit → Act → World → Prop} {listed : Array Bool} (h : Region.ready md ops listed = []) (fuel : Nat) {a : Act} {w : World} (hq : Q .normal a w) : wpAnyIn F n P md ops Q fuel listed a w := by
  cases fuel with
  | zero => exact ⟨h, hq⟩
  | succ n => exact ⟨fun _ => hq, fun i hi => (by rw [h] at hi; cases hi)⟩

theorem wpAnyIn_of_wpAnyT {l n : Nat} {Q : Act → World → Prop} {Q' : Exit → Act → World → Prop} {tl : Nat} (hnd : noDeferB ops = true) (hQ : ∀ a w, Q a w → Q' .normal a w) :
    ∀ (fuel : Nat) (listed : Array Bool) (a : Act) (w : World), C w → wpAnyT P md ops E C Q tl fuel listed a w → wpAnyIn (Fence.wide.inRound l) n P md ops Q' fuel listed a w
  | 0, _, _, _, _, h => ⟨h.1, hQ _ _ h.2⟩
  | fuel + 1, listed, a, w, hw, h => ⟨fun h0 => hQ _ _ (h.1 h0), fun i hi => by
      by_cases hit : i = tl
      · obtain ⟨h1, h2⟩ := (h.2 i hi).1 hit
        exact wpOpIn_of_tOp hnd (fun a' w' hq => wpAnyIn_end h1 fuel (hQ _ _ hq)) h2
      · exact wpOpIn_of_mOp hnd hw (fun a' w' hw' => wpAnyIn_of_wpAnyT hnd hQ fuel _ a' w' hw') ((h.2 i hi).2 hit)⟩

theorem wpIn_region_mixT {ro n : Nat} {id : Nat} {l : List Oper} {Es : List Nat} (tl : Nat) (C : World → Prop) {Q : Exit → Act → World → Prop} {a : Act} {w : World} (hm : P.follows .mixedOrders = true)
    (hB : (Region.lexB .any l.toArray && chainB .any l.toArray Es && tailB .any l.toArray tl && noDeferB l.toArray) = true) (hC : C w.drew)
    (h : MixT P l.toArray (fun k => Es.contains k) C (fun a' w' => Q .normal a' w') tl 0 l a w.drew) : (Code.region id l.toArray true).wpIn (Fence.wide.inRound ro) n P Q a w := by
  simp only [Region.lexB, Bool.and_eq_true] at hB
  obtain ⟨ht1, ht2⟩ := tail_of hB.1.2
  refine wpIn_region_any hm (wpAnyIn_of_wpAnyT (Q := fun a' w' => Q .normal a' w') (C := C) (E := fun k => Es.contains k) (tl := tl) hB.2 (fun _ _ h => h) _ _ _ _ hC ?_)
  have := wpAnyT_lex (P := P) (C := C) (Q := fun a' w' => Q .normal a' w') (md := .any) (chain_of hB.1.1.2) ht1 ht2 hB.1.1.1.1 l 0 (Array.replicate l.toArray.size false) a w.drew (by simp) (fun j hj => by omega) (Down.start _) hC (by simpa using hB.1.1.1.2) h.out
  simpa using this
end
end Go.Mix

/- Plain law of records: where names stand in data, what data may be, data with its names folded, and when two records are the same. Lists and numbers alone; no program in sight. -/
namespace Go.Rc
open Go.Nm (Bytes)

/-! ### a name that a text begins with -/
theorem lead_take {s : Bytes} {n : Nat} (h : Nm.lead s = some n) : Nm.valid (s.take n) = true := by
  unfold Nm.lead at h
  cases hu : Nm.unwire s with
  | none => rw [hu] at h; cases h
  | some p =>
    obtain ⟨ls, t⟩ := p
    rw [hu] at h
    simp only at h
    split at h
    · simp only [Option.some.injEq] at h
      obtain ⟨h1, h2⟩ := Nm.unwire_eq.1 hu
      rw [h1, ← h, List.take_left]
      exact Nm.valid_wire h2 (by assumption)
    · cases h
theorem take_lead {s : Bytes} {m : Nat} (hm : m ≤ s.length) (h : Nm.valid (s.take m) = true) : Nm.lead s = some m := by
  obtain ⟨h1, h2, h3⟩ := Nm.labs_valid h
  have hl : (s.take m).length = m := by rw [List.length_take]; omega
  have e : s = Nm.wire (Nm.labs (s.take m)) ++ s.drop m := by
    rw [← h1, List.take_append_drop]
  have hu : Nm.unwire s = some (Nm.labs (s.take m), s.drop m) := Nm.unwire_eq.2 ⟨e, h2⟩
  unfold Nm.lead
  rw [hu]
  simp only
  rw [← h1, if_pos h3, hl]

/-! ### data's shape -/
def shape (t : Int) : Option (Nat × Nat × Nat) :=
  if t = 2 ∨ t = 5 ∨ t = 12 then some (0, 1, 0) else if t = 15 then some (2, 1, 0) else if t = 33 then some (6, 1, 0) else if t = 6 then some (0, 2, 20) else none

/-- so many names, one behind the other -/
def names (d : Bytes) (a : Nat) : Nat → Option (List (Nat × Nat) × Nat)
  | 0 => some ([], a)
  | m + 1 => match names d a m with
    | none => none
    | some (l, at_) => match Nm.lead (d.drop at_) with
      | none => none
      | some n => some (l ++ [(at_, n)], at_ + n)
theorem names_succ {d : Bytes} {a m : Nat} {l : List (Nat × Nat)} {e : Nat} (h : names d a m = some (l, e)) :
    names d a (m + 1) = match Nm.lead (d.drop e) with | none => none | some n => some (l ++ [(e, n)], e + n) := by
  show (match names d a m with | none => none | some (l, at_) => _) = _
  rw [h]
theorem names_none {d : Bytes} {a m k : Nat} (h : names d a m = none) (hk : m ≤ k) : names d a k = none := by
  induction k with
  | zero => obtain rfl : m = 0 := by omega
            exact h
  | succ k ih =>
    rcases Nat.lt_or_ge m (k + 1) with h1 | h1
    · show (match names d a k with | none => none | some (l, at_) => _) = _
      rw [ih (by omega)]
    · obtain rfl : m = k + 1 := by omega
      exact h

/-- places one behind the other, within data -/
def Chain (d : Bytes) : Nat → List (Nat × Nat) → Prop
  | f, [] => f ≤ d.length
  | f, (a, n) :: l => f ≤ a ∧ a + n ≤ d.length ∧ n ≤ 255 ∧ Chain d (a + n) l
theorem chain_snoc {d : Bytes} : ∀ (l : List (Nat × Nat)) (f e n : Nat), Chain d f l → (∀ p ∈ l.getLast?, p.1 + p.2 ≤ e) → f ≤ e → e + n ≤ d.length → n ≤ 255 → Chain d f (l ++ [(e, n)])
  | [], f, e, n, _, _, hf, h1, h2 => ⟨hf, h1, h2, h1⟩
  | (a, m) :: l, f, e, n, h, hl, hf, h1, h2 => by
    obtain ⟨c1, c2, c3, c4⟩ := h
    refine ⟨c1, c2, c3, chain_snoc l (a + m) e n c4 ?_ ?_ h1 h2⟩
    · intro p hp
      cases l with
      | nil => cases hp
      | cons q l => exact hl p (by simpa [List.getLast?_cons_cons] using hp)
    · cases l with
      | nil => exact hl (a, m) (by simp)
      | cons q l =>
        have hlast : ∃ p, (q :: l).getLast? = some p := by cases hg : (q :: l).getLast? with | none => simp at hg | some p => exact ⟨p, rfl⟩
        obtain ⟨p, hp⟩ := hlast
        have h3 := hl p (by simpa [List.getLast?_cons_cons] using hp)
        have key : ∀ (l : List (Nat × Nat)) (f : Nat), Chain d f l → ∀ p ∈ l, f ≤ p.1 := by
          intro l
          induction l with
          | nil => intro f _ p hp; cases hp
          | cons x l ih =>
            intro f hc p hp
            obtain ⟨x1, x2⟩ := x
            obtain ⟨k1, k2, _, k3⟩ := hc
            rcases List.mem_cons.1 hp with rfl | hp
            · exact k1
            · have := ih _ k3 p hp; omega
        have := key _ _ c4 p (List.mem_of_getLast? hp)
        omega
theorem names_chain {d : Bytes} {a : Nat} (ha : a ≤ d.length) : ∀ (m : Nat) (l : List (Nat × Nat)) (e : Nat), names d a m = some (l, e) →
    l.length = m ∧ a ≤ e ∧ e ≤ d.length ∧ Chain d a l ∧ (∀ p ∈ l.getLast?, p.1 + p.2 = e)
  | 0, l, e, h => by
    simp only [names, Option.some.injEq, Prod.mk.injEq] at h
    obtain ⟨rfl, rfl⟩ := h
    exact ⟨rfl, Nat.le_refl _, ha, ha, fun p hp => by cases hp⟩
  | m + 1, l, e, h => by
    cases hn : names d a m with
    | none => rw [names_none hn (Nat.le_succ m)] at h; cases h
    | some p =>
      obtain ⟨l0, e0⟩ := p
      obtain ⟨i1, i2, i3, i4, i5⟩ := names_chain ha m l0 e0 hn
      rw [names_succ hn] at h
      cases hq : Nm.lead (d.drop e0) with
      | none => rw [hq] at h; cases h
      | some n =>
        rw [hq] at h
        simp only [Option.some.injEq, Prod.mk.injEq] at h
        obtain ⟨rfl, rfl⟩ := h
        obtain ⟨q1, q2, q3⟩ := Nm.lead_le hq
        rw [List.length_drop] at q3
        refine ⟨by simp [i1], by omega, by omega, chain_snoc l0 a e0 n i4 (fun p hp => Nat.le_of_eq (i5 p hp)) i2 (by omega) q2, fun p hp => ?_⟩
        simp at hp
        subst hp
        rfl
theorem chain_mem {d : Bytes} : ∀ (l : List (Nat × Nat)) (f : Nat), Chain d f l → ∀ p ∈ l, f ≤ p.1 ∧ p.1 + p.2 ≤ d.length ∧ p.2 ≤ 255
  | [], _, _, p, hp => by cases hp
  | (a, n) :: l, f, h, p, hp => by
    obtain ⟨h1, h2, h4, h3⟩ := h
    rcases List.mem_cons.1 hp with rfl | hp
    · exact ⟨h1, h2, h4⟩
    · have := chain_mem l _ h3 p hp
      exact ⟨by omega, this.2⟩

/-- where names stand; false: the data may not be -/
def placesP (t : Int) (d : Bytes) : List (Nat × Nat) × Bool :=
  match shape t with
  | none => ([], true)
  | some (a, m, b) => if d.length < a then ([], false) else match names d a m with
    | none => ([], false)
    | some (l, e) => (l, decide (d.length - e = b))

/-! ### texts -/
def textsT : Nat → Bytes → Bool
  | _, [] => true
  | 0, _ :: _ => false
  | n + 1, c :: r => if r.length < c.toNat then false else textsT n (r.drop c.toNat)
def textsF (d : Bytes) : Bool := textsT d.length d
def textsB (d : Bytes) : Bool := !d.isEmpty && textsF d
theorem textsT_more : ∀ (n m : Nat) (d : Bytes), d.length ≤ n → d.length ≤ m → textsT n d = textsT m d
  | n, m, [], _, _ => by cases n <;> cases m <;> rfl
  | 0, _, _ :: _, h, _ => by simp at h
  | _, 0, _ :: _, _, h => by simp at h
  | n + 1, m + 1, c :: r, h1, h2 => by
    simp only [List.length_cons] at h1 h2
    simp only [textsT]
    split
    · rfl
    · exact textsT_more n m _ (by rw [List.length_drop]; omega) (by rw [List.length_drop]; omega)
theorem textsF_nil : textsF [] = true := rfl
theorem textsF_cons (c : UInt8) (r : Bytes) : textsF (c :: r) = if r.length < c.toNat then false else textsF (r.drop c.toNat) := by
  unfold textsF
  simp only [List.length_cons, textsT]
  split
  · rfl
  · exact textsT_more _ _ _ (by rw [List.length_drop]; omega) (Nat.le_refl _)

/-! ### what data may be -/
def dataB (t : Int) (d : Bytes) : Bool :=
  if 1000 < d.length then false else if t = 1 then decide (d.length = 4) else if t = 28 then decide (d.length = 16) else if t = 16 then textsB d else (placesP t d).2
def partsN (t : Int) (d : Bytes) : Option (List (Nat × Nat)) := if dataB t d then some (placesP t d).1 else none
theorem partsN_some {t : Int} {d : Bytes} (h : dataB t d = true) : partsN t d = some (placesP t d).1 := by unfold partsN; rw [if_pos h]
theorem partsN_none {t : Int} {d : Bytes} (h : dataB t d = false) : partsN t d = none := by unfold partsN; rw [h]; rfl
theorem partsN_isSome (t : Int) (d : Bytes) : (partsN t d).isSome = dataB t d := by
  cases h : dataB t d with
  | true => rw [partsN_some h]; rfl
  | false => rw [partsN_none h]; rfl
theorem placesP_chain (t : Int) (d : Bytes) : Chain d 0 (placesP t d).1 ∧ (placesP t d).1.length ≤ 2 := by
  unfold placesP
  split
  · exact ⟨Nat.zero_le _, by simp⟩
  · rename_i a m b hs
    split
    · exact ⟨Nat.zero_le _, by simp⟩
    · split
      · exact ⟨Nat.zero_le _, by simp⟩
      · rename_i l e hn
        obtain ⟨h1, _, _, h2, _⟩ := names_chain (by omega) m l e hn
        have hm : m ≤ 2 := by
          unfold shape at hs
          repeat' split at hs
          all_goals first | (simp only [Option.some.injEq, Prod.mk.injEq] at hs; omega) | cases hs
        refine ⟨?_, by simp only; omega⟩
        show Chain d 0 l
        cases l with
        | nil => exact Nat.zero_le _
        | cons q l => obtain ⟨q1, q2⟩ := q; exact ⟨Nat.zero_le _, h2.2⟩
theorem partsN_chain {t : Int} {d : Bytes} {l : List (Nat × Nat)} (h : partsN t d = some l) : Chain d 0 l ∧ l.length ≤ 2 := by
  unfold partsN at h
  split at h
  · simp only [Option.some.injEq] at h
    rw [← h]
    exact placesP_chain t d
  · cases h

/-! ### data with its names folded -/
def foldStep (x : Bytes) (p : Nat × Nat) : Bytes := x.take p.1 ++ Nm.foldN ((x.drop p.1).take p.2) ++ x.drop (p.1 + p.2)
def foldAt (d : Bytes) (l : List (Nat × Nat)) : Bytes := l.foldl foldStep d
def foldD (t : Int) (d : Bytes) : Bytes := match partsN t d with | none => d | some l => foldAt d l
/-- the same, piece by piece -/
def runStep (d : Bytes) (s : Bytes × Nat) (p : Nat × Nat) : Bytes × Nat := (s.1 ++ ((d.drop s.2).take (p.1 - s.2) ++ Nm.foldN ((d.drop p.1).take p.2)), p.1 + p.2)
def runF (d : Bytes) (l : List (Nat × Nat)) : Bytes × Nat := l.foldl (runStep d) ([], 0)
theorem runF_snoc (d : Bytes) (l : List (Nat × Nat)) (p : Nat × Nat) : runF d (l ++ [p]) = runStep d (runF d l) p := by simp [runF]
theorem foldAt_snoc (d : Bytes) (l : List (Nat × Nat)) (p : Nat × Nat) : foldAt d (l ++ [p]) = foldStep (foldAt d l) p := by simp [foldAt]
theorem foldStep_length {x : Bytes} {p : Nat × Nat} (h : p.1 + p.2 ≤ x.length) : (foldStep x p).length = x.length := by
  unfold foldStep
  simp only [List.length_append, List.length_take, List.length_drop, Nm.foldN_length]
  omega
theorem run_fold {d : Bytes} : ∀ (l : List (Nat × Nat)) (s : Bytes × Nat), s.1.length = s.2 → s.2 ≤ d.length → Chain d s.2 l →
    l.foldl foldStep (s.1 ++ d.drop s.2) = (l.foldl (runStep d) s).1 ++ d.drop (l.foldl (runStep d) s).2 ∧ (l.foldl (runStep d) s).1.length = (l.foldl (runStep d) s).2 ∧ (l.foldl (runStep d) s).2 ≤ d.length
  | [], s, h1, h2, _ => ⟨rfl, h1, h2⟩
  | (a, n) :: l, s, h1, h2, hc => by
    obtain ⟨c1, c2, _, c3⟩ := hc
    have e : foldStep (s.1 ++ d.drop s.2) (a, n) = (runStep d s (a, n)).1 ++ d.drop (runStep d s (a, n)).2 := by
      obtain ⟨o, f⟩ := s
      simp only at h1 h2 c1
      unfold foldStep runStep
      simp only
      have e1 : (o ++ d.drop f).take a = o ++ (d.drop f).take (a - f) := by
        rw [List.take_append, h1, List.take_of_length_le (by omega)]
      have e2 : (o ++ d.drop f).drop a = d.drop a := by
        rw [List.drop_append, h1, List.drop_of_length_le (by omega), List.nil_append, List.drop_drop]
        congr 1; omega
      have e3 : (o ++ d.drop f).drop (a + n) = d.drop (a + n) := by
        rw [List.drop_append, h1, List.drop_of_length_le (by omega), List.nil_append, List.drop_drop]
        congr 1; omega
      rw [e1, e2, e3]
      simp [List.append_assoc]
    have hl : (runStep d s (a, n)).1.length = (runStep d s (a, n)).2 := by
      obtain ⟨o, f⟩ := s
      simp only at h1 h2 c1
      unfold runStep
      simp only [List.length_append, List.length_take, List.length_drop, Nm.foldN_length]
      omega
    have := run_fold l (runStep d s (a, n)) hl c2 c3
    simp only [List.foldl_cons]
    rw [e]
    exact this
theorem runF_fold {d : Bytes} {l : List (Nat × Nat)} (h : Chain d 0 l) : foldAt d l = (runF d l).1 ++ d.drop (runF d l).2 ∧ (runF d l).1.length = (runF d l).2 ∧ (runF d l).2 ≤ d.length := by
  have := run_fold l ([], 0) rfl (Nat.zero_le _) h
  simpa [runF, foldAt] using this
theorem chain_prefix {d : Bytes} : ∀ (l m : List (Nat × Nat)) (f : Nat), Chain d f (l ++ m) → Chain d f l
  | [], m, f, h => by
    cases m with
    | nil => exact h
    | cons q m => obtain ⟨q1, q2⟩ := q; obtain ⟨h1, h2, _, _⟩ := h; show f ≤ d.length; omega
  | (a, n) :: l, m, f, h => by
    obtain ⟨h1, h2, h4, h3⟩ := h
    exact ⟨h1, h2, h4, chain_prefix l m _ h3⟩
theorem chain_next {d : Bytes} : ∀ (l : List (Nat × Nat)) (p : Nat × Nat) (f : Nat) (s : Bytes × Nat), s.2 = f → Chain d f (l ++ [p]) → (l.foldl (runStep d) s).2 ≤ p.1 ∧ p.1 + p.2 ≤ d.length ∧ p.2 ≤ 255
  | [], (a, n), f, s, hs, h => by
    obtain ⟨h1, h2, h4, h3⟩ := h
    exact ⟨by simp only [List.foldl_nil]; omega, h2, h4⟩
  | (a, n) :: l, p, f, s, hs, h => by
    obtain ⟨h1, h2, h4, h3⟩ := h
    exact chain_next l p (a + n) (runStep d s (a, n)) rfl h3
theorem runF_next {d : Bytes} {l : List (Nat × Nat)} {p : Nat × Nat} (h : Chain d 0 (l ++ [p])) : (runF d l).2 ≤ p.1 ∧ p.1 + p.2 ≤ d.length ∧ p.2 ≤ 255 := chain_next l p 0 ([], 0) rfl h
theorem foldAt_length {d : Bytes} {l : List (Nat × Nat)} (h : Chain d 0 l) : (foldAt d l).length = d.length := by
  obtain ⟨h1, h2, h3⟩ := runF_fold h
  rw [h1, List.length_append, List.length_drop]
  omega
theorem foldD_length (t : Int) (d : Bytes) : (foldD t d).length = d.length := by
  unfold foldD
  cases h : partsN t d with
  | none => rfl
  | some l => exact foldAt_length (partsN_chain h).1

/-! ### records -/
structure RR where
  name : Bytes
  ty : Int
  cl : Int
  ttl : Int
  data : Bytes
deriving DecidableEq

def sameRR (a b : RR) : Bool := (Nm.foldN a.name == Nm.foldN b.name) && (a.ty == b.ty) && (a.cl == b.cl) && (foldD a.ty a.data == foldD b.ty b.data)
theorem same_refl (a : RR) : sameRR a a = true := by simp [sameRR]
theorem same_symm {a b : RR} : sameRR a b = sameRR b a := by
  unfold sameRR
  rw [Bool.eq_iff_iff]
  simp only [Bool.and_eq_true, beq_iff_eq]
  constructor <;> (rintro ⟨⟨⟨h1, h2⟩, h3⟩, h4⟩; exact ⟨⟨⟨h1.symm, h2.symm⟩, h3.symm⟩, h4.symm⟩)
theorem same_trans {a b c : RR} (h : sameRR a b = true) (h' : sameRR b c = true) : sameRR a c = true := by
  unfold sameRR at *
  simp only [Bool.and_eq_true, beq_iff_eq] at *
  obtain ⟨⟨⟨h1, h2⟩, h3⟩, h4⟩ := h
  obtain ⟨⟨⟨k1, k2⟩, k3⟩, k4⟩ := h'
  exact ⟨⟨⟨h1.trans k1, h2.trans k2⟩, h3.trans k3⟩, h4.trans k4⟩
end Go.Rc

/- For ranges over functions: what the body of a round keeps for the iterator: the blocks of a span. -/
namespace Go.Proofs.YtgbmclgnbbhcbaaGreat
open Go.RowKit

/-- the blocks from lo to hi lie as they lay -/
def Kr (lo hi : Nat) (W W' : World) : Prop := ∀ k, lo ≤ k → k < hi → W'.heap[k]? = W.heap[k]?
theorem Kr.refl (lo hi : Nat) (W : World) : Kr lo hi W W := fun _ _ _ => rfl
theorem Kr.trans {lo hi : Nat} {A B C : World} (h : Kr lo hi A B) (k : Kr lo hi B C) : Kr lo hi A C := fun j h1 h2 => (k j h1 h2).trans (h j h1 h2)
theorem Kr.put {lo hi : Nat} {w : World} (hn : hi ≤ w.heap.size) (W : World) (l : Nat) (o o' : Obj) (hl : w.heap.size ≤ l) (_ : W.heap[l]? = some o) (_ : o.isCells = false) (_ : o.isWalk = false) : Kr lo hi W (W.putObj l o') :=
  fun k _ h2 => World.putObj_heap_other (fun e => by omega)
theorem Kr.cell {lo hi : Nat} {A B : World} (h : Kr lo hi A B) {p : Addr} (h1 : lo ≤ p.block) (h2 : p.block < hi) (hp : p.spot = none) : B.cell? p = A.cell? p := by
  obtain ⟨b, o, _⟩ := p
  subst hp
  simp only [World.cell?, h b h1 h2]
theorem Kr.of_below {lo hi B : Nat} {A C : World} (h : Below B A C) (hB : hi ≤ B) : Kr lo hi A C := fun k _ h2 => h.block k (by omega)
theorem Kr.alloc {lo hi : Nat} {A C : World} (h : Kr lo hi A C) (o : Obj) (hs : hi ≤ C.heap.size) : Kr lo hi A (C.alloc o) := fun k h1 h2 => by
  exact (Below.heap_alloc _ _ _ (by omega)).trans (h k h1 h2)
theorem Kr.grown {lo hi : Nat} {A C D : World} {row : Option Nat} (h : Kr lo hi A C) (hg : C.grownBy D row) (hs : hi ≤ C.heap.size) (hr : ∀ k, row = some k → hi ≤ k) : Kr lo hi A D := fun k h1 h2 => by
  rw [hg.block k (by omega) (fun e => by have := hr k e.symm; omega)]; exact h k h1 h2
theorem Kr.set {lo hi : Nat} {A C : World} (h : Kr lo hi A C) {p : Addr} (hp : p.block < lo ∨ hi ≤ p.block) (v : Value) : Kr lo hi A (C.setCell p v) := fun k h1 h2 => by
  rw [Below.heap_setCell _ _ _ _ (by omega)]; exact h k h1 h2
theorem owns_base {w : World} {lo hi e sz n : Nat} {v : Value} {xs : List Value} (h : w.ownsRow hi e sz v n xs) (hl : lo ≤ hi) : w.ownsRow lo e sz v n xs := by
  refine ⟨h.1, ?_⟩
  rcases h.2 with hn | ⟨g, cap, cur, rfl, hb, r⟩
  · exact .inl hn
  · exact .inr ⟨g, cap, cur, rfl, Nat.le_trans hl hb, r⟩

/-- 'out = append(out, ..)' of a variable in a box B; its row lies beyond the span that the iterator reads -/
theorem boxed_app {W w1 : World} {n₀ lo hi B : Nat} {t e : TypeId} {size : Nat} {v v' : Value} {k m : Nat} {xs ys : List Value} {tmp : Obj}
    (hv : Boxed W B t v) (hte : t ≠ e) (hrow : W.ownsRow hi e size v k xs) (hhi : hi ≤ W.heap.size) (hlo : n₀ ≤ hi) (hB : n₀ ≤ B) (hBl : B < lo)
    (hown' : w1.ownsRow hi e size v' m ys) (hgrow : (W.alloc tmp).grownBy w1 v.ownBlock) :
    Boxed w1 B t v ∧ Boxed (w1.setCell ⟨B, 0, none⟩ v') B t v' ∧ (w1.setCell ⟨B, 0, none⟩ v').ownsRow hi e size v' m ys ∧ KeepsOthers W (w1.setCell ⟨B, 0, none⟩ v') ∧ Below n₀ W (w1.setCell ⟨B, 0, none⟩ v') ∧ Kr lo hi W (w1.setCell ⟨B, 0, none⟩ v') := by
  have hrow0 := owns_base hrow hlo
  obtain ⟨h1, h2, _, h4, h5⟩ := hv.appended hte hrow0 (Nat.le_trans hlo hhi) hB (owns_base hown' hlo) hgrow
  refine ⟨h1, h2, hown'.kept (grownBy_setCell' w1 B v') (.inr (h1.not_row hte hown').symm), h4, h5, ?_⟩
  refine ((((Kr.refl lo hi W).alloc tmp hhi).grown hgrow (by simp; omega) fun j ej => ?_).set (p := ⟨B, 0, none⟩) (.inl hBl) v')
  rcases hrow.2 with ⟨rfl, _⟩ | ⟨g, cap, cur, rfl, hb, _, _⟩
  · simp [Value.ownBlock] at ej
  · obtain rfl : g = j := by simpa [Value.ownBlock] using ej
    exact hb
theorem boxed_app_other {W w1 : World} {B B2 hi : Nat} {t2 e : TypeId} {size : Nat} {v v' u : Value} {k : Nat} {xs : List Value} {tmp : Obj}
    (hu : Boxed W B2 t2 u) (ht2 : t2 ≠ e) (hne : B2 ≠ B) (hrow : W.ownsRow hi e size v k xs) (hgrow : (W.alloc tmp).grownBy w1 v.ownBlock) : Boxed (w1.setCell ⟨B, 0, none⟩ v') B2 t2 u :=
  ((hu.alloc tmp).kept hgrow (hu.not_row ht2 hrow)).kept (grownBy_setCell' w1 B v') (by simpa using hne)
end Go.Proofs.YtgbmclgnbbhcbaaGreat

/- A range over a function whose rounds come in a known way: the caller owes a round only for what may come next. No conditions beside. -/
namespace Go.Sq
open Go Go.RowKit

/-- an iterator's contract: 'Ok xs': xs may come so; a round is asked only where that holds with the new one -/
def SeqOk {α : Type} (F : Fence) (n : Nat) (P : Program) (g : Nat) (lb : Array Value) (encs : α → Array Value) (Kp : World → World → Prop) (Ok S Sp : List α → Prop) (w : World) : Prop :=
  ∀ (l : Nat) (J Jx : List α → World → Prop) (W : World), Below w.heap.size w W → AbidesFrom W.heap.size J → AbidesFrom W.heap.size Jx →
    (∀ pre x W1, J pre W1 → Ok (pre ++ [x]) → YieldAt F (n - 1) P l (encs x) W1 fun e W' =>
      (e = .returned (.bool true) ∧ J (pre ++ [x]) W' ∧ Kp W1 W') ∨ (e = .returned (.bool false) ∧ Jx (pre ++ [x]) W')) →
    J [] W →
    CallsIn F n P g (#[.func (.yield l) #[] #[]] ++ lb) W fun e W' => (∃ v, e = .returned v) ∧ ((∃ xs, S xs ∧ J xs W') ∨ (∃ pre, Sp pre ∧ Jx pre W'))

/-- the loop's two blocks of book-keeping -/
structure Held (B : Nat) (r : Loop) (W : World) : Prop where
  loop : W.heap[B + 1]? = some (.loop r)
  calls : W.heap[B]? = some (.deferred (some []))

theorem Held.lt {B : Nat} {r : Loop} {W : World} (h : Held B r W) : B + 1 < W.heap.size := (Array.getElem?_eq_some_iff.1 h.loop).1
theorem Held.walks {B : Nat} {r : Loop} {W W' : World} {row : Option Nat} (h : Held B r W) (hg : W.grownBy W' row) (hr : ∀ k, row = some k → ∃ o : Obj, W.heap[k]? = some o ∧ o.isWalk = true) : Held B r W' :=
  ⟨(grownBy_keeps hg hr h.loop rfl).trans h.loop, (grownBy_keeps hg hr h.calls rfl).trans h.calls⟩
theorem Held.from {B : Nat} {r : Loop} {W W' : World} (h : Held B r W) (hk : KeepsFrom B W W') : Held B r W' := ⟨hk.same _ _ (by omega) h.loop rfl, hk.same _ _ (Nat.le_refl _) h.calls rfl⟩
theorem Held.put {B : Nat} {r : Loop} {W : World} (h : Held B r W) (r' : Loop) : Held B r' (W.putObj (B + 1) (.loop r')) :=
  ⟨World.putObj_heap_same h.lt, (World.putObj_heap_other (by omega)).trans h.calls⟩

variable {F : Fence} {n : Nat} {P : Program}

theorem wpIn_rangeFunc_ok {α : Type} {g : Operand} {ps : Array Tmp} {assign body : Code} {Q : Exit → Act → World → Prop} {a : Act} {w : World}
    (hro : F.round = none) (h1 : 1 ≤ n) {gf : Nat} {lb : Array Value} (hg : a.eval g = .func (.func gf) #[] lb) (hFg : F.fn gf) (eg : ∀ args w, (callFunc gf args).run P w = .ok (.enter gf args) w)
    {encs : α → Array Value} {Kp : World → World → Prop} {Ok S Sp : List α → Prop} {w0 : World} (hseq : SeqOk F (n - 1) P gf lb encs Kp Ok S Sp w0)
    (hKt : ∀ {A B C : World}, Kp A B → Kp B C → Kp A C) (hKb : ∀ (W : World) (l : Nat) (o o' : Obj), w.heap.size ≤ l → W.heap[l]? = some o → o.isCells = false → o.isWalk = false → Kp W (W.putObj l o')) (hb0 : Below w0.heap.size w0 w) (hps : ∀ x, (encs x).size = ps.size)
    (I : List α → World → Prop) (Ix : Code → List α → World → Prop) (hI : OwnFrom w.heap.size I) (hIx : ∀ c, OwnFrom w.heap.size (Ix c)) (h0 : I [] w) (Ax : α → Act → World → Prop) (hAx : ∀ x a', OwnFrom w.heap.size (fun (_ : Unit) W => Ax x a' W))
    (hassign : ∀ (l : Nat) (pre : List α) (x : α) (W : World) (K : Act → World → Prop), I pre W → Ok (pre ++ [x]) → (∀ a' W', KeepsFrom w.heap.size W W' → Kp W W' → I pre W' → Ax x a' W' → K a' W') →
      assign.wpIn (F.inRound l) (n - 1 - 1) P (Exit.then K (fun _ _ _ => False)) { tmps := (ps.zip (encs x)).foldl (fun t (p, v) => t.setIfInBounds p v) a.tmps, defers := [] } W)
    (hbody : ∀ (l : Nat) (pre : List α) (x : α) (a' : Act) (W : World), I pre W → Ok (pre ++ [x]) → Ax x a' W → body.wpIn (F.inRound l) (n - 1 - 1) P (ownPostG w.heap.size Kp I Ix (pre ++ [x]) W) a' W)
    (hdone : ∀ (D : Nat) (xs : List α) (W : World), w.heap.size ≤ D → S xs → I xs W → W.heap[D]? = some (.deferred (some [])) → Q .normal { a with defers := { target := .collected D, args := #[] } :: a.defers } W)
    (hstop : ∀ (D : Nat) (c : Code) (pre : List α) (W : World), w.heap.size ≤ D → Sp pre → Ix c pre W → W.heap[D]? = some (.deferred (some [])) → c.wpIn F n P Q { a with defers := { target := .collected D, args := #[] } :: a.defers } W) :
    (Code.rangeFunc g ps assign body).wpIn F n P Q a w := by
  refine wpIn_rangeFunc fun fn hfn => ?_
  rw [hro]
  obtain ⟨rc, hrc⟩ : ∃ rc : LoopState → Option Code → Loop, rc = fun st pe => { state := st, pending := pe, fn, tmps := a.tmps, params := ps, assign, body, defers := w.heap.size } := ⟨_, rfl⟩
  obtain ⟨V, hV⟩ : ∃ V, (w.alloc (.deferred (some []))).alloc (.loop (rc .ready none)) = V := ⟨_, rfl⟩
  have hVs : V.heap.size = w.heap.size + 2 := by rw [← hV]; simp
  have hheld : Held w.heap.size (rc .ready none) V := by
    rw [← hV]
    refine ⟨?_, (Below.heap_alloc _ _ _ (by simp)).trans (World.alloc_heap_new w _)⟩
    have := World.alloc_heap_new (w.alloc (.deferred (some []))) (.loop (rc .ready none))
    rwa [World.size_alloc] at this
  have hIV : I [] V := by rw [← hV]; exact hI.alloc _ (hI.alloc _ h0)
  have hbV : Below w0.heap.size w0 V := by rw [← hV]; exact hb0.trans ((((Below.refl _ w).alloc (Nat.le_refl _) _).alloc (by simp) _).mono hb0.size)
  refine ⟨w.heap.size + 1, [{ target := .collected w.heap.size, args := #[] }], V, { target := .fn (.func gf) lb, args := #[.func (.yield (w.heap.size + 1)) #[] #[]] }, V, gf,
    #[.func (.yield (w.heap.size + 1)) #[] #[]] ++ lb, V, ?_, ?_, ?_, ?_, fun _ => h1, ?_⟩
  · rw [← hV, hrc]; exact run_enterLoop_outer _ _ _ _ _
  · simp only [resolve, hg]
    simp [go_sem]
  · intro f' hf'; simp [Target.leads] at hf'; subst hf'; exact hFg
  · simp [invoke, go_sem, eg]
  have other : ∀ {A : World} {row : Option Nat}, (∀ r, row = some r → V.heap.size ≤ r ∧ ∃ o : Obj, A.heap[r]? = some o ∧ o.isWalk = true) → ∀ r, row = some r → w.heap.size ≤ r ∧ ∃ o : Obj, A.heap[r]? = some o ∧ o.isCells = false := fun hr r e => by
    obtain ⟨hB, o, ho, hw⟩ := hr r e
    exact ⟨by omega, o, ho, Obj.not_cells_of_walk hw⟩
  refine (hseq (w.heap.size + 1) (fun pre W => I pre W ∧ Held w.heap.size (rc .ready none) W) (fun pre W => ∃ c, Ix c pre W ∧ Held w.heap.size (rc .done (some c)) W) V hbV
    (fun s A B row hs hg' hr => ⟨hI s A B row hs.1 hg' (other hr), hs.2.walks hg' (fun r e => (hr r e).2)⟩)
    (fun s A B row hs hg' hr => by
      obtain ⟨c, hc, hh⟩ := hs
      exact ⟨c, hIx c s A B row hc hg' (other hr), hh.walks hg' (fun r e => (hr r e).2)⟩)
    ?_ ⟨hIV, hheld⟩).mono ?_
  · -- one round
    rintro pre x W ⟨hi, hh⟩ hok
    have hy := run_yield (P := P) (args := encs x) hh.loop (by rw [hrc]; exact hps x)
    rw [hrc] at hy
    refine ⟨fn, _, assign, body, hy, roundIn_of_wpIn hfn (hassign _ pre x W _ hi hok ?_)⟩
    intro a' U hku hkp hiu hax
    have hu := hh.from hku
    refine ⟨_, run_beginRound hu.loop (by rw [hrc]), ?_⟩
    have hbusy := hu.put { rc .ready none with state := .busy }
    have hkb : Kp U (U.putObj (w.heap.size + 1) (.loop { rc .ready none with state := .busy })) := hKb _ _ _ _ (by omega) hu.loop rfl rfl
    refine wpIn_mono (hbody _ pre x a' _ (hI.putObj _ hiu (by omega) hu.loop rfl) hok ((hAx x a').putObj (s := ()) _ hax (by omega) hu.loop rfl)) ?_
    have fin : ∀ (jump : Option Code) (Z : World), KeepsFrom w.heap.size (U.putObj (w.heap.size + 1) (.loop { rc .ready none with state := .busy })) Z →
        (Instr.endRound (w.heap.size + 1) jump).run P Z = .ok (.bool jump.isNone) (Z.putObj (w.heap.size + 1) (.loop (rc (if jump.isNone then .ready else .done) jump))) ∧
        Held w.heap.size { rc .ready none with state := .busy } Z ∧ Held w.heap.size (rc (if jump.isNone then .ready else .done) jump) (Z.putObj (w.heap.size + 1) (.loop (rc (if jump.isNone then .ready else .done) jump))) := fun jump Z hz => by
      have h3 := hbusy.from hz
      have h4 := run_endRound (P := P) jump h3.loop
      rw [hrc] at h4 ⊢
      rw [hrc] at h3
      exact ⟨h4, h3, h3.put _⟩
    rintro e a3 Z hp
    cases e with
    | normal =>
      obtain ⟨q1, q2, q3⟩ := hp
      obtain ⟨f1, f2, f3⟩ := fin none Z q1
      exact ⟨_, _, f1, .inl ⟨rfl, ⟨hI.putObj _ q3 (by omega) f2.loop rfl, f3⟩, hKt hkp (hKt (hKt hkb q2) (hKb _ _ _ _ (by omega) f2.loop rfl rfl))⟩⟩
    | ret =>
      obtain ⟨q1, q3⟩ := hp
      obtain ⟨f1, f2, f3⟩ := fin (some .ret) Z q1
      exact ⟨_, _, f1, .inr ⟨rfl, .ret, (hIx _).putObj _ q3 (by omega) f2.loop rfl, f3⟩⟩
    | exit id =>
      obtain ⟨q1, q3⟩ := hp
      obtain ⟨f1, f2, f3⟩ := fin (some (.exit id)) Z q1
      exact ⟨_, _, f1, .inr ⟨rfl, .exit id, (hIx _).putObj _ q3 (by omega) f2.loop rfl, f3⟩⟩
    | goto t =>
      obtain ⟨q1, q3⟩ := hp
      obtain ⟨f1, f2, f3⟩ := fin (some (.goto t)) Z q1
      exact ⟨_, _, f1, .inr ⟨rfl, .goto t, (hIx _).putObj _ q3 (by omega) f2.loop rfl, f3⟩⟩
    | panic ch => exact hp.elim
    | outgrown => exact hp.elim
  · -- behind the iterator
    rintro e W2 ⟨⟨v, rfl⟩, (⟨xs, hS, hi, hh⟩ | ⟨pre, hSp, c, hi, hh⟩)⟩
    · have h5 := run_endLoop (P := P) hh.loop (by rw [hrc]; simp)
      rw [hrc] at h5
      exact ⟨none, _, h5, hdone _ xs _ (Nat.le_refl _) hS (hI.putObj _ hi (by omega) hh.loop rfl) ((World.putObj_heap_other (by omega)).trans hh.calls)⟩
    · have h5 := run_endLoop (P := P) hh.loop (by rw [hrc]; simp)
      rw [hrc] at h5
      exact ⟨some c, _, h5, hstop _ c pre _ (Nat.le_refl _) hSp ((hIx c).putObj _ hi (by omega) hh.loop rfl) ((World.putObj_heap_other (by omega)).trans hh.calls)⟩

/-! ### what a round keeps: all rows of some types -/
def KpT (p : Nat → Prop) (W W' : World) : Prop := ∀ (k : Nat) cs (T : TypeId) fr, p T → W.heap[k]? = some (.cells cs T fr) → W'.heap[k]? = some (.cells cs T fr)
variable {p : Nat → Prop}
theorem KpT.refl (W : World) : KpT p W W := fun _ _ _ _ _ h => h
theorem KpT.trans {A B C : World} (h : KpT p A B) (k : KpT p B C) : KpT p A C := fun i cs T fr hT hi => k i cs T fr hT (h i cs T fr hT hi)
theorem KpT.of_below {W W' : World} (h : Below W.heap.size W W') : KpT p W W' := fun k _ _ _ _ hk => (h.block k (Array.getElem?_eq_some_iff.1 hk).1).trans hk
theorem KpT.alloc {A W : World} (h : KpT p A W) (o : Obj) : KpT p A (W.alloc o) := h.trans (.of_below ((Below.refl _ W).alloc (Nat.le_refl _) o))
theorem KpT.drew {A W : World} (h : KpT p A W) : KpT p A W.drew := h
theorem KpT.put (W : World) (l : Nat) (o o' : Obj) (h : W.heap[l]? = some o) (ho : o.isCells = false) : KpT p W (W.putObj l o') := fun k cs T fr _ hk => by
  by_cases e : k = l
  · subst e
    rw [h] at hk
    cases hk
    simp [Obj.isCells] at ho
  · exact (World.putObj_heap_other e).trans hk
theorem KpT.set {A W : World} (h : KpT p A W) {a : Addr} {cs : Array Value} {T : TypeId} {fr : Nat × Nat} (ha : W.heap[a.block]? = some (.cells cs T fr)) (hT : ¬ p T) (v : Value) : KpT p A (W.setCell a v) :=
  h.trans fun k cs' T' fr' hT' hk => by
    by_cases e : k = a.block
    · subst e
      rw [ha] at hk
      cases hk
      exact absurd hT' hT
    · exact (Below.heap_setCell W a v k e).trans hk
theorem KpT.grown {A W W' : World} (h : KpT p A W) {row : Option Nat} (hg : W.grownBy W' row) (hr : ∀ k cs (T : TypeId) fr, row = some k → W.heap[k]? = some (.cells cs T fr) → ¬ p T) : KpT p A W' :=
  h.trans fun k cs T fr hT hk => by
    refine (hg.block k (Array.getElem?_eq_some_iff.1 hk).1 ?_).trans hk
    intro e
    exact hr k cs T fr e.symm hk hT
theorem KpT.cell {W W' : World} (h : KpT p W W') {k o : Nat} {cs : Array Value} {T : TypeId} {fr : Nat × Nat} (hT : p T) (hk : W.heap[k]? = some (.cells cs T fr)) : W'.cell? ⟨k, o, none⟩ = W.cell? ⟨k, o, none⟩ :=
  World.cell?_of_block ((h k cs T fr hT hk).trans hk.symm)
end Go.Sq

/- Numbers of four bytes: put together, and taken apart. No conditions. -/
namespace Go.Proofs.YtgbmclgnbbhcbaaGreat
open Go.RowKit

theorem ofInt_nat (n : Nat) (h : n < 18446744073709551616) : (BitVec.ofInt IntKind.i64.bits (n : Int)).toNat = n := by
  rw [BitVec.toNat_ofInt]
  show ((n : Int) % 18446744073709551616).toNat = n
  omega
theorem or_low (a b k : Nat) (hb : b < 2 ^ k) (h : 2 ^ k * a + b < 9223372036854775808) : bits .or .i64 ((2 ^ k * a : Nat) : Int) (b : Int) = ((2 ^ k * a + b : Nat) : Int) := by
  have h4 : (BitVec.ofInt IntKind.i64.bits ((2 ^ k * a : Nat) : Int) ||| BitVec.ofInt IntKind.i64.bits (b : Int)).toNat = 2 ^ k * a + b := by
    rw [BitVec.toNat_or, ofInt_nat _ (by omega), ofInt_nat _ (by omega), Nat.two_pow_add_eq_or_of_lt hb]
  simp only [bits]
  rw [h4, IntKind.wrap_i64]
  omega
/-- the number of four bytes -/
def num4 (a b c d : UInt8) : Nat := a.toNat * 16777216 + b.toNat * 65536 + c.toNat * 256 + d.toNat
theorem or4 (a b c d : UInt8) : bits .or .i64 (bits .or .i64 (bits .or .i64 ((a.toNat : Int) * 16777216) ((b.toNat : Int) * 65536)) ((c.toNat : Int) * 256)) (d.toNat : Int) = (num4 a b c d : Int) := by
  have ha := a.toNat_lt
  have hb := b.toNat_lt
  have hc := c.toNat_lt
  have hd := d.toNat_lt
  have e1 := or_low a.toNat (b.toNat * 65536) 24 (by omega) (by omega)
  have e2 := or_low (a.toNat * 256 + b.toNat) (c.toNat * 256) 16 (by omega) (by omega)
  have e3 := or_low (a.toNat * 65536 + b.toNat * 256 + c.toNat) d.toNat 8 (by omega) (by omega)
  rw [show ((a.toNat : Int) * 16777216) = ((2 ^ 24 * a.toNat : Nat) : Int) by omega, show ((b.toNat : Int) * 65536) = ((b.toNat * 65536 : Nat) : Int) by omega, e1,
    show ((2 ^ 24 * a.toNat + b.toNat * 65536 : Nat) : Int) = ((2 ^ 16 * (a.toNat * 256 + b.toNat) : Nat) : Int) by omega, show ((c.toNat : Int) * 256) = ((c.toNat * 256 : Nat) : Int) by omega, e2,
    show ((2 ^ 16 * (a.toNat * 256 + b.toNat) + c.toNat * 256 : Nat) : Int) = ((2 ^ 8 * (a.toNat * 65536 + b.toNat * 256 + c.toNat) : Nat) : Int) by omega, e3]
  unfold num4
  omega
/-- a number's byte -/
def byteOf (n : Int) (k : Int) : UInt8 := UInt8.ofNat (n / k % 256).toNat
theorem byteOf_nat (n k : Int) : ((byteOf n k).toNat : Int) = n / k % 256 := by
  unfold byteOf
  rw [UInt8.toNat_ofNat']
  generalize n / k = m
  omega
def four (n : Int) : List UInt8 := [byteOf n 16777216, byteOf n 65536, byteOf n 256, byteOf n 1]
theorem num4_four (n : Int) (h0 : 0 ≤ n) (h1 : n < 4294967296) : (num4 (byteOf n 16777216) (byteOf n 65536) (byteOf n 256) (byteOf n 1) : Int) = n := by
  have e1 := byteOf_nat n 16777216
  have e2 := byteOf_nat n 65536
  have e3 := byteOf_nat n 256
  have e4 := byteOf_nat n 1
  unfold num4
  omega
end Go.Proofs.YtgbmclgnbbhcbaaGreat

/- The contracts of name.labels, Count, Parent, Under: what each returns, at every text that memory bears. -/
namespace Go.Proofs.YtgbmclgnbbhcbaaGreat
open Go.RowKit

def szOf : Value → Nat
  | .string s => s.size
  | _ => 0

def RetOwn (w : World) (ls : List (List UInt8)) (e : Ending) (w' : World) : Prop := ∃ v, e = .returned v ∧ w'.ownsRow w.heap.size 9 1 v ls.length (encS ls) ∧ Below w.heap.size w w'

theorem wire_get {l : List UInt8} {r : List (List UInt8)} {s : ByteArray} (hs : bl s = Nm.wire (l :: r)) (hg : Nm.GoodL (l :: r)) :
    ∃ h : 0 < s.size, (s[0]).toNat = l.length ∧ 1 + l.length ≤ s.size ∧ s.extract 1 (1 + l.length) = mk l ∧ s.extract (1 + l.length) s.size = mk (Nm.wire r) ∧ s.size = 1 + l.length + (Nm.wire r).length := by
  have hsz : s.size = 1 + l.length + (Nm.wire r).length := by rw [size_bl, hs, Nm.wire_cons]; simp; omega
  have h0 : 0 < s.size := by omega
  obtain ⟨⟨_, h63⟩, _⟩ := Nm.good_cons.1 hg
  refine ⟨h0, ?_, by omega, ?_, ?_, hsz⟩
  · have h1 := getq h0
    rw [hs, Nm.wire_cons] at h1
    simp only [List.getElem?_cons_zero, Option.some.injEq] at h1
    rw [← h1]
    exact Nm.ofNat_toNat h63
  · rw [extract_mk, hs, Nm.wire_cons]
    simp
  · rw [extract_mk, hs, Nm.wire_cons, hsz]
    congr 1
    rw [show 1 + l.length = l.length + 1 from by omega, List.drop_succ_cons, List.drop_left]
    exact List.take_of_length_le (by omega)

set_option maxRecDepth 100000 in
set_option maxHeartbeats 1000000 in
theorem labels_own (s : ByteArray) (w : World) (hs : s.size ≤ maxLen) :
    Calls Tryz.prog 101 #[.string s] w (RetOwn w (Nm.labs (bl s))) := by
  have hv := valid_any s w hs
  cases hc : Nm.valid (bl s) with
  | false =>
    rw [hc] at hv
    have hfin := Go.Lib.hid (Nm.labs_not hc)
    have HV := Go.Lib.hid hv
    clear hv hc hs
    go_enter Tryz.func101, Tryz.ntmps101
    go_wp2_with (go_at_call 31; refine HV.out.mono ?_; rintro e w' ⟨rfl, rfl⟩)
    go_ret
    exact ⟨_, rfl, by rw [hfin.out]; exact World.ownsRow_nil _ _ _ _, Below.refl _ _⟩
  | true =>
    rw [hc] at hv
    have HLV := Go.Lib.hid (Nm.labs_valid hc)
    have HV := Go.Lib.hid hv
    clear hv hc hs
    generalize hg : w.heap.size = g at *
    have HG := Go.Lib.hid hg
    clear hg
    go_enter Tryz.func101, Tryz.ntmps101
    go_wp2_with (go_at_call 31; refine HV.out.mono ?_; rintro e w' ⟨rfl, rfl⟩)
    go_loopw [2, 0, 3] (fun v n _ wr => ∃ (done rest : List (List UInt8)) (s1 : ByteArray), n = .string s1 ∧ bl s1 = Nm.wire rest ∧ Nm.GoodL rest ∧ Nm.labs (bl s) = done ++ rest ∧ s1.size ≤ 255 ∧ done.length ≤ 255 ∧
        wr.ownsRow g 9 1 v done.length (encS done) ∧ Below g w wr)
      (fun _ n _ _ => szOf n)
    case atStart =>
      refine ⟨[], Nm.labs (bl s), s, rfl, HLV.out.1, HLV.out.2.1, rfl, by rw [size_bl]; exact HLV.out.2.2, by simp, World.ownsRow_nil _ _ _ _, Below.refl _ _⟩
    case round =>
      obtain ⟨done, rest, s1, rfl, hs1, hgr, hl, hsz, hdl, hown, hb⟩ := hrel
      have HO := Go.Lib.hid hown
      have HB := Go.Lib.hid hb
      have HL := Go.Lib.hid hl
      have hgw : g ≤ wr.heap.size := by have := HB.out.size; rw [HG.out] at this; exact this
      cases rest with
      | nil =>
        have h1 : (s1.toList == [0]) = true := by rw [toList_bl, hs1]; rfl
        clear hown hb hl hs1 hgr
        go_wp2
        go_ret
        exact ⟨_, rfl, by rw [HL.out, List.append_nil, HG.out]; exact HO.out, by rw [HG.out]; exact HB.out⟩
      | cons l rest =>
        have h1 : (s1.toList == [0]) = false := by rw [toList_bl, hs1, beq_eq_false_iff_ne]; exact Nm.wire_ne_root
        obtain ⟨h0, hc0, hfit, he1, he2, hsz2⟩ := wire_get hs1 hgr
        have hgl := Nm.good_cons.1 hgr
        have hll := hgl.1
        have hlen1 : done.length + 1 ≤ 255 := by
          have h5 := HL.out
          have h6 := Nm.wire_length_gt (Nm.labs (bl s))
          have h7 := HLV.out.1
          have h8 := HLV.out.2.2
          rw [h7] at h8
          rw [h5, List.length_append, List.length_cons] at h6
          rw [h5] at h8
          omega
        generalize hcc : s1[0] = c at hc0
        have hcb := c.toNat_lt
        have HC0 := Go.Lib.hid hc0
        rw [← hc0] at hfit he1 he2
        have HE1 := Go.Lib.hid he1
        have HE2 := Go.Lib.hid he2
        have HSZ2 := Go.Lib.hid hsz2
        have HGR := Go.Lib.hid hgl.2
        clear hown hb hl hs1 hgr he1 he2 hc0 hsz2 hgl
        go_wp2_with fail
        have p1 : 0 ≤ 1 + (c.toNat : Int) := by omega
        have p2 : 1 + (c.toNat : Int) ≤ (s1.size : Int) := by omega
        have p3 : (1 : Int) ≤ 1 + (c.toNat : Int) := by omega
        have p4 : (1 + (c.toNat : Int)).toNat = 1 + c.toNat := by omega
        refine Go.Mix.wp_region_mix (Es := [4, 5]) (fun _ => True) mixed (by kernel_rfl) trivial (fun _ => ?_)
        iterate 4 (refine Go.Mix.mix_step rfl (fun K hK => ?_); go_simp; refine hK _ _ ?_; clear hK K)
        (refine Go.Mix.mix_eff rfl (fun K hK => ?_); go_simp; refine hK _ _ trivial ?_; clear hK K)
        refine mix_app eiS (.tmp 13) (.tmp 17) rfl rfl rfl g rfl rfl ((HO.out.drew).alloc _) (slc_new _ 1 1 9 [.string (s1.extract 1 (1 + c.toNat))] rfl (by decide)).drew ?h1 ?h2 ?h3 ?h4 ?h5
        case h1 => intro u hu; simp at hu; subst hu; rfl
        case h2 => unfold maxLen; omega
        case h3 => omega
        case h4 => simp; omega
        intro v1 w1 hown1 hg1
        refine ⟨trivial, ?_⟩
        have hown2 : w1.ownsRow g 9 1 v1 (done ++ [l]).length (encS (done ++ [l])) := by
          rw [List.length_append, encS_snoc, ← HE1.out]; exact hown1
        have hb2 : Below g w w1 := below_app (HB.out.drew.alloc hgw _) ((HO.out.drew).alloc _) hg1 (Nat.le_refl _) (by simp; omega)
        have HO2 := Go.Lib.hid hown2
        have HB2 := Go.Lib.hid hb2
        clear hown1 hg1 hown2 hb2
        iterate 5 (refine Go.Mix.mix_step rfl (fun K hK => ?_); go_simp; refine hK _ _ ?_; clear hK K)
        refine Go.Mix.mix_nil ?_
        go_wp2_with fail
        go_roundw
        case rel => exact ⟨done ++ [l], rest, s1.extract (1 + c.toNat) s1.size, rfl, by rw [HE2.out, bl_mk], HGR.out, by rw [HL.out]; simp, by rw [HE2.out, size_mk]; have := HSZ2.out; omega, by simp; omega, HO2.out, HB2.out⟩
        case measure =>
          simp [szOf]
          omega

theorem labels_any (s : ByteArray) (w : World) (hs : s.size ≤ maxLen) :
    Calls Tryz.prog 101 #[.string s] w (RetStrs w (Nm.labs (bl s))) := by
  refine (labels_own s w hs).mono ?_
  rintro e w' ⟨v, rfl, h1, h2⟩
  exact ⟨v, rfl, strs_owned h1, h2⟩


theorem labs_le (s : List UInt8) : (Nm.labs s).length ≤ 255 := by
  rcases Nm.valid_cases s with ⟨_, h⟩ | ⟨_, h, _, h3⟩
  · rw [h]; simp
  · have := Nm.wire_length_gt (Nm.labs s)
    rw [← h] at this
    omega

theorem mk_root : mk [0] = ⟨#[0]⟩ := rfl




end Go.Proofs.YtgbmclgnbbhcbaaGreat

/- The contracts of name.order, slices.Compare, name.Less, name.Common, and of the reference's Made, Parent, Under, Less, Common. -/
namespace Go.Proofs.YtgbmclgnbbhcbaaGreat
open Go.RowKit

/-! ### a row that is turned round -/
theorem Row.setCells {g : Nat} : ∀ (vs : List Value) (o : Nat) (cs : List Value) (w : World), Row w g cs → o + vs.length ≤ cs.length → Row (w.setCells g o vs) g (cs.take o ++ vs ++ cs.drop (o + vs.length))
  | [], o, cs, w, h, _ => by simpa [World.setCells] using h
  | v :: vs, o, cs, w, h, hl => by
    simp only [List.length_cons] at hl
    have h1 := Row.setCells vs (o + 1) (cs.set o v) (w.setCell ⟨g, o, none⟩ v) (h.set o v) (by rw [List.length_set]; omega)
    have e : (cs.set o v).take (o + 1) ++ vs ++ (cs.set o v).drop (o + 1 + vs.length) = cs.take o ++ (v :: vs) ++ cs.drop (o + (vs.length + 1)) := by
      rw [List.take_succ_eq_append_getElem (by rw [List.length_set]; omega), List.getElem_set_self, List.take_set_of_le (Nat.le_refl _), List.drop_set_of_lt (by omega)]
      simp [Nat.add_comm, Nat.add_left_comm]
    rw [e] at h1
    exact h1

theorem below_setCells {B g : Nat} (hg : B ≤ g) : ∀ (vs : List Value) (o : Nat) (w0 w : World), Below B w0 w → Below B w0 (w.setCells g o vs)
  | [], _, _, _, h => h
  | v :: vs, o, w0, _, h => below_setCells hg vs (o + 1) w0 _ (h.setCell (p := ⟨g, o, none⟩) hg v)

theorem row_of_owns {w : World} {base e g n cap : Nat} {cs : List Value} (h : w.ownsRow base e 1 (.slice (some ⟨g, 0, none⟩) n cap) n cs) : Row w g cs ∧ base ≤ g ∧ n ≤ cap ∧ cap ≤ maxLen := by
  obtain ⟨hl, h2⟩ := h
  rcases h2 with ⟨h2, _⟩ | ⟨g', cap', cur, hv, hb, hg, hn, hm, hs, ht⟩
  · cases h2
  · simp only [Value.slice.injEq, Option.some.injEq, Addr.mk.injEq] at hv
    obtain ⟨⟨rfl, _⟩, _, rfl⟩ := hv
    simp only [Nat.mul_one] at hl hs ht
    exact ⟨⟨cur, e, 0, 0, hg, by rw [hl]; exact ht, by omega, .inr rfl⟩, hb, hn, hm⟩

theorem reverse_any {w : World} {base : Nat} {v : Value} {ls : List (List UInt8)} (hown : w.ownsRow base 9 1 v ls.length (encS ls)) (hb : ls.length ≤ 4611686018427387904) :
    Calls Tryz.prog 102 #[v] w fun e w' => e = .returned (.tuple #[]) ∧ Strs w' v ls.reverse ∧ Below base w w' := by
  by_cases h0 : ls.length = 0
  · have hl : ls = [] := List.eq_nil_of_length_eq_zero h0
    subst hl
    obtain ⟨a, cap, rfl, _⟩ : ∃ a cap, v = .slice a 0 cap ∧ True := by
      rcases hown.2 with ⟨rfl, _⟩ | ⟨g, cap, cur, rfl, _⟩
      · exact ⟨_, _, rfl, trivial⟩
      · exact ⟨_, _, rfl, trivial⟩
    refine (Tryz.slices_Reverse_string_empty a cap w).mono ?_
    rintro e w' ⟨rfl, rfl⟩
    exact ⟨rfl, strs_owned hown, Below.refl _ _⟩
  · obtain ⟨g, cap, rfl⟩ : ∃ g cap, v = .slice (some ⟨g, 0, none⟩) ls.length cap := by
      rcases hown.2 with ⟨_, h⟩ | ⟨g, cap, cur, rfl, _⟩
      · exact absurd h h0
      · exact ⟨_, _, rfl⟩
    obtain ⟨hrow, hbg, hn, hm⟩ := row_of_owns hown
    have hlen : (encS ls).length = ls.length := by simp [encS]
    refine (Tryz.slices_Reverse_string_cells g 0 ls.length cap (fun i => mk (ls.getD i [])) w (by omega) (fun i hi => ?_) (fun j hj => ?_)).mono ?_
    · rw [Nat.zero_add, hrow.cell (by rw [hlen]; exact hi)]
      simp [encS, hi]
    · rw [Nat.zero_add]
      exact hrow.free (by rw [hlen]; exact hj)
    · rintro e w' ⟨rfl, q, rfl⟩
      have hstr : (Go.Lib.strsOf (fun i => mk (ls.getD i [])) ls.length).reverse.map encStr = encS ls.reverse := by
        have e : Go.Lib.strsOf (fun i => mk (ls.getD i [])) ls.length = ls := by
          unfold Go.Lib.strsOf
          refine List.ext_getElem? fun i => ?_
          by_cases hi : i < ls.length
          · simp [hi, mk]
          · simp [hi]
        rw [e]
        rfl
      rw [hstr]
      have hd : Row (w.drewN q) g (encS ls) := hrow
      have h1 := Row.setCells (encS ls.reverse) 0 (encS ls) (w.drewN q) hd (by simp [encS])
      have h2 : (encS ls).take 0 ++ encS ls.reverse ++ (encS ls).drop (0 + (encS ls.reverse).length) = encS ls.reverse := by
        rw [List.take_zero, List.nil_append, List.drop_of_length_le (by simp [encS]), List.append_nil]
      rw [h2] at h1
      refine ⟨rfl, ?_, below_setCells hbg _ _ _ _ ⟨rfl, rfl, rfl, Nat.le_refl _, fun _ _ => rfl⟩⟩
      unfold Strs
      rw [List.length_reverse]
      exact h1.slc (by simp [encS]) hn hm

/-! ### name.order -/
set_option maxRecDepth 100000 in
set_option maxHeartbeats 1000000 in
theorem order_any (s : ByteArray) (w : World) (hs : s.size ≤ maxLen) :
    Calls Tryz.prog 73 #[.string s] w (RetStrs w (Nm.orderF (Nm.labs (bl s)))) := by
  have hl := labels_any s w hs
  have hle := labs_le (bl s)
  have hsm : ∀ l ∈ Nm.labs (bl s), l.length ≤ 63 := by
    rcases Nm.valid_cases (bl s) with ⟨_, h⟩ | ⟨_, _, h, _⟩
    · rw [h]; simp
    · exact fun l hl => (h l hl).2
  have HL := Go.Lib.hid hl
  have HSM := Go.Lib.hid hsm
  clear hl hs hsm
  generalize Nm.labs (bl s) = ls at *
  generalize hg : w.heap.size = g at *
  have HG := Go.Lib.hid hg
  clear hg
  go_enter Tryz.func73, Tryz.ntmps73
  go_wp2_with fail
  refine HL.out.mono ?_
  rintro e w1 ⟨v, rfl, hst, hb⟩
  obtain ⟨a, cap, rfl, _, _⟩ := hst.slice
  rw [HG.out] at hb
  have HST := Go.Lib.hid hst
  have HB := Go.Lib.hid hb
  have hgw : g ≤ w1.heap.size := by have := hb.size; rw [HG.out] at this; exact this
  clear hst hb
  generalize hn : ls.length = n at *
  have HN := Go.Lib.hid hn
  clear hn
  go_wp2_with fail
  go_loopw [2, 8] (fun v i wr => ∃ k : Nat, i = .int .i64 k ∧ k ≤ n ∧ wr.ownsRow w1.heap.size 9 1 v k (encS ((ls.take k).map Nm.foldB)) ∧ Below w1.heap.size w1 wr) (fun _ i _ => n - (intOf i).toNat)
  case atStart => exact ⟨0, rfl, by omega, World.ownsRow_nil _ _ _ _, Below.refl _ _⟩
  case round =>
    obtain ⟨k, rfl, hk, hown, hbr⟩ := hrel
    have HO := Go.Lib.hid hown
    have HBR := Go.Lib.hid hbr
    have hws := hbr.size
    clear hown hbr
    by_cases hlt : k < n
    · have hst := HST.out
      have hn0 : 0 < ls.length := by rw [HN.out]; omega
      rw [← HN.out] at hst
      obtain ⟨b, off, rfl, hbw, hcell⟩ := Strs.at hst hn0
      have hc := hcell k (by rw [HN.out]; exact hlt)
      have hc2 : wr.cell? ⟨b, off + k, none⟩ = some (.string (mk (ls.getD k []))) := by rw [HBR.out.cell (p := ⟨b, off + k, none⟩) hbw]; exact hc
      have hx : (ls.getD k []).length ≤ 63 := HSM.out _ (by rw [List.getD_eq_getElem?_getD, List.getElem?_eq_getElem (by rw [HN.out]; exact hlt)]; simp)
      have hstep : Hid ((ls.take (k + 1)).map Nm.foldB = (ls.take k).map Nm.foldB ++ [Nm.foldB (ls.getD k [])]) := Go.Lib.hid (by
        rw [List.take_succ_eq_append_getElem (by rw [HN.out]; exact hlt), List.map_append]
        simp [HN.out, hlt])
      clear hst hcell hc
      have hfold := fold_any (mk (ls.getD k [])) wr (by rw [size_mk]; unfold maxLen; omega)
      rw [bl_mk] at hfold
      have HF := Go.Lib.hid hfold
      clear hfold
      generalize ls.getD k [] = x at *
      go_wp2_with fail
      refine HF.out.mono ?_
      rintro e w2 ⟨rfl, hb2⟩
      have HB2 := Go.Lib.hid hb2
      have HO2 := Go.Lib.hid (HO.out.kept (w' := w2) (row := none) ⟨hb2.os, hb2.tape, hb2.output, hb2.size, fun k hk _ => hb2.block k hk⟩ (by cases Value.ownBlock _ <;> simp))
      have hws2 := hb2.size
      clear hb2
      go_wp2_with (at_builtin; refine wpList_app eiS (.tmp 12) (.tmp 15) rfl rfl w1.heap.size rfl rfl (HO2.out.alloc _) (slc_new _ 1 1 9 [.string (mk (Nm.foldB x))] rfl (by decide)) ?h1 ?h2 ?h3 ?h4 ?h5; rotate_right; intro v1 w3 hown1 hg1)
      case h1 => intro u hu; simp at hu; subst hu; rfl
      case h2 => unfold maxLen; omega
      case h3 => omega
      case h4 => simp; omega
      go_roundw
      case rel => exact ⟨k + 1, by go_num, by omega, by rw [hstep.out, encS_snoc]; exact hown1, below_app ((HBR.out.trans (HB2.out.mono hws)).alloc (by omega) _) (HO2.out.alloc _) hg1 (Nat.le_refl _) (by simp; omega)⟩
      case measure => simp [intOf]; omega
    · have hke : k = n := by omega
      have hall : Hid ((ls.take k).map Nm.foldB = ls.map Nm.foldB) := Go.Lib.hid (by rw [hke, ← HN.out, List.take_length])
      have hown2 : wr.ownsRow w1.heap.size 9 1 u2 (ls.map Nm.foldB).length (encS (ls.map Nm.foldB)) := by
        have := HO.out
        rw [hall.out, hke] at this
        rw [List.length_map, HN.out]
        exact this
      have hrev := reverse_any hown2 (by rw [List.length_map, HN.out]; omega)
      have HREV := Go.Lib.hid hrev
      clear hke hown2 hrev
      go_wp2_with fail
      refine HREV.out.mono ?_
      rintro e w2 ⟨rfl, hst2, hb2⟩
      go_wp2_with fail
      go_ret
      exact ⟨_, rfl, hst2, by rw [HG.out]; exact HB.out.trans ((HBR.out.trans hb2).mono hgw)⟩

theorem bytesLess_ltB : ∀ (a b : List UInt8), Op.bytesLess a b = Nm.ltB a b
  | [], [] => rfl
  | _ :: _, [] => rfl
  | [], _ :: _ => rfl
  | a :: x, b :: y => by simp only [Op.bytesLess, Nm.ltB, bytesLess_ltB x y]

set_option maxRecDepth 100000 in
theorem cmp_any (a b : List UInt8) (w : World) :
    Calls Tryz.prog 100 #[.string (mk a), .string (mk b)] w fun e w' => e = .returned (.int .i64 (Nm.cmpB a b)) ∧ w = w' := by
  have ha : (mk a).toList = a := by rw [toList_bl, bl_mk]
  have hb : (mk b).toList = b := by rw [toList_bl, bl_mk]
  have hl := bytesLess_ltB a b
  by_cases h1 : Nm.ltB a b = true
  · have hfin : Hid (Nm.cmpB a b = -1) := Go.Lib.hid (by unfold Nm.cmpB; simp [h1])
    have h2 : Op.bytesLess (mk a).toList (mk b).toList = true := by rw [ha, hb, hl]; exact h1
    clear hl h1
    have HA := Go.Lib.hid ha
    have HB := Go.Lib.hid hb
    clear ha hb
    go_enter Tryz.func100, Tryz.ntmps100
    go_wp2
    go_ret
    exact ⟨ret_int hfin.out.symm, rfl⟩
  · have h1' : Nm.ltB a b = false := by simpa using h1
    have h2 : Op.bytesLess (mk a).toList (mk b).toList = false := by rw [ha, hb, hl]; exact h1'
    by_cases he : a = b
    · have hfin : Hid (Nm.cmpB a b = 0) := Go.Lib.hid (Nm.cmpB_zero.2 he)
      have h3 : ((mk a).toList == (mk b).toList) = true := by rw [ha, hb, he]; simp
      clear hl h1 h1' he ha hb
      go_enter Tryz.func100, Tryz.ntmps100
      go_wp2
      go_ret
      exact ⟨ret_int hfin.out.symm, rfl⟩
    · have hfin : Hid (Nm.cmpB a b = 1) := Go.Lib.hid (by unfold Nm.cmpB; simp [h1', he])
      have h3 : ((mk a).toList == (mk b).toList) = false := by rw [ha, hb, beq_eq_false_iff_ne]; exact he
      clear hl h1 h1' he ha hb
      go_enter Tryz.func100, Tryz.ntmps100
      go_wp2
      go_ret
      exact ⟨ret_int hfin.out.symm, rfl⟩

set_option maxRecDepth 100000 in
set_option maxHeartbeats 1000000 in
theorem compare_any (x y : List (List UInt8)) (ax ay : Option Addr) (cx cy : Nat) (w : World) (hx : Strs w (.slice ax x.length cx) x) (hy : Strs w (.slice ay y.length cy) y) (hlx : x.length ≤ 4611686018427387904) (hly : y.length ≤ 4611686018427387904) :
    Calls Tryz.prog 72 #[.slice ax x.length cx, .slice ay y.length cy] w fun e w' => e = .returned (.int .i64 (Nm.cmpL x y)) ∧ w = w' := by
  have HX := Go.Lib.hid hx
  have HY := Go.Lib.hid hy
  clear hx hy
  generalize hn : x.length = n at *
  generalize hm : y.length = m at *
  have HN := Go.Lib.hid hn
  have HM := Go.Lib.hid hm
  clear hn hm
  go_enter Tryz.func72, Tryz.ntmps72
  go_wp2_with fail
  go_loop [11] (fun i => ∃ k : Nat, i = .int .i64 k ∧ k ≤ n ∧ k ≤ m ∧ x.take k = y.take k) (fun i => n - (intOf i).toNat)
  case atStart => exact ⟨0, rfl, by omega, by omega, by simp⟩
  case round =>
    obtain ⟨k, rfl, hk, hkm, heq⟩ := hrel
    have hdrop : Hid (Nm.cmpL x y = Nm.cmpL (x.drop k) (y.drop k)) := Go.Lib.hid (Nm.cmpL_drop heq (by rw [HN.out]; exact hk) (by rw [HM.out]; exact hkm))
    have HEQ := Go.Lib.hid heq
    clear heq
    by_cases hlt : k < n
    · have hstx := HX.out
      rw [← HN.out] at hstx
      obtain ⟨b, off, rfl, hbw, hcell⟩ := Strs.at hstx (by rw [HN.out]; omega)
      have hcx := hcell k (by rw [HN.out]; exact hlt)
      have hdx : x.drop k = x.getD k [] :: x.drop (k + 1) := by
        rw [List.drop_eq_getElem_cons (by rw [HN.out]; exact hlt)]; simp [HN.out, hlt]
      clear hstx hcell
      by_cases hltm : k < m
      · have hsty := HY.out
        rw [← HM.out] at hsty
        obtain ⟨b2, off2, rfl, hbw2, hcell2⟩ := Strs.at hsty (by rw [HM.out]; omega)
        have hcy := hcell2 k (by rw [HM.out]; exact hltm)
        have hdy : y.drop k = y.getD k [] :: y.drop (k + 1) := by
          rw [List.drop_eq_getElem_cons (by rw [HM.out]; exact hltm)]; simp [HM.out, hltm]
        have htx : x.take (k + 1) = x.take k ++ [x.getD k []] := by rw [List.take_succ_eq_append_getElem (by rw [HN.out]; exact hlt)]; simp [HN.out, hlt]
        have hty : y.take (k + 1) = y.take k ++ [y.getD k []] := by rw [List.take_succ_eq_append_getElem (by rw [HM.out]; exact hltm)]; simp [HM.out, hltm]
        have HDX := Go.Lib.hid hdx
        have HDY := Go.Lib.hid hdy
        have HTX := Go.Lib.hid htx
        have HTY := Go.Lib.hid hty
        clear hsty hcell2 hdx hdy htx hty
        generalize x.getD k [] = p at *
        generalize y.getD k [] = q at *
        by_cases hc0 : Nm.cmpB p q = 0
        · have hpq := Nm.cmpB_zero.1 hc0
          have HPQ := Go.Lib.hid hpq
          have HC0 := Go.Lib.hid hc0
          clear hc0 hpq
          go_wp2_with (go_at_call 100; refine (cmp_any _ _ _).mono ?_; rintro e w' ⟨rfl, rfl⟩; rw [HC0.out])
          go_round
          case rel => exact ⟨k + 1, by go_num, by omega, by omega, by rw [HTX.out, HTY.out, HEQ.out, HPQ.out]⟩
          case measure => simp [intOf]; omega
        · have hfin : Hid (Nm.cmpL x y = Nm.cmpB p q) := Go.Lib.hid (by rw [hdrop.out, HDX.out, HDY.out]; simp [Nm.cmpL, hc0])
          have hb0 : (Nm.cmpB p q == 0) = false := by rw [beq_eq_false_iff_ne]; exact hc0
          have HC0 := Go.Lib.hid hc0
          clear hc0
          generalize hcp : Nm.cmpB p q = cc at *
          have HCP := Go.Lib.hid hcp
          clear hcp
          go_wp2_with (go_at_call 100; refine (cmp_any _ _ _).mono ?_; rintro e w' ⟨rfl, rfl⟩; rw [HCP.out])
          go_ret
          exact ⟨ret_int hfin.out.symm, rfl⟩
      · have hfin : Hid (Nm.cmpL x y = 1) := Go.Lib.hid (by
          rw [hdrop.out, hdx, List.drop_of_length_le (l := y) (by rw [HM.out]; omega)]; rfl)
        clear hdx
        go_wp2_with fail
        go_ret
        exact ⟨ret_int hfin.out.symm, rfl⟩
    · have hxe : x.drop k = [] := List.drop_of_length_le (by rw [HN.out]; omega)
      by_cases hnm : n < m
      · have hfin : Hid (Nm.cmpL x y = -1) := Go.Lib.hid (by
          rw [hdrop.out, hxe, List.drop_eq_getElem_cons (by rw [HM.out]; omega)]; rfl)
        clear hxe
        go_wp2_with fail
        go_ret
        exact ⟨ret_int hfin.out.symm, rfl⟩
      · have hfin : Hid (Nm.cmpL x y = 0) := Go.Lib.hid (by
          rw [hdrop.out, hxe, List.drop_of_length_le (l := y) (by rw [HM.out]; omega)]; rfl)
        clear hxe
        go_wp2_with fail
        go_ret
        exact ⟨ret_int hfin.out.symm, rfl⟩
end Go.Proofs.YtgbmclgnbbhcbaaGreat

/- The contracts of name.Less, Common, Join: what each returns, at every text and labels that memory bears. -/
namespace Go.Proofs.YtgbmclgnbbhcbaaGreat
open Go.RowKit

def strOf : Value → ByteArray
  | .string s => s
  | _ => ⟨#[]⟩

set_option maxRecDepth 100000 in
set_option maxHeartbeats 1000000 in
theorem Less_any (s t : ByteArray) (w : World) (hs : s.size ≤ maxLen) (ht : t.size ≤ maxLen) :
    Calls Tryz.prog 55 #[.string s, .string t] w fun e w' => e = .returned (.bool (Nm.lessN (bl s) (bl t))) ∧ Below w.heap.size w w' := by
  have hv := valid_any s w hs
  have hu := valid_any t w ht
  have ho := order_any s w hs
  have ho2 := fun w => order_any t w ht
  have hl1 := labs_le (bl s)
  have hl2 := labs_le (bl t)
  have hfin : Hid (Nm.lessN (bl s) (bl t) = (Nm.valid (bl s) && Nm.valid (bl t) && decide (Nm.cmpL (Nm.orderF (Nm.labs (bl s))) (Nm.orderF (Nm.labs (bl t))) < 0))) := Go.Lib.hid rfl
  have hx1 : (Nm.orderF (Nm.labs (bl s))).length ≤ 255 := by simp [Nm.orderF]; exact hl1
  have hx2 : (Nm.orderF (Nm.labs (bl t))).length ≤ 255 := by simp [Nm.orderF]; exact hl2
  have HV := Go.Lib.hid hv
  have HU := Go.Lib.hid hu
  have HO := Go.Lib.hid ho
  have HO2 := Go.Lib.hid ho2
  clear hs ht hv hu ho ho2 hl1 hl2
  generalize Nm.lessN (bl s) (bl t) = res at *
  generalize Nm.valid (bl s) = va at *
  generalize Nm.valid (bl t) = vb at *
  generalize (Nm.orderF (Nm.labs (bl s))) = x at *
  generalize (Nm.orderF (Nm.labs (bl t))) = y at *
  cases va with
  | false =>
    go_enter Tryz.func55, Tryz.ntmps55
    go_wp2_with fail
    refine HV.out.mono ?_; rintro e w' ⟨rfl, rfl⟩
    go_wp2_with fail
    go_ret
    exact ⟨ret_bool hfin.out.symm, Below.refl _ _⟩
  | true =>
    cases vb with
    | false =>
      go_enter Tryz.func55, Tryz.ntmps55
      go_wp2_with fail
      refine HV.out.mono ?_; rintro e w' ⟨rfl, rfl⟩
      go_wp2_with fail
      refine HU.out.mono ?_; rintro e w' ⟨rfl, rfl⟩
      go_wp2_with fail
      go_ret
      exact ⟨ret_bool hfin.out.symm, Below.refl _ _⟩
    | true =>
      go_enter Tryz.func55, Tryz.ntmps55
      go_wp2_with fail
      refine HV.out.mono ?_; rintro e w' ⟨rfl, rfl⟩
      go_wp2_with fail
      refine HU.out.mono ?_; rintro e w' ⟨rfl, rfl⟩
      go_wp2_with fail
      refine HO.out.mono ?_; rintro e w1 ⟨v1, rfl, hs1, hb1⟩
      go_wp2_with fail
      refine (HO2.out w1).mono ?_; rintro e w2 ⟨v2, rfl, hs2, hb2⟩
      obtain ⟨a1, c1, rfl, _, _⟩ := hs1.slice
      obtain ⟨a2, c2, rfl, _, _⟩ := hs2.slice
      have hcmp := compare_any x y a1 a2 c1 c2 w2 (hs1.below hb2 (Nat.le_refl _)) hs2 (by omega) (by omega)
      have HCMP := Go.Lib.hid hcmp
      have HB := Go.Lib.hid (hb1.trans (hb2.mono hb1.size))
      clear hs1 hs2 hb1 hb2 hcmp
      generalize Nm.cmpL x y = cc at *
      go_wp2_with fail
      refine HCMP.out.mono ?_; rintro e w' ⟨rfl, rfl⟩
      by_cases hc : cc < 0
      · go_wp2_with fail
        go_ret
        exact ⟨ret_bool (by rw [hfin.out]; simp [hc]), HB.out⟩
      · go_wp2_with fail
        go_ret
        exact ⟨ret_bool (by rw [hfin.out]; simp), HB.out⟩

end Go.Proofs.YtgbmclgnbbhcbaaGreat

/- The contracts of the reference's Less, Common. -/
namespace Go.Proofs.YtgbmclgnbbhcbaaGreat
open Go.RowKit

theorem getD_take_succ {α : Type} (l : List α) (d : α) {k : Nat} (h : k < l.length) : l.take (k + 1) = l.take k ++ [l.getD k d] := by
  rw [List.take_succ_eq_append_getElem h]
  simp [h]
theorem refLab_good (s : List UInt8) : Nm.GoodL (Nm.refLab s).1 ∧ (Nm.refLab s).1.length ≤ 255 := by
  unfold Nm.refLab
  split
  · exact ⟨Nm.good_nil, by simp⟩
  · rename_i h
    cases hu : Nm.unwire s with
    | none => exact ⟨Nm.good_nil, by simp⟩
    | some p =>
      obtain ⟨ls, t⟩ := p
      obtain ⟨h1, h2⟩ := Nm.unwire_eq.1 hu
      have h3 := Nm.wire_length_gt ls
      have h4 : s.length = (Nm.wire ls).length + t.length := by rw [h1, List.length_append]
      exact ⟨h2, by show ls.length ≤ 255; omega⟩

theorem lexL_drop {x y : List (List UInt8)} {k : Nat} (h : x.take k = y.take k) (hx : k ≤ x.length) (hy : k ≤ y.length) : Nm.lexL x y = Nm.lexL (x.drop k) (y.drop k) := by
  unfold Nm.lexL; rw [Nm.cmpL_drop h hx hy]
theorem rev_getD {x : List (List UInt8)} {k : Nat} (h : k < x.length) : x.reverse.getD k [] = x.getD (x.length - (k + 1)) [] := by
  simp [List.getD_eq_getElem?_getD, List.getElem?_reverse h, Nat.sub_sub, Nat.add_comm]
theorem rev_drop {x : List (List UInt8)} {k : Nat} (h : k < x.length) : x.reverse.drop k = x.getD (x.length - (k + 1)) [] :: x.reverse.drop (k + 1) := by
  rw [← rev_getD h, List.drop_eq_getElem_cons (by simpa using h)]
  congr 1
  rw [List.getD_eq_getElem?_getD, List.getElem?_eq_getElem (by simpa using h)]
  rfl

set_option maxRecDepth 100000 in
set_option maxHeartbeats 2000000 in
theorem refLess_any (s t : ByteArray) (w : World) (hs : s.size ≤ maxLen) (ht : t.size ≤ maxLen) :
    Calls Tryz.prog 49 #[.string s, .string t] w fun e w' => e = .returned (.bool (Nm.lessN (bl s) (bl t))) ∧ Below w.heap.size w w' := by
  have hf1 := refFold_any s w hs
  have hf2 := fun w => refFold_any t w ht
  have hl1 := fun w => refLabels_any (mk (Nm.foldN (bl s))) w
  have hl2 := fun w => refLabels_any (mk (Nm.foldN (bl t))) w
  simp only [bl_mk] at hl1 hl2
  have hv1 : (Nm.refLab (Nm.foldN (bl s))).2 = Nm.valid (bl s) := by rw [Nm.refLab_valid, Nm.valid_foldN]
  have hv2 : (Nm.refLab (Nm.foldN (bl t))).2 = Nm.valid (bl t) := by rw [Nm.refLab_valid, Nm.valid_foldN]
  have hb1 := (refLab_good (Nm.foldN (bl s))).2
  have hb2 := (refLab_good (Nm.foldN (bl t))).2
  have hres : Hid (Nm.lessN (bl s) (bl t) = (Nm.valid (bl s) && Nm.valid (bl t) && Nm.lexL (Nm.refLab (Nm.foldN (bl s))).1.reverse (Nm.refLab (Nm.foldN (bl t))).1.reverse)) := Go.Lib.hid (by
    unfold Nm.lessN
    cases h1 : Nm.valid (bl s) with
    | false => rfl
    | true =>
      cases h2 : Nm.valid (bl t) with
      | false => rfl
      | true =>
        rw [Nm.refLab_labs (by rw [Nm.valid_foldN]; exact h1), Nm.refLab_labs (by rw [Nm.valid_foldN]; exact h2), Nm.labs_foldN, Nm.labs_foldN]
        rfl)
  have HF1 := Go.Lib.hid hf1
  have HF2 := Go.Lib.hid hf2
  have HL1 := Go.Lib.hid hl1
  have HL2 := Go.Lib.hid hl2
  clear hf1 hf2 hl1 hl2 hs ht
  rw [← hv1, ← hv2] at hres
  clear hv1 hv2
  generalize Nm.lessN (bl s) (bl t) = res at *
  generalize Nm.refLab (Nm.foldN (bl s)) = p at *
  generalize Nm.refLab (Nm.foldN (bl t)) = q at *
  generalize Nm.foldN (bl s) = fs at *
  generalize Nm.foldN (bl t) = ft at *
  obtain ⟨x, o1⟩ := p
  obtain ⟨y, o2⟩ := q
  simp only at hb1 hb2 hres
  cases o1 with
  | false =>
    go_enter Tryz.func49, Tryz.ntmps49
    go_wp2_with fail
    refine HF1.out.mono ?_; rintro e w1 ⟨rfl, hw1⟩
    go_wp2_with fail
    refine (HL1.out _).mono ?_; rintro e w2 ⟨v1, rfl, _, hw2⟩
    go_wp2_with fail
    refine (HF2.out _).mono ?_; rintro e w3 ⟨rfl, hw3⟩
    go_wp2_with fail
    refine (HL2.out _).mono ?_; rintro e w4 ⟨v2, rfl, _, hw4⟩
    go_wp2_with fail
    go_ret
    have h12 := hw1.trans (hw2.mono hw1.size)
    have h123 := h12.trans (hw3.mono h12.size)
    exact ⟨ret_bool hres.out.symm, h123.trans (hw4.mono h123.size)⟩
  | true =>
    cases o2 with
    | false =>
      go_enter Tryz.func49, Tryz.ntmps49
      go_wp2_with fail
      refine HF1.out.mono ?_; rintro e w1 ⟨rfl, hw1⟩
      go_wp2_with fail
      refine (HL1.out _).mono ?_; rintro e w2 ⟨v1, rfl, _, hw2⟩
      go_wp2_with fail
      refine (HF2.out _).mono ?_; rintro e w3 ⟨rfl, hw3⟩
      go_wp2_with fail
      refine (HL2.out _).mono ?_; rintro e w4 ⟨v2, rfl, _, hw4⟩
      go_wp2_with fail
      go_ret
      have h12 := hw1.trans (hw2.mono hw1.size)
      have h123 := h12.trans (hw3.mono h12.size)
      exact ⟨ret_bool (by rw [hres.out]; rfl), h123.trans (hw4.mono h123.size)⟩
    | true =>
      go_enter Tryz.func49, Tryz.ntmps49
      go_wp2_with fail
      refine HF1.out.mono ?_; rintro e w1 ⟨rfl, hw1⟩
      go_wp2_with fail
      refine (HL1.out _).mono ?_; rintro e w2 ⟨v1, rfl, hst1, hw2⟩
      go_wp2_with fail
      refine (HF2.out _).mono ?_; rintro e w3 ⟨rfl, hw3⟩
      go_wp2_with fail
      refine (HL2.out _).mono ?_; rintro e w4 ⟨v2, rfl, hst2, hw4⟩
      have h12 := hw1.trans (hw2.mono hw1.size)
      have h123 := h12.trans (hw3.mono h12.size)
      have h1234 := h123.trans (hw4.mono h123.size)
      have hst1' : Strs w4 v1 x := (hst1.below hw3 (Nat.le_refl _)).below hw4 (Nat.le_refl _)
      obtain ⟨a1, c1, rfl, _, _⟩ := hst1.slice
      obtain ⟨a2, c2, rfl, _, _⟩ := hst2.slice
      have HS1 := Go.Lib.hid hst1'
      have HS2 := Go.Lib.hid hst2
      have HW := Go.Lib.hid h1234
      clear hw1 hw2 hw3 hw4 h12 h123 h1234 hst1 hst1' hst2
      generalize hxn : x.length = n at *
      generalize hym : y.length = m at *
      have HN := Go.Lib.hid hxn
      have HM := Go.Lib.hid hym
      clear hxn hym
      go_wp2_with fail
      go_loopw [9] (fun i wr => ∃ k : Nat, i = .int .i64 ((k : Int) + 1) ∧ k ≤ n ∧ k ≤ m ∧ x.reverse.take k = y.reverse.take k ∧ Below w4.heap.size w4 wr) (fun i _ => n + 1 - (intOf i).toNat)
      case atStart => exact ⟨0, rfl, by omega, by omega, by simp, Below.refl _ _⟩
      case round =>
        obtain ⟨k, rfl, hkn, hkm, heq, hbr⟩ := hrel
        have hdrop : Hid (Nm.lexL x.reverse y.reverse = Nm.lexL (x.reverse.drop k) (y.reverse.drop k)) := Go.Lib.hid (lexL_drop heq (by rw [List.length_reverse, HN.out]; exact hkn) (by rw [List.length_reverse, HM.out]; exact hkm))
        have HEQ := Go.Lib.hid heq
        have HBR := Go.Lib.hid hbr
        clear heq hbr
        by_cases hk : k < n ∧ k < m
        · obtain ⟨hk1, hk2⟩ := hk
          have hs1 := HS1.out.below HBR.out (Nat.le_refl _)
          have hs2 := HS2.out.below HBR.out (Nat.le_refl _)
          rw [← HN.out] at hs1
          rw [← HM.out] at hs2
          obtain ⟨b1, of1, rfl, _, hc1⟩ := Strs.at hs1 (by rw [HN.out]; omega)
          obtain ⟨b2, of2, rfl, _, hc2⟩ := Strs.at hs2 (by rw [HM.out]; omega)
          have l1 := hc1 (n - (k + 1)) (by rw [HN.out]; omega)
          have l2 := hc2 (m - (k + 1)) (by rw [HM.out]; omega)
          have hd1 := rev_drop (x := x) (k := k) (by rw [HN.out]; exact hk1)
          have hd2 := rev_drop (x := y) (k := k) (by rw [HM.out]; exact hk2)
          have ht1 := getD_take_succ x.reverse [] (k := k) (by rw [List.length_reverse, HN.out]; exact hk1)
          have ht2 := getD_take_succ y.reverse [] (k := k) (by rw [List.length_reverse, HM.out]; exact hk2)
          rw [rev_getD (by rw [HN.out]; exact hk1)] at ht1
          rw [rev_getD (by rw [HM.out]; exact hk2)] at ht2
          rw [HN.out] at hd1 ht1
          rw [HM.out] at hd2 ht2
          have HD1 := Go.Lib.hid hd1
          have HD2 := Go.Lib.hid hd2
          have HT1 := Go.Lib.hid ht1
          have HT2 := Go.Lib.hid ht2
          clear hs1 hs2 hc1 hc2 hd1 hd2 ht1 ht2
          generalize x.getD (n - (k + 1)) [] = u at *
          generalize y.getD (m - (k + 1)) [] = v at *
          have g1 := wrapi (n := (n : Int) - ((k : Int) + 1)) (by omega) (by omega)
          have g2 := wrapi (n := (m : Int) - ((k : Int) + 1)) (by omega) (by omega)
          have g3 : ((n : Int) - ((k : Int) + 1)).toNat = n - (k + 1) := by omega
          have g4 : ((m : Int) - ((k : Int) + 1)).toNat = m - (k + 1) := by omega
          have g5 : 0 ≤ (n : Int) - ((k : Int) + 1) := by omega
          have g6 : (n : Int) - ((k : Int) + 1) < (n : Int) := by omega
          have g7 : 0 ≤ (m : Int) - ((k : Int) + 1) := by omega
          have g8 : (m : Int) - ((k : Int) + 1) < (m : Int) := by omega
          have c1 : (k : Int) + 1 ≤ (n : Int) := by omega
          have c2 : (k : Int) + 1 ≤ (m : Int) := by omega
          have hlt := bytesLess_ltB u v
          have hlt2 : Op.bytesLess (mk u).toList (mk v).toList = Nm.ltB u v := by rw [toList_bl, toList_bl, bl_mk, bl_mk]; exact hlt
          clear hlt
          go_wp2_with fail
          refine Go.Mix.wp_region_mix (Es := []) (AtW wr.drew) mixed (by kernel_rfl) rfl (fun _ => ?_)
          have ld1 := AtW.cell (w0 := wr.drew) (p := ⟨b1, of1 + (n - (k + 1)), none⟩) l1
          have ld2 := AtW.cell (w0 := wr.drew) (p := ⟨b2, of2 + (m - (k + 1)), none⟩) l2
          iterate 16 (refine Go.Mix.mix_step rfl (fun K hK => ?_); go_simp; refine hK _ _ ?_; clear hK K)
          refine Go.Mix.mix_nil ?_
          by_cases huv : u = v
          · have e2 := bne_mk_false huv
            go_wp2_with fail
            go_roundw
            case rel => exact ⟨k + 1, by go_num, by omega, by omega, by rw [HT1.out, HT2.out, HEQ.out, huv], HBR.out.drew⟩
            case measure => simp [intOf]; omega
          · have e2 := bne_mk_true huv
            have e3 := beq_mk_false huv
            have e4 := ne_mk huv
            have hfin : Hid (Nm.lexL x.reverse y.reverse = Nm.ltB u v) := Go.Lib.hid (by rw [hdrop.out, HD1.out, HD2.out, Nm.lexL_cons, if_neg huv])
            go_wp2_with fail
            go_ret
            exact ⟨ret_bool (by rw [hres.out, hfin.out]; rfl), HW.out.trans (HBR.out.drew.mono HW.out.size)⟩
        · have hfin : Hid (Nm.lexL x.reverse y.reverse = decide ((n : Int) < (m : Int))) := Go.Lib.hid (by
            rw [hdrop.out]
            by_cases h1 : k = m
            · rw [List.drop_of_length_le (l := y.reverse) (by rw [List.length_reverse, HM.out]; omega), Nm.lexL_nil_right]
              simp; omega
            · have h2 : k = n := by omega
              rw [List.drop_of_length_le (l := x.reverse) (by rw [List.length_reverse, HN.out]; omega), rev_drop (by rw [HM.out]; omega), Nm.lexL_nil_cons]
              simp; omega)
          by_cases hkn2 : k < n
          · have c1 : (k : Int) + 1 ≤ (n : Int) := by omega
            have c2 : ¬ (k : Int) + 1 ≤ (m : Int) := by omega
            go_wp2_with fail
            go_ret
            exact ⟨ret_bool (by rw [hres.out, hfin.out]; simp), HW.out.trans (HBR.out.mono HW.out.size)⟩
          · have c1 : ¬ (k : Int) + 1 ≤ (n : Int) := by omega
            go_wp2_with fail
            go_ret
            exact ⟨ret_bool (by rw [hres.out, hfin.out]; simp), HW.out.trans (HBR.out.mono HW.out.size)⟩

end Go.Proofs.YtgbmclgnbbhcbaaGreat

