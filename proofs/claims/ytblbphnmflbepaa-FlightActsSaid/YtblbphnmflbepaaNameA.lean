/- The contracts of name.Lead, Valid, fold, Fold, Same: what each returns, at every text that memory bears. -/
import Derived.Test.YtblbphnmflbepaaStr
import Derived.Test.YtblbphnmflbepaaNm
namespace Go.Proofs.Ytblbphnmflbepaa
open Go.RowKit

def leadV (s : ByteArray) : Value := match Nm.lead (bl s) with
  | some n => .tuple #[.int .i64 (n : Int), .bool true]
  | none => .tuple #[.int .i64 0, .bool false]

theorem getq {s : ByteArray} {k : Nat} (h : k < s.size) : (bl s)[k]? = some s[k] := by
  rw [get_bl s k h]
  exact List.getElem?_eq_getElem (by rw [← size_bl]; exact h)

theorem byte_ne {c : UInt8} (h : ¬ ((c.toNat : Int) = 0)) : c ≠ 0 := by
  intro h0
  subst h0
  simp at h

set_option maxRecDepth 100000 in
set_option maxHeartbeats 800000 in
theorem lead_any (s : ByteArray) (w : World) (hs : s.size ≤ maxLen) :
    Calls Try.prog 51 #[.string s] w fun e w' => e = .returned (leadV s) ∧ w = w' := by
  unfold maxLen at hs
  go_enter Try.func51, Try.ntmps51
  go_wp2
  go_loop [4] (fun at_ => ∃ k : Nat, at_ = .int .i64 k ∧ k ≤ 400 ∧ ((k ≤ s.size ∧ ∃ ls, Nm.GoodL ls ∧ Nm.pre ls = (bl s).take k) ∨ (s.size < k ∧ Nm.lead (bl s) = none))) (fun at_ => 1000 - (intOf at_).toNat)
  case atStart => exact ⟨0, rfl, by omega, .inl ⟨by omega, [], Nm.good_nil, by simp [Nm.pre]⟩⟩
  case round =>
    obtain ⟨k, rfl, hk0, hrel⟩ := hrel
    have HR := Go.Lib.hid hrel
    clear hrel
    by_cases hk : k < s.size ∧ k < 255
    · obtain ⟨hk1, hk2⟩ := hk
      have hq := getq hk1
      generalize hc : s[k] = c at hq
      have hq := Go.Lib.hid hq
      have hb := c.toNat_lt
      by_cases h0 : c.toNat = 0
      · have hz : ((c.toNat : Int) == 0) = true := by rw [h0]; rfl
        have hlead : Hid (leadV s = .tuple #[.int .i64 ((k : Int) + 1), .bool true]) := Go.Lib.hid (by
          rcases HR.out with ⟨_, ls, hg, hp⟩ | ⟨h, _⟩
          · have hc0 : c = 0 := by rw [← UInt8.toNat_inj]; simpa using h0
            obtain ⟨e1, e2⟩ := Nm.split_at hp hq.out
            rw [hc0] at e1
            have := Nm.lead_zero hg e1 (by omega)
            unfold leadV
            rw [this, e2]
            simp
          · omega)
        clear h0
        go_wp2
        go_ret2
        exact ⟨congrArg Ending.returned hlead.out.symm, rfl⟩
      · have hz : ((c.toNat : Int) == 0) = false := by rw [beq_eq_false_iff_ne]; omega
        have hne : c ≠ 0 := fun h => by rw [h] at h0; simp at h0
        have HNE := Go.Lib.hid hne
        clear hne h0
        by_cases hbig : 63 < c.toNat
        · have hlead : Hid (leadV s = .tuple #[.int .i64 0, .bool false]) := Go.Lib.hid (by
            rcases HR.out with ⟨_, ls, hg, hp⟩ | ⟨h, _⟩
            · obtain ⟨e1, e2⟩ := Nm.split_at hp hq.out
              have := Nm.lead_big hg e1 HNE.out (.inl hbig)
              unfold leadV
              rw [this]
            · omega)
          have hbi : (63 : Int) < (c.toNat : Int) := by omega
          go_wp2
          go_ret2
          exact ⟨congrArg Ending.returned hlead.out.symm, rfl⟩
        · have hbi : (c.toNat : Int) ≤ 63 := by omega
          have hnext : Hid ((k + 1 + c.toNat ≤ s.size ∧ ∃ ls, Nm.GoodL ls ∧ Nm.pre ls = (bl s).take (k + 1 + c.toNat)) ∨ (s.size < k + 1 + c.toNat ∧ Nm.lead (bl s) = none)) := Go.Lib.hid (by
            rcases HR.out with ⟨_, ls, hg, hp⟩ | ⟨h, _⟩
            · by_cases hfit : k + 1 + c.toNat ≤ s.size
              · obtain ⟨l, _, _, e1, e2⟩ := Nm.take_step hg hp hq.out HNE.out (by omega) (by rw [← size_bl]; exact hfit)
                exact .inl ⟨hfit, _, e2, e1⟩
              · obtain ⟨e1, e2⟩ := Nm.split_at hp hq.out
                refine .inr ⟨by omega, Nm.lead_big hg e1 HNE.out (.inr ?_)⟩
                rw [List.length_drop, ← size_bl]
                omega
            · omega)
          go_wp2
          go_round
          case rel => exact ⟨k + 1 + c.toNat, by go_num, by omega, hnext.out⟩
          case measure => simp [intOf]; omega
    · have hlead : Hid (leadV s = .tuple #[.int .i64 0, .bool false]) := Go.Lib.hid (by
        have : Nm.lead (bl s) = none := by
          rcases HR.out with ⟨h, ls, hg, hp⟩ | ⟨_, h⟩
          · by_cases he : k = s.size
            · exact Nm.lead_end hg (by rw [hp, he, size_bl, List.take_length])
            · have h255 : 255 ≤ k := by omega
              refine Nm.lead_long (r := (bl s).drop k) hg (by rw [hp, List.take_append_drop]) ?_
              rw [hp, List.length_take, ← size_bl]
              omega
          · exact h
        unfold leadV
        rw [this])
      have hor : s.size ≤ k ∨ (k < s.size ∧ 255 ≤ k) := by omega
      clear hk
      rcases hor with h | ⟨h1, h2⟩
      all_goals
        go_wp2
        go_ret2
        exact ⟨congrArg Ending.returned hlead.out.symm, rfl⟩

theorem valid_any (s : ByteArray) (w : World) (hs : s.size ≤ maxLen) :
    Calls Try.prog 46 #[.string s] w fun e w' => e = .returned (.bool (Nm.valid (bl s))) ∧ w = w' := by
  have hv := Nm.valid_lead (bl s)
  rw [← size_bl] at hv
  have hl := lead_any s w hs
  unfold leadV at hl
  cases hlead : Nm.lead (bl s) with
  | none =>
    rw [hlead] at hv hl
    simp only at hv hl
    have HV := Go.Lib.hid hv
    have HL := Go.Lib.hid hl
    clear hv hl hlead
    unfold maxLen at hs
    go_enter Try.func46, Try.ntmps46
    go_wp2_with (go_at_call 51; refine HL.out.mono ?_; rintro e w' ⟨rfl, rfl⟩)
    go_ret
    exact ⟨ret_bool HV.out.symm, rfl⟩
  | some n =>
    rw [hlead] at hv hl
    simp only at hv hl
    have HV := Go.Lib.hid hv
    have HL := Go.Lib.hid hl
    clear hv hl hlead
    unfold maxLen at hs
    go_enter Try.func46, Try.ntmps46
    go_wp2_with (go_at_call 51; refine HL.out.mono ?_; rintro e w' ⟨rfl, rfl⟩)
    go_ret
    refine ⟨ret_bool ?_, rfl⟩
    rw [HV.out, Bool.eq_iff_iff]
    simp
    omega

def encB (l : List UInt8) : List Value := l.map fun b => .int .u8 b.toNat

theorem low_up {c : UInt8} (h1 : 65 ≤ (c.toNat : Int)) (h2 : (c.toNat : Int) ≤ 90) : ((Nm.low c).toNat : Int) = (c.toNat : Int) + 97 - 65 := by
  unfold Nm.low
  have h : 65 ≤ c.toNat ∧ c.toNat ≤ 90 := by omega
  simp only [h, and_self, if_true, UInt8.toNat_add]
  have : (32 : UInt8).toNat = 32 := rfl
  rw [this]
  omega
theorem low_no {c : UInt8} (h : ¬ (65 ≤ (c.toNat : Int) ∧ (c.toNat : Int) ≤ 90)) : Nm.low c = c := by
  unfold Nm.low
  have h : ¬ (65 ≤ c.toNat ∧ c.toNat ≤ 90) := by omega
  simp [h]

/-- what stands in the row when k bytes are folded -/
def half (l : List UInt8) (k : Nat) : List UInt8 := (l.take k).map Nm.low ++ l.drop k

theorem half_length (l : List UInt8) (k : Nat) : (half l k).length = l.length := by
  unfold half
  rw [List.length_append, List.length_map, List.length_take, List.length_drop]; omega
theorem half_get {l : List UInt8} {k : Nat} (h : k < l.length) : (half l k)[k]? = some l[k] := by
  unfold half
  rw [List.getElem?_append_right (by rw [List.length_map, List.length_take]; omega), List.length_map, List.length_take, List.getElem?_drop]
  rw [show k + (k - min k l.length) = k from by omega]
  exact List.getElem?_eq_getElem h
theorem half_set {l : List UInt8} {k : Nat} (h : k < l.length) : (half l k).set k (Nm.low l[k]) = half l (k + 1) := by
  unfold half
  rw [List.set_append_right _ _ (by rw [List.length_map, List.length_take]; omega), List.length_map, List.length_take, show k - min k l.length = 0 from by omega,
    List.take_succ_eq_append_getElem h, List.map_append, List.append_assoc]
  have e := List.drop_eq_getElem_cons h
  rw [e]
  rfl
theorem half_same {l : List UInt8} {k : Nat} (h : k < l.length) (hl : Nm.low l[k] = l[k]) : half l (k + 1) = half l k := by
  rw [← half_set h, hl]
  refine List.ext_getElem? fun i => ?_
  · by_cases hi : k = i
    · subst hi; rw [List.getElem?_set_self (by rw [half_length]; exact h), half_get h]
    · rw [List.getElem?_set_ne hi]
theorem half_end (l : List UInt8) : half l l.length = Nm.foldB l := by simp [half, Nm.foldB]

set_option maxRecDepth 100000 in
set_option maxHeartbeats 800000 in
theorem fold_any (s : ByteArray) (w : World) (hs : s.size ≤ maxLen) :
    Calls Try.prog 47 #[.string s] w fun e w' => e = .returned (.string (mk (Nm.foldB (bl s)))) ∧ Below w.heap.size w w' := by
  obtain ⟨cap, w1, hrun, hcap, hcm, hrow, hb1, hsz⟩ := run_conv_bytes s hs w
  have hlen := size_bl s
  unfold maxLen at hs
  have HR := Go.Lib.hid hrow
  have HB := Go.Lib.hid hb1
  have HS := Go.Lib.hid hsz
  have HL := Go.Lib.hid hlen
  clear hrow hb1 hsz hlen
  generalize hg : w.heap.size = g at *
  have HG := Go.Lib.hid hg
  clear hg
  go_enter Try.func47, Try.ntmps47
  go_wp2
  go_loopw [10] (fun i wr => ∃ k : Nat, i = .int .i64 k ∧ k ≤ s.size ∧ Row wr g (encB (half (bl s) k)) ∧ Below g w wr) (fun i _ => s.size - (intOf i).toNat)
  case atStart => exact ⟨0, rfl, by omega, by simpa [half, encB] using HR.out, HB.out⟩
  case round =>
    obtain ⟨k, rfl, hk, hrow, hb⟩ := hrel
    by_cases hlt : k < s.size
    · have hkl : k < (bl s).length := by rw [← HL.out]; exact hlt
      have hcell : wr.cell? ⟨g, k, none⟩ = some (.int .u8 ((bl s)[k]'hkl).toNat) := by
        rw [hrow.cell (by simp [encB, half_length]; exact hkl)]
        simp [encB, half_get hkl]
      have hfree : wr.frozen? ⟨g, k, none⟩ = false := hrow.free (by simp [encB, half_length]; exact hkl)
      have hset : Row (wr.setCell ⟨g, k, none⟩ (.int .u8 (Nm.low ((bl s)[k]'hkl)).toNat)) g (encB (half (bl s) (k + 1))) := by
        have := hrow.set k (.int .u8 (Nm.low ((bl s)[k]'hkl)).toNat)
        rw [← half_set hkl]
        unfold encB at this ⊢
        rwa [List.map_set]
      have hsame : Nm.low ((bl s)[k]'hkl) = (bl s)[k]'hkl → half (bl s) (k + 1) = half (bl s) k := half_same hkl
      have HSET := Go.Lib.hid hset
      have HSAME := Go.Lib.hid hsame
      have HROW := Go.Lib.hid hrow
      have HBW := Go.Lib.hid hb
      clear hset hsame hrow hb
      generalize (bl s)[k]'hkl = c at *
      have hcb := c.toNat_lt
      by_cases hup : 65 ≤ (c.toNat : Int) ∧ (c.toNat : Int) ≤ 90
      · obtain ⟨h1, h2⟩ := hup
        have hlow := low_up h1 h2
        have HLOW := Go.Lib.hid hlow
        clear hlow
        go_wp2
        go_roundw
        case rel => exact ⟨k + 1, by go_num, by omega, by rw [← HLOW.out]; exact HSET.out, HBW.out.setCell (p := ⟨g, k, none⟩) (Nat.le_refl _) _⟩
        case measure => simp [intOf]; omega
      · have hlow := Go.Lib.hid (HSAME.out (low_no hup))
        have hor : (c.toNat : Int) < 65 ∨ (65 ≤ (c.toNat : Int) ∧ 90 < (c.toNat : Int)) := by omega
        clear hup
        rcases hor with h | ⟨h1, h2⟩
        all_goals
          go_wp2
          go_roundw
          case rel => exact ⟨k + 1, by go_num, by omega, by rw [hlow.out]; exact HROW.out, HBW.out⟩
          case measure => simp [intOf]; omega
    · have hke : k = s.size := by omega
      have hby : Byts wr (.slice (some ⟨g, 0, none⟩) s.size cap) (Nm.foldB (bl s)) := by
        have h1 := hrow.slc (n := s.size) (by simp [encB, half_length, HL.out]) hcap hcm
        rw [hke, HL.out, half_end] at h1
        rw [HL.out]
        unfold Byts
        rw [Nm.foldB_length]
        exact h1
      have hcv := run_conv_string hby
      clear hke hby
      go_wp2
      go_ret
      exact ⟨rfl, hb⟩


theorem eqs (a b : List UInt8) : ((mk a).toList == (mk b).toList) = (a == b) := by rw [toList_bl, toList_bl, bl_mk, bl_mk]

set_option maxRecDepth 100000 in
theorem Same_any (s t : ByteArray) (w : World) (hs : s.size ≤ maxLen) (ht : t.size ≤ maxLen) :
    Calls Try.prog 42 #[.string s, .string t] w fun e w' => e = .returned (.bool (Nm.sameN (bl s) (bl t))) ∧ Below w.heap.size w w' := by
  have hv := valid_any s w hs
  have hu := valid_any t w ht
  cases hc : Nm.valid (bl s) with
  | false =>
    rw [hc] at hv
    have hfin : Hid (Nm.sameN (bl s) (bl t) = false) := Go.Lib.hid (by simp [Nm.sameN, hc])
    have HV := Go.Lib.hid hv
    clear hv hu hc hs ht
    go_enter Try.func42, Try.ntmps42
    go_wp2_with (go_at_call 46; refine HV.out.mono ?_; rintro e w' ⟨rfl, rfl⟩)
    go_ret
    exact ⟨ret_bool hfin.out.symm, Below.refl _ _⟩
  | true =>
    cases hd : Nm.valid (bl t) with
    | false =>
      rw [hc] at hv
      rw [hd] at hu
      have hfin : Hid (Nm.sameN (bl s) (bl t) = false) := Go.Lib.hid (by simp [Nm.sameN, hd])
      have HV := Go.Lib.hid hv
      have HU := Go.Lib.hid hu
      clear hv hu hc hd hs ht
      go_enter Try.func42, Try.ntmps42
      go_wp2_with fail
      refine HV.out.mono ?_; rintro e w' ⟨rfl, rfl⟩
      go_wp2_with fail
      refine HU.out.mono ?_; rintro e w' ⟨rfl, rfl⟩
      go_wp2_with fail
      go_ret
      exact ⟨ret_bool hfin.out.symm, Below.refl _ _⟩
    | true =>
      rw [hc] at hv
      rw [hd] at hu
      have hfin : Hid (Nm.sameN (bl s) (bl t) = (Nm.foldB (bl s) == Nm.foldB (bl t))) := Go.Lib.hid (by simp [Nm.sameN, hc, hd])
      have HV := Go.Lib.hid hv
      have HU := Go.Lib.hid hu
      clear hv hu hc hd
      go_enter Try.func42, Try.ntmps42
      go_wp2_with fail
      refine HV.out.mono ?_; rintro e w' ⟨rfl, rfl⟩
      go_wp2_with fail
      refine HU.out.mono ?_; rintro e w' ⟨rfl, rfl⟩
      go_wp2_with fail
      refine (fold_any s _ hs).mono ?_; rintro e w1 ⟨rfl, hb1⟩
      go_wp2_with fail
      refine (fold_any t _ ht).mono ?_; rintro e w2 ⟨rfl, hb2⟩
      go_wp2_with fail
      go_ret
      exact ⟨ret_bool (by rw [hfin.out, eqs]), hb1.trans (hb2.mono hb1.size)⟩
end Go.Proofs.Ytblbphnmflbepaa

