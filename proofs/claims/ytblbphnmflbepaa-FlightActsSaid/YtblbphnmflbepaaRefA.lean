/- The contracts of the reference's Labels, Valid, Fold, Same: what each returns, at every text that memory bears. -/
import Derived.Test.YtblbphnmflbepaaNameA
namespace Go.Proofs.Ytblbphnmflbepaa
open Go.RowKit

theorem infoS : (Try.prog.info? 9).map (fun i => (i.zero, i.size, i.bytes)) = some (some (.string ⟨#[]⟩), 1, 16) := by kernel_rfl
theorem eiS : EI Try.prog 98 9 1 16 := ei_of Try.underlying98 infoS rfl (by decide)

def encS (ls : List (List UInt8)) : List Value := ls.map fun l => .string (mk l)
theorem encS_snoc (ls : List (List UInt8)) (l : List UInt8) : encS (ls ++ [l]) = encS ls ++ [.string (mk l)] := by simp [encS]
theorem extract_mk (s : ByteArray) (a b : Nat) : s.extract a b = mk (((bl s).drop a).take (b - a)) := by
  apply bl_inj
  rw [bl_mk, bl_extract]

/-- it returns a list of texts, in new memory -/
def RetStrs (w : World) (ls : List (List UInt8)) (e : Ending) (w' : World) : Prop := ∃ v, e = .returned v ∧ Strs w' v ls ∧ Below w.heap.size w w'
def RetStrsB (w : World) (p : List (List UInt8) × Bool) (e : Ending) (w' : World) : Prop := ∃ v, e = .returned (.tuple #[v, .bool p.2]) ∧ Strs w' v p.1 ∧ Below w.heap.size w w'

theorem strs_owned {w : World} {g e : Nat} {v : Value} {ls : List (List UInt8)} (h : w.ownsRow g e 1 v ls.length (encS ls)) : Strs w v ls := SlC.of_owns h

set_option maxRecDepth 100000 in
set_option maxHeartbeats 1000000 in
theorem refLabels_any (s : ByteArray) (w : World) :
    Calls Try.prog 52 #[.string s] w (RetStrsB w (Nm.refLab (bl s))) := by
  have hsz := size_bl s
  by_cases hlong : 255 < s.size
  · have hfin := Go.Lib.hid (Nm.refLab_long (s := bl s) (by omega))
    clear hsz
    go_enter Try.func52, Try.ntmps52
    go_wp2
    go_ret2
    exact ⟨_, by rw [hfin.out]; rfl, by rw [hfin.out]; exact SlC.nil _ _, Below.refl _ _⟩
  have hs : s.size ≤ 255 := by omega
  have HSZ := Go.Lib.hid hsz
  clear hsz hlong
  generalize hg : w.heap.size = g at *
  have HG := Go.Lib.hid hg
  clear hg
  go_enter Try.func52, Try.ntmps52
  go_wp2
  go_loopw [4, 5] (fun v at_ wr => ∃ (k : Nat) (ls : List (List UInt8)), at_ = .int .i64 k ∧ k ≤ s.size ∧ Nm.GoodL ls ∧ Nm.pre ls = (bl s).take k ∧ ls.length ≤ k ∧ wr.ownsRow g 9 1 v ls.length (encS ls) ∧ Below g w wr)
    (fun _ at_ _ => s.size - (intOf at_).toNat)
  case atStart => exact ⟨0, [], rfl, by omega, Nm.good_nil, by simp [Nm.pre], by simp, World.ownsRow_nil _ _ _ _, Below.refl _ _⟩
  case round =>
    obtain ⟨k, ls, rfl, hk, hgl, hp, hll, hown, hb⟩ := hrel
    have HP := Go.Lib.hid hp
    have HO := Go.Lib.hid hown
    have HB := Go.Lib.hid hb
    have HGL := Go.Lib.hid hgl
    have hgw : g ≤ wr.heap.size := by have := HB.out.size; rw [HG.out] at this; exact this
    clear hp hown hb hgl
    by_cases hlt : k < s.size
    · have hq := getq hlt
      generalize hc : s[k] = c at hq
      have hq := Go.Lib.hid hq
      have hcb := c.toNat_lt
      by_cases h0 : c.toNat = 0
      · have hz : ((c.toNat : Int) == 0) = true := by rw [h0]; rfl
        have hc0 : c = 0 := by rw [← UInt8.toNat_inj]; simpa using h0
        have hsp := Nm.split_at HP.out hq.out
        rw [hc0] at hsp
        have hfin : Hid (Nm.refLab (bl s) = (ls, (((bl s).drop (k + 1)).isEmpty))) := Go.Lib.hid (Nm.refLab_some (by rw [← HSZ.out]; exact hs) (Nm.unwire_zero HGL.out hsp.1))
        have hbool : Hid (((bl s).drop (k + 1)).isEmpty = ((k : Int) == (s.size : Int) - 1)) := Go.Lib.hid (by
          rw [Bool.eq_iff_iff, List.isEmpty_iff, List.drop_eq_nil_iff, ← HSZ.out, beq_iff_eq]
          omega)
        clear h0 hsp
        rw [hc0] at hz
        go_wp2
        go_ret2
        exact ⟨_, by rw [hfin.out]; exact congrArg (fun b => Ending.returned (.tuple #[_, .bool b])) hbool.out.symm, by rw [hfin.out]; exact strs_owned HO.out, by rw [HG.out]; exact HB.out⟩
      · have hz : ((c.toNat : Int) == 0) = false := by rw [beq_eq_false_iff_ne]; omega
        have hne : c ≠ 0 := fun h => by rw [h] at h0; simp at h0
        have HNE := Go.Lib.hid hne
        clear hne h0
        by_cases hbad : 63 < (c.toNat : Int) ∨ (s.size : Int) - k - 1 < (c.toNat : Int)
        · have hfin : Hid (Nm.refLab (bl s) = ([], false)) := Go.Lib.hid (by
            refine Nm.refLab_none (Nm.unwire_big HGL.out (Nm.split_at HP.out hq.out).1 HNE.out ?_)
            rw [List.length_drop, ← HSZ.out]
            omega)
          have hor : 63 < (c.toNat : Int) ∨ ((c.toNat : Int) ≤ 63 ∧ (s.size : Int) - k - 1 < (c.toNat : Int)) := by omega
          clear hbad
          rcases hor with h | ⟨h1, h2⟩
          all_goals
            go_wp2
            go_ret2
            exact ⟨_, by rw [hfin.out]; rfl, by rw [hfin.out]; exact SlC.nil _ _, by rw [HG.out]; exact HB.out⟩
        · have h63 : (c.toNat : Int) ≤ 63 := by omega
          have hfit : k + 1 + c.toNat ≤ s.size := by omega
          clear hbad
          obtain ⟨l, hl1, hl2, hl3, hl4⟩ := Nm.take_step HGL.out HP.out hq.out HNE.out (by omega) (by rw [← HSZ.out]; exact hfit)
          have hex : Hid (s.extract (k + 1) (k + 1 + c.toNat) = mk l) := Go.Lib.hid (by rw [extract_mk, hl1]; congr 2; omega)
          have H3 := Go.Lib.hid hl3
          have H4 := Go.Lib.hid hl4
          have H1 : 1 ≤ c.toNat := Nm.toNat_pos HNE.out
          clear hl1 hl2 hl3 hl4
          go_wp2_with (at_builtin; refine wpList_app eiS (.tmp 37) (.tmp 46) rfl rfl g rfl rfl (HO.out.alloc _) (slc_new _ 1 1 9 [.string (s.extract (k + 1) (k + 1 + c.toNat))] rfl (by decide)) ?h1 ?h2 ?h3 ?h4 ?h5; rotate_right; intro v1 w1 hown1 hg1)
          case h1 => intro u hu; simp at hu; subst hu; rfl
          case h2 => unfold maxLen; omega
          case h3 => omega
          case h4 => simp; omega
          go_roundw
          case rel => exact ⟨k + 1 + c.toNat, ls ++ [l], by go_num, hfit, H4.out, H3.out, by simp; omega, by rw [List.length_append, encS_snoc, ← hex.out]; exact hown1, below_app (HB.out.alloc hgw _) (HO.out.alloc _) hg1 (Nat.le_refl _) (by simp; omega)⟩
          case measure => simp [intOf]; omega
    · have hke : k = s.size := by omega
      have hfin : Hid (Nm.refLab (bl s) = ([], false)) := Go.Lib.hid (by
        refine Nm.refLab_none (Nm.unwire_end HGL.out ?_)
        rw [HP.out, hke, HSZ.out, List.take_length])
      clear hke
      go_wp2
      go_ret2
      exact ⟨_, by rw [hfin.out]; rfl, by rw [hfin.out]; exact SlC.nil _ _, by rw [HG.out]; exact HB.out⟩
set_option maxRecDepth 100000 in
theorem refValid_any (s : ByteArray) (w : World) :
    Calls Try.prog 48 #[.string s] w fun e w' => e = .returned (.bool (Nm.valid (bl s))) ∧ Below w.heap.size w w' := by
  have hl := refLabels_any s w
  have hfin := Go.Lib.hid (Nm.refLab_valid (bl s))
  have HL := Go.Lib.hid hl
  clear hl
  go_enter Try.func48, Try.ntmps48
  go_wp2_with (go_at_call 52; refine HL.out.mono ?_; rintro e w' ⟨v, rfl, _, hb⟩)
  go_ret
  exact ⟨ret_bool hfin.out, hb⟩

theorem low_ref {c : UInt8} (h1 : 65 ≤ (c.toNat : Int)) (h2 : (c.toNat : Int) ≤ 90) : ((Nm.low c).toNat : Int) = (c.toNat : Int) + 32 := by
  rw [low_up h1 h2]; omega

set_option maxRecDepth 100000 in
set_option maxHeartbeats 800000 in
theorem refFold_any (s : ByteArray) (w : World) (hs : s.size ≤ maxLen) :
    Calls Try.prog 49 #[.string s] w fun e w' => e = .returned (.string (mk (Nm.foldN (bl s)))) ∧ Below w.heap.size w w' := by
  have hv := refValid_any s w
  cases hc : Nm.valid (bl s) with
  | false =>
    rw [hc] at hv
    have hfin : Hid (Nm.foldN (bl s) = bl s) := Go.Lib.hid (by simp [Nm.foldN, hc])
    have HV := Go.Lib.hid hv
    clear hv hc hs
    go_enter Try.func49, Try.ntmps49
    go_wp2_with (go_at_call 48; refine HV.out.mono ?_; rintro e w' ⟨rfl, hb⟩)
    go_ret
    exact ⟨ret_str (by rw [hfin.out, mk_bl]), hb⟩
  | true =>
    rw [hc] at hv
    have hfin : Hid (Nm.foldN (bl s) = Nm.foldB (bl s)) := Go.Lib.hid (by simp [Nm.foldN, hc])
    have HV := Go.Lib.hid hv
    clear hv hc
    have hlen := size_bl s
    go_enter Try.func49, Try.ntmps49
    go_wp2_with fail
    refine HV.out.mono ?_
    rintro e w0 ⟨rfl, hb0⟩
    obtain ⟨cap, w1, hrun, hcap, hcm, hrow, hb1, hsz⟩ := run_conv_bytes s hs w0
    unfold maxLen at hs
    have HR := Go.Lib.hid hrow
    have HB := Go.Lib.hid (hb0.trans (hb1.mono hb0.size))
    have hsg := hb0.size
    have HL := Go.Lib.hid hlen
    clear hrow hb0 hb1 hsz hlen
    generalize hg : w0.heap.size = g at *
    have HG := Go.Lib.hid hg
    clear hg
    go_wp2_with fail
    go_loopw [4] (fun i wr => ∃ k : Nat, i = .int .i64 k ∧ k ≤ s.size ∧ Row wr g (encB (half (bl s) k)) ∧ Below w.heap.size w wr) (fun i _ => s.size - (intOf i).toNat)
    case atStart => exact ⟨0, rfl, by omega, by simpa [half, encB] using HR.out, HB.out⟩
    case round =>
      obtain ⟨k, rfl, hk, hrow, hb⟩ := hrel
      by_cases hlt : k < s.size
      · have hkl : k < (bl s).length := by rw [← HL.out]; exact hlt
        have hcell : wr.cell? ⟨g, k, none⟩ = some (.int .u8 ((bl s)[k]'hkl).toNat) := by
          rw [hrow.cell (by simp [encB, half_length]; exact hkl)]
          simp [encB, half_get hkl]
        have hfree : wr.frozen? ⟨g, k, none⟩ = false := hrow.free (by simp [encB, half_length]; exact hkl)
        have hset : Row (wr.setCell ⟨g, k, none⟩ (.int .u8 (Nm.low ((bl s)[k]'hkl)).toNat)) g (encB (half (bl s) (k + 1))) := by
          have := hrow.set k (.int .u8 (Nm.low ((bl s)[k]'hkl)).toNat)
          rw [← half_set hkl]
          unfold encB at this ⊢
          rwa [List.map_set]
        have hsame : Nm.low ((bl s)[k]'hkl) = (bl s)[k]'hkl → half (bl s) (k + 1) = half (bl s) k := half_same hkl
        have HSET := Go.Lib.hid hset
        have HSAME := Go.Lib.hid hsame
        have HROW := Go.Lib.hid hrow
        have HBW := Go.Lib.hid hb
        clear hset hsame hrow hb
        generalize (bl s)[k]'hkl = c at *
        have hcb := c.toNat_lt
        by_cases hup : 65 ≤ (c.toNat : Int) ∧ (c.toNat : Int) ≤ 90
        · obtain ⟨h1, h2⟩ := hup
          have hlow := low_ref h1 h2
          have HLOW := Go.Lib.hid hlow
          clear hlow
          go_wp2
          go_roundw
          case rel => exact ⟨k + 1, by go_num, by omega, by rw [← HLOW.out]; exact HSET.out, HBW.out.setCell (p := ⟨g, k, none⟩) hsg _⟩
          case measure => simp [intOf]; omega
        · have hlow := Go.Lib.hid (HSAME.out (low_no hup))
          have hor : (c.toNat : Int) < 65 ∨ (65 ≤ (c.toNat : Int) ∧ 90 < (c.toNat : Int)) := by omega
          clear hup
          rcases hor with h | ⟨h1, h2⟩
          all_goals
            go_wp2
            go_roundw
            case rel => exact ⟨k + 1, by go_num, by omega, by rw [hlow.out]; exact HROW.out, HBW.out⟩
            case measure => simp [intOf]; omega
      · have hke : k = s.size := by omega
        have hby : Byts wr (.slice (some ⟨g, 0, none⟩) s.size cap) (Nm.foldB (bl s)) := by
          have h1 := hrow.slc (n := s.size) (by simp [encB, half_length, HL.out]) hcap hcm
          rw [hke, HL.out, half_end] at h1
          rw [HL.out]
          unfold Byts
          rw [Nm.foldB_length]
          exact h1
        have hcv := run_conv_string hby
        clear hke hby
        go_wp2
        go_ret
        exact ⟨ret_str (by rw [hfin.out]), hb⟩

theorem eqs' (a b : List UInt8) : ((mk a).toList == (mk b).toList) = (a == b) := by rw [toList_bl, toList_bl, bl_mk, bl_mk]

set_option maxRecDepth 100000 in
theorem refSame_any (s t : ByteArray) (w : World) (hs : s.size ≤ maxLen) (ht : t.size ≤ maxLen) :
    Calls Try.prog 43 #[.string s, .string t] w fun e w' => e = .returned (.bool (Nm.sameN (bl s) (bl t))) ∧ Below w.heap.size w w' := by
  have hv := refValid_any s w
  cases hc : Nm.valid (bl s) with
  | false =>
    rw [hc] at hv
    have hfin : Hid (Nm.sameN (bl s) (bl t) = false) := Go.Lib.hid (by simp [Nm.sameN, hc])
    have HV := Go.Lib.hid hv
    clear hv hc hs ht
    go_enter Try.func43, Try.ntmps43
    go_wp2_with (go_at_call 48; refine HV.out.mono ?_; rintro e w' ⟨rfl, hb⟩)
    go_ret
    exact ⟨ret_bool hfin.out.symm, hb⟩
  | true =>
    cases hd : Nm.valid (bl t) with
    | false =>
      rw [hc] at hv
      have hfin : Hid (Nm.sameN (bl s) (bl t) = false) := Go.Lib.hid (by simp [Nm.sameN, hd])
      have HD := Go.Lib.hid hd
      have HV := Go.Lib.hid hv
      clear hv hc hd hs ht
      go_enter Try.func43, Try.ntmps43
      go_wp2_with fail
      refine HV.out.mono ?_; rintro e w1 ⟨rfl, hb1⟩
      go_wp2_with fail
      refine (refValid_any t w1).mono ?_; rintro e w2 ⟨rfl, hb2⟩
      rw [HD.out]
      go_wp2_with fail
      go_ret
      exact ⟨ret_bool hfin.out.symm, hb1.trans (hb2.mono hb1.size)⟩
    | true =>
      rw [hc] at hv
      have hfin : Hid (Nm.sameN (bl s) (bl t) = (Nm.foldN (bl s) == Nm.foldN (bl t))) := Go.Lib.hid (by simp [Nm.sameN, Nm.foldN, hc, hd])
      have HD := Go.Lib.hid hd
      have HV := Go.Lib.hid hv
      clear hv hc hd
      go_enter Try.func43, Try.ntmps43
      go_wp2_with fail
      refine HV.out.mono ?_; rintro e w1 ⟨rfl, hb1⟩
      go_wp2_with fail
      refine (refValid_any t w1).mono ?_; rintro e w2 ⟨rfl, hb2⟩
      rw [HD.out]
      go_wp2_with fail
      refine (refFold_any s _ hs).mono ?_; rintro e w3 ⟨rfl, hb3⟩
      go_wp2_with fail
      refine (refFold_any t _ ht).mono ?_; rintro e w4 ⟨rfl, hb4⟩
      go_wp2_with fail
      go_ret
      have z1 := hb1.size
      have z2 := hb2.size
      have z3 := hb3.size
      exact ⟨ret_bool (by rw [hfin.out, eqs']), ((hb1.trans (hb2.mono z1)).trans (hb3.mono (by omega))).trans (hb4.mono (by omega))⟩

end Go.Proofs.Ytblbphnmflbepaa

