/- The contracts of name.Less, Common, Join: what each returns, at every text and labels that memory bears. -/
import Derived.Test.YtfmhmhekildfbaaNameC
import Derived.Test.YtfmhmhekildfbaaBld
import Derived.Test.YtfmhmhekildfbaaNmB
namespace Go.Proofs.Ytfmhmhekildfbaa
open Go.RowKit

def strOf : Value → ByteArray
  | .string s => s
  | _ => ⟨#[]⟩

set_option maxRecDepth 100000 in
set_option maxHeartbeats 1000000 in
theorem Less_any (s t : ByteArray) (w : World) (hs : s.size ≤ maxLen) (ht : t.size ≤ maxLen) :
    Calls Try.prog 32 #[.string s, .string t] w fun e w' => e = .returned (.bool (Nm.lessN (bl s) (bl t))) ∧ Below w.heap.size w w' := by
  have hv := valid_any s w hs
  have hu := valid_any t w ht
  have ho := order_any s w hs
  have ho2 := fun w => order_any t w ht
  have hl1 := labs_le (bl s)
  have hl2 := labs_le (bl t)
  have hfin : Hid (Nm.lessN (bl s) (bl t) = (Nm.valid (bl s) && Nm.valid (bl t) && decide (Nm.cmpL (Nm.orderF (Nm.labs (bl s))) (Nm.orderF (Nm.labs (bl t))) < 0))) := Go.Lib.hid rfl
  have hx1 : (Nm.orderF (Nm.labs (bl s))).length ≤ 255 := by simp [Nm.orderF]; exact hl1
  have hx2 : (Nm.orderF (Nm.labs (bl t))).length ≤ 255 := by simp [Nm.orderF]; exact hl2
  have HV := Go.Lib.hid hv
  have HU := Go.Lib.hid hu
  have HO := Go.Lib.hid ho
  have HO2 := Go.Lib.hid ho2
  clear hs ht hv hu ho ho2 hl1 hl2
  generalize Nm.lessN (bl s) (bl t) = res at *
  generalize Nm.valid (bl s) = va at *
  generalize Nm.valid (bl t) = vb at *
  generalize (Nm.orderF (Nm.labs (bl s))) = x at *
  generalize (Nm.orderF (Nm.labs (bl t))) = y at *
  cases va with
  | false =>
    go_enter Try.func32, Try.ntmps32
    go_wp2_with fail
    refine HV.out.mono ?_; rintro e w' ⟨rfl, rfl⟩
    go_wp2_with fail
    go_ret
    exact ⟨ret_bool hfin.out.symm, Below.refl _ _⟩
  | true =>
    cases vb with
    | false =>
      go_enter Try.func32, Try.ntmps32
      go_wp2_with fail
      refine HV.out.mono ?_; rintro e w' ⟨rfl, rfl⟩
      go_wp2_with fail
      refine HU.out.mono ?_; rintro e w' ⟨rfl, rfl⟩
      go_wp2_with fail
      go_ret
      exact ⟨ret_bool hfin.out.symm, Below.refl _ _⟩
    | true =>
      go_enter Try.func32, Try.ntmps32
      go_wp2_with fail
      refine HV.out.mono ?_; rintro e w' ⟨rfl, rfl⟩
      go_wp2_with fail
      refine HU.out.mono ?_; rintro e w' ⟨rfl, rfl⟩
      go_wp2_with fail
      refine HO.out.mono ?_; rintro e w1 ⟨v1, rfl, hs1, hb1⟩
      go_wp2_with fail
      refine (HO2.out w1).mono ?_; rintro e w2 ⟨v2, rfl, hs2, hb2⟩
      obtain ⟨a1, c1, rfl, _, _⟩ := hs1.slice
      obtain ⟨a2, c2, rfl, _, _⟩ := hs2.slice
      have hcmp := compare_any x y a1 a2 c1 c2 w2 (hs1.below hb2 (Nat.le_refl _)) hs2 (by omega) (by omega)
      have HCMP := Go.Lib.hid hcmp
      have HB := Go.Lib.hid (hb1.trans (hb2.mono hb1.size))
      clear hs1 hs2 hb1 hb2 hcmp
      generalize Nm.cmpL x y = cc at *
      go_wp2_with fail
      refine HCMP.out.mono ?_; rintro e w' ⟨rfl, rfl⟩
      by_cases hc : cc < 0
      · go_wp2_with fail
        go_ret
        exact ⟨ret_bool (by rw [hfin.out]; simp [hc]), HB.out⟩
      · go_wp2_with fail
        go_ret
        exact ⟨ret_bool (by rw [hfin.out]; simp), HB.out⟩

set_option maxRecDepth 100000 in
set_option maxHeartbeats 1000000 in
theorem Common_any (s t : ByteArray) (w : World) (hs : s.size ≤ maxLen) (ht : t.size ≤ maxLen) :
    Calls Try.prog 34 #[.string s, .string t] w fun e w' => e = .returned (.string (mk (Nm.commonN (bl s) (bl t)))) ∧ Below w.heap.size w w' := by
  have hv := valid_any s w hs
  have hu := valid_any t w ht
  have HV := Go.Lib.hid hv
  have HU := Go.Lib.hid hu
  have HT := Go.Lib.hid ht
  clear hs ht hv hu
  cases ha : Nm.valid (bl s) with
  | false =>
    have hfin : Hid (mk (Nm.commonN (bl s) (bl t)) = ⟨#[0]⟩) := Go.Lib.hid (by unfold Nm.commonN; rw [ha]; rfl)
    rw [ha] at HV
    clear ha
    go_enter Try.func34, Try.ntmps34
    go_wp2_with fail
    refine HV.out.mono ?_; rintro e w' ⟨rfl, rfl⟩
    go_wp2_with fail
    go_ret
    exact ⟨ret_str hfin.out.symm, Below.refl _ _⟩
  | true =>
    rw [ha] at HV
    cases hb : Nm.valid (bl t) with
    | false =>
      have hfin : Hid (mk (Nm.commonN (bl s) (bl t)) = ⟨#[0]⟩) := Go.Lib.hid (by unfold Nm.commonN; rw [hb, Bool.and_false]; rfl)
      rw [hb] at HU
      clear ha hb
      go_enter Try.func34, Try.ntmps34
      go_wp2_with fail
      refine HV.out.mono ?_; rintro e w' ⟨rfl, rfl⟩
      go_wp2_with fail
      refine HU.out.mono ?_; rintro e w' ⟨rfl, rfl⟩
      go_wp2_with fail
      go_ret
      exact ⟨ret_str hfin.out.symm, Below.refl _ _⟩
    | true =>
      rw [hb] at HU
      have hfin : Hid (Nm.commonN (bl s) (bl t) = Nm.wire (Nm.commonL (Nm.labs (bl s)) ((Nm.labs (bl t)).map Nm.foldB))) := Go.Lib.hid (by unfold Nm.commonN; rw [ha, hb]; rfl)
      have HA := Go.Lib.hid ha
      have HB := Go.Lib.hid hb
      clear ha hb
      go_enter Try.func34, Try.ntmps34
      go_wp2_with fail
      refine HV.out.mono ?_; rintro e w' ⟨rfl, rfl⟩
      go_wp2_with fail
      refine HU.out.mono ?_; rintro e w' ⟨rfl, rfl⟩
      go_wp2_with fail
      go_loopw [0] (fun a wr => ∃ x : List UInt8, a = .string (mk x) ∧ Nm.valid x = true ∧ Nm.commonL (Nm.labs x) ((Nm.labs (bl t)).map Nm.foldB) = Nm.commonL (Nm.labs (bl s)) ((Nm.labs (bl t)).map Nm.foldB) ∧ Below w.heap.size w wr)
        (fun a _ => (Nm.labs (bl (strOf a))).length)
      case atStart => exact ⟨bl s, by rw [mk_bl], HA.out, rfl, Below.refl _ _⟩
      case round =>
        obtain ⟨x, rfl, hvx, hcx, hbx⟩ := hrel
        have hxl := (Nm.labs_valid hvx).2.2
        have hxs : (mk x).size ≤ maxLen := by rw [size_mk]; unfold maxLen; omega
        have hund := Under_any t (mk x) wr HT.out hxs
        have hpar := fun w => Parent_any (mk x) w hxs
        have hlabp := Nm.labs_parent x
        have hvalp := Nm.valid_parent (s := x)
        rw [bl_mk] at hund hpar
        have hgo : Hid (Nm.underN (bl t) x = false → Nm.labs x ≠ [] ∧ Nm.commonL (Nm.labs x) ((Nm.labs (bl t)).map Nm.foldB) = Nm.commonL (Nm.labs x).tail ((Nm.labs (bl t)).map Nm.foldB)) := Go.Lib.hid (fun h => by
          unfold Nm.underN at h
          rw [HB.out, hvx] at h
          exact Nm.commonL_go (by simpa using h))
        have hstop : Hid (Nm.underN (bl t) x = true → mk x = mk (Nm.commonN (bl s) (bl t))) := Go.Lib.hid (fun h => by
          unfold Nm.underN at h
          rw [HB.out, hvx] at h
          have h2 := Nm.commonL_stop (ls := Nm.labs x) (b := (Nm.labs (bl t)).map Nm.foldB) (by simpa using h)
          rw [hfin.out, ← hcx, h2, ← (Nm.labs_valid hvx).1])
        have HUND := Go.Lib.hid hund
        have HPAR := Go.Lib.hid hpar
        have HLP := Go.Lib.hid hlabp
        have HVP := Go.Lib.hid hvalp
        have HCX := Go.Lib.hid hcx
        have HBX := Go.Lib.hid hbx
        clear hund hpar hcx hbx hvx hxl hxs hlabp hvalp
        cases hres : Nm.underN (bl t) x with
        | true =>
          rw [hres] at HUND hstop hgo
          clear hres
          go_wp2_with fail
          refine HUND.out.mono ?_; rintro e w2 ⟨rfl, hb2⟩
          go_wp2_with fail
          go_ret
          exact ⟨ret_str (hstop.out (by simp)), HBX.out.trans (hb2.mono HBX.out.size)⟩
        | false =>
          rw [hres] at HUND hstop hgo
          clear hres
          go_wp2_with fail
          refine HUND.out.mono ?_; rintro e w2 ⟨rfl, hb2⟩
          go_wp2_with fail
          refine (HPAR.out _).mono ?_; rintro e w' ⟨rfl, rfl⟩
          have HB2 := Go.Lib.hid hb2
          clear hb2
          have hgo2 := hgo.out (by simp)
          go_wp2_with fail
          go_roundw
          case rel => exact ⟨Nm.parentN x, rfl, HVP.out, by rw [HLP.out, ← hgo2.2, HCX.out], HBX.out.trans (HB2.out.mono HBX.out.size)⟩
          case measure =>
            simp only [strOf, bl_mk, HLP.out, List.length_tail]
            have := List.length_pos_iff.2 hgo2.1
            omega
end Go.Proofs.Ytfmhmhekildfbaa

