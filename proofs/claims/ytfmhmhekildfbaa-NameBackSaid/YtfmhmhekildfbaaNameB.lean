/- The contracts of name.labels, Count, Parent, Under: what each returns, at every text that memory bears. -/
import Derived.Test.YtfmhmhekildfbaaRefA
namespace Go.Proofs.Ytfmhmhekildfbaa
open Go.RowKit

def szOf : Value → Nat
  | .string s => s.size
  | _ => 0

def RetOwn (w : World) (ls : List (List UInt8)) (e : Ending) (w' : World) : Prop := ∃ v, e = .returned v ∧ w'.ownsRow w.heap.size 9 1 v ls.length (encS ls) ∧ Below w.heap.size w w'

theorem wire_get {l : List UInt8} {r : List (List UInt8)} {s : ByteArray} (hs : bl s = Nm.wire (l :: r)) (hg : Nm.GoodL (l :: r)) :
    ∃ h : 0 < s.size, (s[0]).toNat = l.length ∧ 1 + l.length ≤ s.size ∧ s.extract 1 (1 + l.length) = mk l ∧ s.extract (1 + l.length) s.size = mk (Nm.wire r) ∧ s.size = 1 + l.length + (Nm.wire r).length := by
  have hsz : s.size = 1 + l.length + (Nm.wire r).length := by rw [size_bl, hs, Nm.wire_cons]; simp; omega
  have h0 : 0 < s.size := by omega
  obtain ⟨⟨_, h63⟩, _⟩ := Nm.good_cons.1 hg
  refine ⟨h0, ?_, by omega, ?_, ?_, hsz⟩
  · have h1 := getq h0
    rw [hs, Nm.wire_cons] at h1
    simp only [List.getElem?_cons_zero, Option.some.injEq] at h1
    rw [← h1]
    exact Nm.ofNat_toNat h63
  · rw [extract_mk, hs, Nm.wire_cons]
    simp
  · rw [extract_mk, hs, Nm.wire_cons, hsz]
    congr 1
    rw [show 1 + l.length = l.length + 1 from by omega, List.drop_succ_cons, List.drop_left]
    exact List.take_of_length_le (by omega)

set_option maxRecDepth 100000 in
set_option maxHeartbeats 1000000 in
theorem labels_own (s : ByteArray) (w : World) (hs : s.size ≤ maxLen) :
    Calls Try.prog 41 #[.string s] w (RetOwn w (Nm.labs (bl s))) := by
  have hv := valid_any s w hs
  cases hc : Nm.valid (bl s) with
  | false =>
    rw [hc] at hv
    have hfin := Go.Lib.hid (Nm.labs_not hc)
    have HV := Go.Lib.hid hv
    clear hv hc hs
    go_enter Try.func41, Try.ntmps41
    go_wp2_with (go_at_call 15; refine HV.out.mono ?_; rintro e w' ⟨rfl, rfl⟩)
    go_ret
    exact ⟨_, rfl, by rw [hfin.out]; exact World.ownsRow_nil _ _ _ _, Below.refl _ _⟩
  | true =>
    rw [hc] at hv
    have HLV := Go.Lib.hid (Nm.labs_valid hc)
    have HV := Go.Lib.hid hv
    clear hv hc hs
    generalize hg : w.heap.size = g at *
    have HG := Go.Lib.hid hg
    clear hg
    go_enter Try.func41, Try.ntmps41
    go_wp2_with (go_at_call 15; refine HV.out.mono ?_; rintro e w' ⟨rfl, rfl⟩)
    go_loopw [2, 0, 3] (fun v n _ wr => ∃ (done rest : List (List UInt8)) (s1 : ByteArray), n = .string s1 ∧ bl s1 = Nm.wire rest ∧ Nm.GoodL rest ∧ Nm.labs (bl s) = done ++ rest ∧ s1.size ≤ 255 ∧ done.length ≤ 255 ∧
        wr.ownsRow g 9 1 v done.length (encS done) ∧ Below g w wr)
      (fun _ n _ _ => szOf n)
    case atStart =>
      refine ⟨[], Nm.labs (bl s), s, rfl, HLV.out.1, HLV.out.2.1, rfl, by rw [size_bl]; exact HLV.out.2.2, by simp, World.ownsRow_nil _ _ _ _, Below.refl _ _⟩
    case round =>
      obtain ⟨done, rest, s1, rfl, hs1, hgr, hl, hsz, hdl, hown, hb⟩ := hrel
      have HO := Go.Lib.hid hown
      have HB := Go.Lib.hid hb
      have HL := Go.Lib.hid hl
      have hgw : g ≤ wr.heap.size := by have := HB.out.size; rw [HG.out] at this; exact this
      cases rest with
      | nil =>
        have h1 : (s1.toList == [0]) = true := by rw [toList_bl, hs1]; rfl
        clear hown hb hl hs1 hgr
        go_wp2
        go_ret
        exact ⟨_, rfl, by rw [HL.out, List.append_nil, HG.out]; exact HO.out, by rw [HG.out]; exact HB.out⟩
      | cons l rest =>
        have h1 : (s1.toList == [0]) = false := by rw [toList_bl, hs1, beq_eq_false_iff_ne]; exact Nm.wire_ne_root
        obtain ⟨h0, hc0, hfit, he1, he2, hsz2⟩ := wire_get hs1 hgr
        have hgl := Nm.good_cons.1 hgr
        have hll := hgl.1
        have hlen1 : done.length + 1 ≤ 255 := by
          have h5 := HL.out
          have h6 := Nm.wire_length_gt (Nm.labs (bl s))
          have h7 := HLV.out.1
          have h8 := HLV.out.2.2
          rw [h7] at h8
          rw [h5, List.length_append, List.length_cons] at h6
          rw [h5] at h8
          omega
        generalize hcc : s1[0] = c at hc0
        have hcb := c.toNat_lt
        have HC0 := Go.Lib.hid hc0
        rw [← hc0] at hfit he1 he2
        have HE1 := Go.Lib.hid he1
        have HE2 := Go.Lib.hid he2
        have HSZ2 := Go.Lib.hid hsz2
        have HGR := Go.Lib.hid hgl.2
        clear hown hb hl hs1 hgr he1 he2 hc0 hsz2 hgl
        go_wp2_with fail
        have p1 : 0 ≤ 1 + (c.toNat : Int) := by omega
        have p2 : 1 + (c.toNat : Int) ≤ (s1.size : Int) := by omega
        have p3 : (1 : Int) ≤ 1 + (c.toNat : Int) := by omega
        have p4 : (1 + (c.toNat : Int)).toNat = 1 + c.toNat := by omega
        refine Go.Mix.wp_region_mix (Es := [4, 5]) (fun _ => True) mixed (by kernel_rfl) trivial (fun _ => ?_)
        iterate 4 (refine Go.Mix.mix_step rfl (fun K hK => ?_); go_simp; refine hK _ _ ?_; clear hK K)
        (refine Go.Mix.mix_eff rfl (fun K hK => ?_); go_simp; refine hK _ _ trivial ?_; clear hK K)
        refine mix_app eiS (.tmp 13) (.tmp 17) rfl rfl rfl g rfl rfl ((HO.out.drew).alloc _) (slc_new _ 1 1 9 [.string (s1.extract 1 (1 + c.toNat))] rfl (by decide)).drew ?h1 ?h2 ?h3 ?h4 ?h5
        case h1 => intro u hu; simp at hu; subst hu; rfl
        case h2 => unfold maxLen; omega
        case h3 => omega
        case h4 => simp; omega
        intro v1 w1 hown1 hg1
        refine ⟨trivial, ?_⟩
        have hown2 : w1.ownsRow g 9 1 v1 (done ++ [l]).length (encS (done ++ [l])) := by
          rw [List.length_append, encS_snoc, ← HE1.out]; exact hown1
        have hb2 : Below g w w1 := below_app (HB.out.drew.alloc hgw _) ((HO.out.drew).alloc _) hg1 (Nat.le_refl _) (by simp; omega)
        have HO2 := Go.Lib.hid hown2
        have HB2 := Go.Lib.hid hb2
        clear hown1 hg1 hown2 hb2
        iterate 5 (refine Go.Mix.mix_step rfl (fun K hK => ?_); go_simp; refine hK _ _ ?_; clear hK K)
        refine Go.Mix.mix_nil ?_
        go_wp2_with fail
        go_roundw
        case rel => exact ⟨done ++ [l], rest, s1.extract (1 + c.toNat) s1.size, rfl, by rw [HE2.out, bl_mk], HGR.out, by rw [HL.out]; simp, by rw [HE2.out, size_mk]; have := HSZ2.out; omega, by simp; omega, HO2.out, HB2.out⟩
        case measure =>
          simp [szOf]
          omega

theorem labels_any (s : ByteArray) (w : World) (hs : s.size ≤ maxLen) :
    Calls Try.prog 41 #[.string s] w (RetStrs w (Nm.labs (bl s))) := by
  refine (labels_own s w hs).mono ?_
  rintro e w' ⟨v, rfl, h1, h2⟩
  exact ⟨v, rfl, strs_owned h1, h2⟩

set_option maxRecDepth 100000 in
theorem Count_any (s : ByteArray) (w : World) (hs : s.size ≤ maxLen) :
    Calls Try.prog 18 #[.string s] w fun e w' => e = .returned (.int .i64 (Nm.labs (bl s)).length) ∧ Below w.heap.size w w' := by
  have hl := labels_any s w hs
  have HL := Go.Lib.hid hl
  clear hl hs
  generalize (Nm.labs (bl s)) = ls at *
  go_enter Try.func18, Try.ntmps18
  go_wp2_with fail
  refine HL.out.mono ?_
  rintro e w1 ⟨v, rfl, hst, hb⟩
  obtain ⟨a, cap, rfl, _, _⟩ := hst.slice
  clear hst
  go_wp2_with fail
  go_ret
  exact ⟨rfl, hb⟩

theorem labs_le (s : List UInt8) : (Nm.labs s).length ≤ 255 := by
  rcases Nm.valid_cases s with ⟨_, h⟩ | ⟨_, h, _, h3⟩
  · rw [h]; simp
  · have := Nm.wire_length_gt (Nm.labs s)
    rw [← h] at this
    omega

theorem mk_root : mk [0] = ⟨#[0]⟩ := rfl

set_option maxRecDepth 100000 in
theorem Parent_any (s : ByteArray) (w : World) (hs : s.size ≤ maxLen) :
    Calls Try.prog 21 #[.string s] w fun e w' => e = .returned (.string (mk (Nm.parentN (bl s)))) ∧ w = w' := by
  have hv := valid_any s w hs
  cases hc : Nm.valid (bl s) with
  | false =>
    rw [hc] at hv
    have hfin : Hid (mk (Nm.parentN (bl s)) = ⟨#[0]⟩) := Go.Lib.hid (by unfold Nm.parentN; rw [Nm.labs_not hc]; rfl)
    have HV := Go.Lib.hid hv
    clear hv hc hs
    go_enter Try.func21, Try.ntmps21
    go_wp2_with (go_at_call 15; refine HV.out.mono ?_; rintro e w' ⟨rfl, rfl⟩)
    go_ret
    exact ⟨ret_str hfin.out.symm, rfl⟩
  | true =>
    rw [hc] at hv
    have HV := Go.Lib.hid hv
    obtain ⟨h1, h2, h3⟩ := Nm.labs_valid hc
    cases hl : Nm.labs (bl s) with
    | nil =>
      have hfin : Hid (mk (Nm.parentN (bl s)) = ⟨#[0]⟩) := Go.Lib.hid (by unfold Nm.parentN; rw [hl]; rfl)
      have heq : (s.toList == [0]) = true := by rw [toList_bl, h1, hl]; rfl
      clear hv hc hs h1 h2 h3 hl
      go_enter Try.func21, Try.ntmps21
      go_wp2_with (go_at_call 15; refine HV.out.mono ?_; rintro e w' ⟨rfl, rfl⟩)
      go_ret
      exact ⟨ret_str hfin.out.symm, rfl⟩
    | cons l r =>
      rw [hl] at h1 h2
      have heq : (s.toList == [0]) = false := by rw [toList_bl, h1, beq_eq_false_iff_ne]; exact Nm.wire_ne_root
      obtain ⟨h0, hc0, hfit, _, he2, hsz2⟩ := wire_get h1 h2
      have hfin : Hid (mk (Nm.parentN (bl s)) = s.extract (1 + l.length) s.size) := Go.Lib.hid (by unfold Nm.parentN; rw [hl, he2]; rfl)
      generalize hcc : s[0] = c at hc0
      have hcb := c.toNat_lt
      rw [← hc0] at hfin hfit
      clear hv hc hs h1 h2 h3 hl he2 hsz2 hc0
      have p2 : 1 + (c.toNat : Int) ≤ (s.size : Int) := by omega
      go_enter Try.func21, Try.ntmps21
      go_wp2_with (go_at_call 15; refine HV.out.mono ?_; rintro e w' ⟨rfl, rfl⟩)
      go_ret
      exact ⟨ret_str hfin.out.symm, rfl⟩

set_option maxRecDepth 100000 in
set_option maxHeartbeats 1000000 in
theorem Under_any (s t : ByteArray) (w : World) (hs : s.size ≤ maxLen) (ht : t.size ≤ maxLen) :
    Calls Try.prog 30 #[.string s, .string t] w fun e w' => e = .returned (.bool (Nm.underN (bl s) (bl t))) ∧ Below w.heap.size w w' := by
  have hv := valid_any s
  have hu := valid_any t
  have hls := labs_le (bl s)
  have hlt := labs_le (bl t)
  have HV := Go.Lib.hid hv
  have HU := Go.Lib.hid hu
  have HS := Go.Lib.hid hs
  have HT := Go.Lib.hid ht
  clear hv hu hs ht
  have hfin : Hid (Nm.valid (bl s) = false ∨ Nm.valid (bl t) = false ∨ (Nm.labs (bl s)).length < (Nm.labs (bl t)).length → Nm.underN (bl s) (bl t) = false) := Go.Lib.hid (by
    rintro (h | h | h)
    · simp [Nm.underN, h]
    · simp [Nm.underN, h]
    · exact Nm.under_short h)
  have hyes : Hid (Nm.valid (bl s) = true → Nm.valid (bl t) = true → (Nm.labs (bl t)).length ≤ (Nm.labs (bl s)).length → Nm.sameN (Nm.parents ((Nm.labs (bl s)).length - (Nm.labs (bl t)).length) (bl s)) (bl t) = Nm.underN (bl s) (bl t)) :=
    Go.Lib.hid Nm.under_parents
  generalize hA : Nm.valid (bl s) = va at *
  generalize hB : Nm.valid (bl t) = vb at *


  have HA := Go.Lib.hid hA
  have HB := Go.Lib.hid hB
  have hcs := Count_any s w HS.out
  generalize hNS : (Nm.labs (bl s)).length = ns at *
  have HCS := Go.Lib.hid hcs
  have hct := fun w => Count_any t w HT.out
  generalize hNT : (Nm.labs (bl t)).length = nt at *
  have HCT := Go.Lib.hid hct
  clear hA hB hNS hNT hcs hct
  have hpl : ∀ k, (Nm.parents k (bl s)).length ≤ maxLen := fun k => by
    have := Nm.parents_length k (bl s)
    have h2 := HS.out
    rw [size_bl] at h2
    unfold maxLen at *
    omega
  have HPL := Go.Lib.hid hpl
  clear hpl
  cases va with
  | false =>
    go_enter Try.func30, Try.ntmps30
    go_wp2_with fail
    refine HCS.out.mono ?_; rintro e w1 ⟨rfl, hb1⟩
    go_wp2_with fail
    refine (HCT.out w1).mono ?_; rintro e w2 ⟨rfl, hb2⟩
    go_wp2_with fail
    refine (HV.out w2 HS.out).mono ?_; rintro e w' ⟨rfl, rfl⟩
    go_wp2_with fail
    go_ret
    exact ⟨ret_bool (hfin.out (by first | exact .inl HA.out | simp)).symm, hb1.trans (hb2.mono hb1.size)⟩
  | true =>
    cases vb with
    | false =>
      go_enter Try.func30, Try.ntmps30
      go_wp2_with fail
      refine HCS.out.mono ?_; rintro e w1 ⟨rfl, hb1⟩
      go_wp2_with fail
      refine (HCT.out w1).mono ?_; rintro e w2 ⟨rfl, hb2⟩
      go_wp2_with fail
      refine (HV.out w2 HS.out).mono ?_; rintro e w' ⟨rfl, rfl⟩
      go_wp2_with fail
      refine (HU.out w2 HT.out).mono ?_; rintro e w' ⟨rfl, rfl⟩
      go_wp2_with fail
      go_ret
      exact ⟨ret_bool (hfin.out (by first | exact .inr (.inl HB.out) | simp)).symm, hb1.trans (hb2.mono hb1.size)⟩
    | true =>
      by_cases hk : nt ≤ ns
      · go_enter Try.func30, Try.ntmps30
        go_wp2_with fail
        refine HCS.out.mono ?_; rintro e w1 ⟨rfl, hb1⟩
        go_wp2_with fail
        refine (HCT.out w1).mono ?_; rintro e w2 ⟨rfl, hb2⟩
        go_wp2_with fail
        refine (HV.out w2 HS.out).mono ?_; rintro e w' ⟨rfl, rfl⟩
        go_wp2_with fail
        refine (HU.out w2 HT.out).mono ?_; rintro e w' ⟨rfl, rfl⟩
        go_wp2_with fail
        have HBW := Go.Lib.hid (hb1.trans (hb2.mono hb1.size))
        clear hb1 hb2
        go_loop [0, 24] (fun n i => ∃ k : Nat, i = .int .i64 k ∧ k ≤ ns - nt ∧ n = .string (mk (Nm.parents k (bl s)))) (fun _ i => (ns - nt) - (intOf i).toNat)
        case atStart => exact ⟨0, rfl, by omega, by simp [Nm.parents, mk_bl]⟩
        case round =>
          obtain ⟨k, rfl, hkk, rfl⟩ := hrel
          have hp := HPL.out k
          by_cases hlt2 : k < ns - nt
          · have hpar : ∀ w, _ := fun w => Parent_any (mk (Nm.parents k (bl s))) w (by rw [size_mk]; exact hp)
            have hsucc : Hid (Nm.parentN (bl (mk (Nm.parents k (bl s)))) = Nm.parents (k + 1) (bl s)) := Go.Lib.hid (by rw [bl_mk, Nm.parents_succ])
            have HPAR := Go.Lib.hid hpar
            clear hpar hp
            generalize mk (Nm.parents k (bl s)) = x at *
            have h5 : (k : Int) < (ns : Int) - nt := by omega
            go_wp2_with fail
            refine (HPAR.out _).mono ?_
            rintro e w' ⟨rfl, rfl⟩
            rw [hsucc.out]
            go_wp2_with fail
            go_round
            case rel => exact ⟨k + 1, by go_num, by omega, rfl⟩
            case measure => simp [intOf]; omega
          · have hke : k = ns - nt := by omega
            have hsame : Hid (Nm.sameN (bl (mk (Nm.parents k (bl s)))) (bl t) = Nm.underN (bl s) (bl t)) := Go.Lib.hid (by rw [bl_mk, hke]; exact hyes.out (by first | exact HA.out | simp) (by first | exact HB.out | simp) hk)
            have hsm := Same_any (mk (Nm.parents k (bl s))) t w2 (by rw [size_mk]; exact hp) HT.out
            have HSM := Go.Lib.hid hsm
            clear hsm hp hke
            generalize mk (Nm.parents k (bl s)) = x at *
            have h5 : (ns : Int) - nt ≤ (k : Int) := by omega
            go_wp2_with fail
            refine HSM.out.mono ?_
            rintro e w' ⟨rfl, hb3⟩
            go_wp2_with fail
            go_ret
            exact ⟨ret_bool hsame.out, HBW.out.trans (hb3.mono HBW.out.size)⟩
      · have hk' : (ns : Int) - nt < 0 := by omega
        go_enter Try.func30, Try.ntmps30
        go_wp2_with fail
        refine HCS.out.mono ?_; rintro e w1 ⟨rfl, hb1⟩
        go_wp2_with fail
        refine (HCT.out w1).mono ?_; rintro e w2 ⟨rfl, hb2⟩
        go_wp2_with fail
        refine (HV.out w2 HS.out).mono ?_; rintro e w' ⟨rfl, rfl⟩
        go_wp2_with fail
        refine (HU.out w2 HT.out).mono ?_; rintro e w' ⟨rfl, rfl⟩
        go_wp2_with fail
        go_ret
        exact ⟨ret_bool (hfin.out (.inr (.inr (by omega)))).symm, hb1.trans (hb2.mono hb1.size)⟩
end Go.Proofs.Ytfmhmhekildfbaa

