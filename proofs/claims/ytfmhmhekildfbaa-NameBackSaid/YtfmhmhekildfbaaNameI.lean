/- The contract of name.Parse: the name whose text it is. Condition: the text has at most 100000 bytes. -/
import Derived.Test.YtfmhmhekildfbaaNameH
namespace Go.Proofs.Ytfmhmhekildfbaa
open Go.RowKit

theorem eiB : EI Try.prog 44 5 1 1 := ei_of u_bytes byte_info rfl (by decide)
theorem encB_snoc (l : List UInt8) (c : UInt8) : encB (l ++ [c]) = encB l ++ [.int .u8 c.toNat] := by simp [encB]
theorem byts_owned {w : World} {g : Nat} {v : Value} {l : List UInt8} (h : w.ownsRow g 5 1 v l.length (encB l)) : Byts w v l := SlC.of_owns h

/-- rows of different types lie in different blocks -/
theorem owns_apart {w : World} {b1 b2 e1 e2 n1 n2 : Nat} {v1 v2 : Value} {xs1 xs2 : List Value} (h1 : w.ownsRow b1 e1 1 v1 n1 xs1) (h2 : w.ownsRow b2 e2 1 v2 n2 xs2) (he : e2 ≠ e1) : v1.ownBlock = none ∨ v1.ownBlock ≠ v2.ownBlock := by
  rcases h2.2 with ⟨rfl, _⟩ | ⟨g, cap, cur, rfl, _, hg, _⟩
  · rcases h1.2 with ⟨rfl, _⟩ | ⟨g1, c1, cur1, rfl, _⟩
    · exact .inl rfl
    · exact .inr (by simp [Value.ownBlock])
  · exact .inr (Lib.ownBlock_ne h1 hg he)

/-- the worlds in which a slice of bytes is that text -/
def ConvIs (v : Value) (l : List UInt8) (w : World) : Prop := (convert 44 9 v).run Try.prog w = .ok (.string (mk l)) w

set_option maxRecDepth 100000 in
set_option maxHeartbeats 4000000 in
theorem Parse_any (s : ByteArray) (w : World) (hs : s.size ≤ 100000) :
    Calls Try.prog 13 #[.string s] w fun e w' => e = nameEnd (Nm.parseN (bl s)) ∧ Below w.heap.size w w' := by
  have hsz := size_bl s
  by_cases hdot : bl s = [46]
  · have hfin : Hid (Nm.parseN (bl s) = some [0]) := Go.Lib.hid (by unfold Nm.parseN Nm.parseW; rw [if_pos hdot])
    have h1 : (s.toList == [46]) = true := by rw [toList_bl, hdot]; rfl
    clear hdot hs hsz
    go_enter Try.func13, Try.ntmps13
    go_wp2_with fail
    go_ret2
    exact ⟨nameEnd_some hfin.out, Below.refl _ _⟩
  · have h1 : (s.toList == [46]) = false := by rw [toList_bl, beq_eq_false_iff_ne]; exact hdot
    have hfin : Hid (Nm.parseN (bl s) = (Nm.joinN (Nm.candOf Nm.takeB [] [] (bl s))).bind fun n => if Nm.textN n = bl s then some n else none) := Go.Lib.hid (by unfold Nm.parseN Nm.parseW; rw [if_neg hdot])
    have HSZ := Go.Lib.hid hsz
    have hss := mk_bl s
    have HSS := Go.Lib.hid hss
    clear hdot hss hsz
    generalize hg : w.heap.size = g at *
    have HG := Go.Lib.hid hg
    clear hg
    go_enter Try.func13, Try.ntmps13
    go_wp2_with fail
    go_loopw [4, 5, 6] (fun v4 v5 v6 wr => ∃ (ls : List (List UInt8)) (now rest : List UInt8), v6 = .string (mk rest) ∧ Nm.candOf Nm.takeB ls now rest = Nm.candOf Nm.takeB [] [] (bl s) ∧
        ls.length + now.length + rest.length ≤ s.size ∧ (∀ l ∈ ls, l.length ≤ s.size) ∧ wr.ownsRow g 9 1 v4 ls.length (encS ls) ∧ wr.ownsRow g 5 1 v5 now.length (encB now) ∧ Below g w wr)
      (fun _ _ v _ => szOf v)
    case atStart => exact ⟨[], [], bl s, by rw [mk_bl], rfl, by simpa using Nat.le_of_eq HSZ.out.symm, by simp, World.ownsRow_nil _ _ _ _, World.ownsRow_nil _ _ _ _, Below.refl _ _⟩
    case round =>
      obtain ⟨ls, now, rest, rfl, hcand, hlen, hall, hown4, hown5, hb⟩ := hrel
      have hgw : g ≤ wr.heap.size := by have := hb.size; rw [HG.out] at this; exact this
      have HC := Go.Lib.hid hcand
      have HA := Go.Lib.hid hall
      have HO4 := Go.Lib.hid hown4
      have HO5 := Go.Lib.hid hown5
      have HB := Go.Lib.hid hb
      clear hcand hall hown4 hown5 hb
      cases rest with
      | cons c r =>
        have hne : ((mk (c :: r)).toList == []) = false := by rw [toList_bl, bl_mk]; rfl
        have hs0 := size_mk (c :: r)
        have h0 : 0 < (mk (c :: r)).size := by rw [hs0]; simp
        have hg0 := get_mk h0
        rw [List.getD_cons_zero] at hg0
        have HS0 := Go.Lib.hid hs0
        rw [List.length_cons] at hlen
        by_cases hc : c.toNat = 46
        · have e1 : ((c.toNat : Int) == 46) = true := by rw [hc]; rfl
          have hstep := Nm.candOf_dot (tk := Nm.takeB) ls now r hc
          rw [HC.out] at hstep
          have HST := Go.Lib.hid hstep
          have hex := extract_mk_drop (c :: r) 1
          rw [List.drop_succ_cons, List.drop_zero] at hex
          have q1 : (1 : Int) ≤ ((mk (c :: r)).size : Int) := by rw [hs0]; simp; omega
          clear hstep hc hs0
          go_wp2_with fail
          refine Go.Mix.wp_region_mix (Es := [3, 4]) (ConvIs u5 now) mixed (by kernel_rfl) (run_conv_string (byts_owned HO5.out.drew)) (fun _ => ?_)
          have hconv : ∀ w3 : Subtype (ConvIs u5 now), (convert 44 9 u5).run Try.prog w3.1 = .ok (.string (mk now)) w3.1 := fun w3 => w3.2
          iterate 3 (refine Go.Mix.mix_step rfl (fun K hK => ?_); go_simp; refine hK _ _ ?_; clear hK K)
          (refine Go.Mix.mix_eff rfl (fun K hK => ?_); go_simp; refine hK _ _ (run_conv_string (byts_owned ((HO5.out.drew).alloc _))) ?_; clear hK K)
          refine mix_app eiS (.tmp 19) (.tmp 22) rfl rfl rfl g rfl rfl ((HO4.out.drew).alloc _) (slc_new _ 1 1 9 [.string (mk now)] rfl (by decide)).drew ?h1 ?h2 ?h3 ?h4 ?h5
          case h1 => intro u hu; simp at hu; subst hu; rfl
          case h2 => unfold maxLen; omega
          case h3 => omega
          case h4 => simp; omega
          intro v1 w1 hown1 hg1
          have hk5 := ((HO5.out.drew).alloc (.cells #[.string (mk now)] 9)).kept hg1 (owns_apart ((HO5.out.drew).alloc (.cells #[.string (mk now)] 9)) ((HO4.out.drew).alloc (.cells #[.string (mk now)] 9)) (by decide))
          refine ⟨run_conv_string (byts_owned hk5), ?_⟩
          have hown2 : w1.ownsRow g 9 1 v1 (ls ++ [now]).length (encS (ls ++ [now])) := by
            rw [List.length_append, encS_snoc]; exact hown1
          have hb2 : Below g w w1 := below_app (HB.out.drew.alloc hgw _) ((HO4.out.drew).alloc _) hg1 (Nat.le_refl _) (by simp; omega)
          have HO2 := Go.Lib.hid hown2
          have HB2 := Go.Lib.hid hb2
          clear hown1 hg1 hown2 hb2 hk5
          iterate 5 (refine Go.Mix.mix_step rfl (fun K hK => ?_); go_simp; refine hK _ _ ?_; clear hK K)
          refine Go.Mix.mix_nil ?_
          go_wp2_with fail
          go_roundw
          case rel =>
            refine ⟨ls ++ [now], [], r, rfl, HST.out.symm, by simp; omega, ?_, HO2.out, World.ownsRow_nil _ _ _ _, HB2.out⟩
            intro l hl
            rcases List.mem_append.1 hl with h | h
            · exact HA.out l h
            · simp at h; subst h; omega
          case measure =>
            simp only [szOf, size_mk, List.length_cons]
            omega
        · have e1 : ((c.toNat : Int) == 46) = false := by rw [beq_eq_false_iff_ne]; omega
          have hstep := Nm.candOf_take (tk := Nm.takeB) (fun c r => (Nm.takeB_pos c r).1) ls now r hc
          rw [HC.out] at hstep
          have HST := Go.Lib.hid hstep
          have htk := take_any c r wr
          have HTK := Go.Lib.hid htk
          obtain ⟨t1, t2⟩ := Nm.takeB_pos c r
          clear hstep hc htk
          generalize hp : Nm.takeB (c :: r) = p at *
          clear hp
          obtain ⟨x, k⟩ := p
          simp only at t1 t2
          have hex := extract_mk_drop (c :: r) k
          have q1 : (k : Int) ≤ ((mk (c :: r)).size : Int) := by rw [hs0, List.length_cons]; omega
          clear hs0
          go_wp2_with fail
          refine HTK.out.mono ?_
          rintro e w' ⟨rfl, rfl⟩
          unfold TakeEnd
          go_wp2_with fail
          refine Go.Mix.wp_region_mix (Es := [2, 3]) (fun _ => True) mixed (by kernel_rfl) trivial (fun _ => ?_)
          iterate 2 (refine Go.Mix.mix_step rfl (fun K hK => ?_); go_simp; refine hK _ _ ?_; clear hK K)
          (refine Go.Mix.mix_eff rfl (fun K hK => ?_); go_simp; refine hK _ _ trivial ?_; clear hK K)
          refine mix_app eiB (.tmp 31) (.tmp 33) rfl rfl rfl g rfl rfl ((HO5.out.drew).alloc _) (slc_new _ 1 1 5 [.int .u8 x.toNat] rfl (by decide)).drew ?k1 ?k2 ?k3 ?k4 ?k5
          case k1 => intro u hu; simp at hu; subst hu; rfl
          case k2 => unfold maxLen; omega
          case k3 => omega
          case k4 => simp; omega
          intro v1 w1 hown1 hg1
          have hk4 := ((HO4.out.drew).alloc (.cells #[.int .u8 x.toNat] 5)).kept hg1 (owns_apart ((HO4.out.drew).alloc (.cells #[.int .u8 x.toNat] 5)) ((HO5.out.drew).alloc (.cells #[.int .u8 x.toNat] 5)) (by decide))
          refine ⟨trivial, ?_⟩
          have hown2 : w1.ownsRow g 5 1 v1 (now ++ [x]).length (encB (now ++ [x])) := by
            rw [List.length_append, encB_snoc]; exact hown1
          have hb2 : Below g w w1 := below_app (HB.out.drew.alloc hgw _) ((HO5.out.drew).alloc _) hg1 (Nat.le_refl _) (by simp; omega)
          have HO2 := Go.Lib.hid hown2
          have HB2 := Go.Lib.hid hb2
          have HK4 := Go.Lib.hid hk4
          clear hown1 hg1 hown2 hb2 hk4
          iterate 5 (refine Go.Mix.mix_step rfl (fun K hK => ?_); go_simp; refine hK _ _ ?_; clear hK K)
          refine Go.Mix.mix_nil ?_
          go_wp2_with fail
          go_roundw
          case rel =>
            exact ⟨ls, now ++ [x], (c :: r).drop k, rfl, HST.out.symm, by rw [List.length_append, List.length_drop]; simp; omega, HA.out, HK4.out, HO2.out, HB2.out⟩
          case measure =>
            simp only [szOf, size_mk, List.length_cons, List.length_drop]
            omega
      | nil =>
        have hne : ((mk []).toList == []) = true := by rw [toList_bl, bl_mk]; rfl
        have hls : Hid (ls = Nm.candOf Nm.takeB [] [] (bl s)) := Go.Lib.hid HC.out
        have hst := strs_owned HO4.out
        have hlenl : ls.length ≤ 100000 := by omega
        clear hlen
        obtain ⟨a, cap, rfl, _, _⟩ := hst.slice
        have hj := Join_any a cap ls wr hst (by omega) (fun l hl => by have := HA.out l hl; unfold maxLen; omega)
        have HJ := Go.Lib.hid hj
        rw [← hls.out] at hfin
        clear hst hj hls
        cases hjn : Nm.joinN ls with
        | none =>
          rw [hjn] at HJ hfin
          clear hjn
          go_wp2_with fail
          refine HJ.out.mono ?_
          rintro e w1 ⟨rfl, hb1⟩
          unfold nameEnd
          simp only [Option.getD_none, Option.isSome_none]
          go_wp2_with fail
          go_ret2
          exact ⟨nameEnd_none hfin.out, HB.out.trans (hb1.mono hgw)⟩
        | some n =>
          have hvn := (Nm.joinN_valid hjn).1
          have hnl := (Nm.labs_valid hvn).2.2
          have htx := fun w => Text_any (mk n) w (by rw [size_mk]; unfold maxLen; omega)
          rw [bl_mk] at htx
          have HTX := Go.Lib.hid htx
          rw [hjn] at HJ hfin
          clear hjn hvn hnl htx
          by_cases heq : Nm.textN n = bl s
          · have hf : Hid (Nm.parseN (bl s) = some n) := Go.Lib.hid (by rw [hfin.out, Option.bind_some, if_pos heq])
            have e1 : ((mk (Nm.textN n)).toList != s.toList) = false := by rw [toList_bl, toList_bl, bl_mk, heq, bne_self_eq_false]
            have e2 : ((mk (Nm.textN n)).toList == s.toList) = true := by rw [toList_bl, toList_bl, bl_mk, heq, beq_self_eq_true]
            clear hfin heq
            go_wp2_with fail
            refine HJ.out.mono ?_
            rintro e w1 ⟨rfl, hb1⟩
            have HB1 := Go.Lib.hid hb1
            clear hb1
            unfold nameEnd
            simp only [Option.getD_some, Option.isSome_some]
            go_wp2_with fail
            refine (HTX.out _).mono ?_
            rintro e w2 ⟨rfl, hb2⟩
            go_wp2_with fail
            go_ret2
            exact ⟨nameEnd_some hf.out, (HB.out.trans (HB1.out.mono hgw)).trans (hb2.mono (Nat.le_trans hgw HB1.out.size))⟩
          · have hf : Hid (Nm.parseN (bl s) = none) := Go.Lib.hid (by rw [hfin.out, Option.bind_some, if_neg heq])
            have e1 : ((mk (Nm.textN n)).toList != s.toList) = true := by rw [toList_bl, toList_bl, bl_mk]; simpa using heq
            have e2 : ((mk (Nm.textN n)).toList == s.toList) = false := by rw [toList_bl, toList_bl, bl_mk]; simpa using heq
            clear hfin heq
            go_wp2_with fail
            refine HJ.out.mono ?_
            rintro e w1 ⟨rfl, hb1⟩
            have HB1 := Go.Lib.hid hb1
            clear hb1
            unfold nameEnd
            simp only [Option.getD_some, Option.isSome_some]
            go_wp2_with fail
            refine (HTX.out _).mono ?_
            rintro e w2 ⟨rfl, hb2⟩
            go_wp2_with fail
            go_ret2
            exact ⟨nameEnd_none hf.out, (HB.out.trans (HB1.out.mono hgw)).trans (hb2.mono (Nat.le_trans hgw HB1.out.size))⟩
end Go.Proofs.Ytfmhmhekildfbaa

