/- PickHints: hints stand in order, each once; what may not be one is left out. For every input; no conditions. -/
import Derived.Test.YtgbmclgnbbhcbaaG4
import Derived.Test.YtgbmclgnbbhcbaaG6
import Derived.Deep.OwnRows
import Derived.WalkSpells
namespace Go.Proofs.Ytgbmclgnbbhcbaa.pickHints
open Go.ChangeShapes Go.WideShapes Go.ChangeAt Go.RowKit
open Go.ChangeMaps (open_string shut_string)
set_option linter.unusedVariables false
set_option linter.unusedSimpArgs false
set_option maxRecDepth 100000

set_option maxHeartbeats 8000000 in
theorem walk (a : Option Addr) (l : List Sv) (c : Nat) (w : World) (hl : Svs w (.slice a l.length c) l) (hfit : ∀ s ∈ l, SvFit s) :
    Calls Try.prog 3 #[.slice a l.length c] w fun e w' => e = .returned (.bool true) ∧ Below w.heap.size w w' := by
  have mixed : Try.prog.follows .mixedOrders = true := by kernel_rfl
  have HAW := Go.Lib.hid awake_any
  have HB := Go.Lib.hid (Below.refl w.heap.size w)
  by_cases hbig : 40 < l.length
  · have hb2 : (40 : Int) < (l.length : Int) := by omega
    generalize hN : l.length = N at *
    have HL := Go.Lib.hid hl
    have HFIT := Go.Lib.hid hfit
    have HN := Go.Lib.hid hN
    clear hl hfit hN
    clear hbig
    go_enter Try.func3, Try.ntmps3
    go_wp2_with fail
    refine (HAW.out _).mono ?_; rintro e wb1 ⟨rfl, hx⟩
    have hb := HB.out.trans (hx.mono HB.out.size)
    clear HB
    have HB := Go.Lib.hid hb
    clear hx hb
    go_wp2_with fail
    go_ret
    exact ⟨rfl, HB.out⟩
  · have hb2 : ¬ (40 : Int) < (l.length : Int) := by omega
    have hrh := fun W h1 h2 => refHints_any l a c W h1 (by omega) h2
    have hph := fun W h1 h2 => Hints_any l a c W h1 (by omega) h2
    have hhl := hints_len l
    generalize hN : l.length = N at *
    have HL := Go.Lib.hid hl
    have HFIT := Go.Lib.hid hfit
    have HN := Go.Lib.hid hN
    have HRH := Go.Lib.hid hrh
    have HPH := Go.Lib.hid hph
    have HHL := Go.Lib.hid hhl
    clear hl hfit hN hrh hph hhl
    go_enter Try.func3, Try.ntmps3
    go_wp2_with fail
    go_loopw [3] (fun i wr => ∃ k : Nat, i = .int .i64 k ∧ k ≤ N ∧ (∀ j, j < k → (l.getD j s0).1.length ≤ 300) ∧ Below w.heap.size w wr) (fun i _ => N - (RowKit.intOf i).toNat)
    case atStart => exact ⟨0, rfl, Nat.zero_le _, fun j hj => by omega, HB.out⟩
    case round =>
      clear HB
      obtain ⟨k, rfl, hk, hall, hb⟩ := hrel
      have HB := Go.Lib.hid hb
      clear hb
      have HALL := Go.Lib.hid hall
      clear hall
      have hl2 := HL.out.below HB.out (Nat.le_refl _)
      by_cases hlt : k < N
      · have hlt2 : (k : Int) < (N : Int) := by omega
        obtain ⟨b, off, rfl, hbb, hcell⟩ := Svs.at hl2 (by rw [HN.out]; omega)
        obtain ⟨d0, d1⟩ := hcell k (by rw [HN.out]; exact hlt)
        obtain ⟨n, hn⟩ : ∃ n, (l.getD k s0).1 = n := ⟨_, rfl⟩
        rw [hn] at d0
        have HNN := Go.Lib.hid hn
        have HL2 := Go.Lib.hid hl2
        clear hn hl2
        clear hcell d1
        by_cases hnl : 300 < n.length
        · have hnl2 : (300 : Int) < ((mk n).size : Int) := by rw [size_mk]; omega
          go_wp2_with fail
          refine (HAW.out _).mono ?_; rintro e wb2 ⟨rfl, hx⟩
          have hb := HB.out.trans (hx.mono HB.out.size)
          clear HB
          have HB := Go.Lib.hid hb
          clear hx hb
          go_wp2_with fail
          go_ret
          exact ⟨rfl, HB.out⟩
        · have hnl2 : ¬ (300 : Int) < ((mk n).size : Int) := by rw [size_mk]; omega
          go_wp2_with fail
          go_roundw
          case rel =>
            refine ⟨k + 1, by go_num, by omega, fun j hj => ?_, HB.out⟩
            rcases Nat.lt_or_ge j k with h | h
            · exact HALL.out j h
            · obtain rfl : j = k := by omega
              rw [HNN.out]; omega
          case measure => simp [RowKit.intOf]; omega
      · have hlt2 : ¬ (k : Int) < (N : Int) := by omega
        have hnm : ∀ s ∈ l, s.1.length ≤ maxLen := fun s hs => (HFIT.out s hs).1
        have h1 := HPH.out wr hl2 hnm
        have HL2 := Go.Lib.hid hl2
        have HNM := Go.Lib.hid hnm
        have H1 := Go.Lib.hid h1
        clear hl2 hnm h1
        go_wp2_with fail
        refine H1.out.mono ?_; rintro e W1 ⟨v1, rfl, hs1, hb1⟩
        have hm : (hintsN l).length ≤ N := HHL.out
        obtain ⟨a1, c1, rfl, hm1, hm2⟩ := SlC.slice hs1
        have hstp := fun j h => hints_step (l := l) (k := j) h
        have hidem := hints_idem l
        have hl3 := HL2.out.below hb1 (Nat.le_refl _)
        have hbw := HB.out.trans (hb1.mono HB.out.size)
        have hrr := HRH.out
        have hhps : ∀ s ∈ hintsN l, s.1.length ≤ 100000 := fun s hs => by have := pn_len (hints_ps l s hs).1; omega
        have hself := fun W x1 z1 x2 z2 h1 h2 => sameSvs_any (hintsN l) (hintsN l) x1 x2 z1 z2 W h1 h2 (by omega)
        have hph2 := fun W x1 z1 h1 => Hints_any (hintsN l) x1 z1 W h1 (by omega) (fun s hs => by have := hhps s hs; unfold maxLen; omega)
        rw [hidem] at hph2
        simp only [decide_true] at hself
        generalize hH : hintsN l = H at *
        generalize hM : H.length = M at *
        have HSH := Go.Lib.hid hs1
        have HM1 := Go.Lib.hid hm1
        have HM2 := Go.Lib.hid hm2
        have HSTP := Go.Lib.hid hstp
        have HID := Go.Lib.hid hidem
        have HL3 := Go.Lib.hid hl3
        have HBW := Go.Lib.hid hbw
        have HRR := Go.Lib.hid hrr
        have HPS := Go.Lib.hid hhps
        have HSELF := Go.Lib.hid hself
        have HPH2 := Go.Lib.hid hph2
        have HH := Go.Lib.hid hH
        have HM := Go.Lib.hid hM
        clear hs1 hm1 hm2 hstp hidem hl3 hbw hrr hhps hself hph2 hH hM
        clear HB H1 HRH HPH
        go_wp2_with fail
        clear hb1
        generalize wr = w1 at *
        go_loopw [5] (fun i wr => ∃ k : Nat, i = .int .i64 k ∧ k ≤ M ∧ Below W1.heap.size W1 wr) (fun i _ => M - (RowKit.intOf i).toNat)
        case atStart => exact ⟨0, rfl, Nat.zero_le _, Below.refl _ _⟩
        case round =>
          obtain ⟨q, rfl, hq, hb⟩ := hrel
          by_cases hql : q < M
          · have hql2 : (q : Int) < (M : Int) := by omega
            obtain ⟨b, off, rfl, hbb, hcell⟩ := Svs.at HSH.out (by rw [HM.out]; omega)
            obtain ⟨f0, f1⟩ := hcell q (by rw [HM.out]; exact hql)
            cases q with
            | zero =>
              have hne : Nonempty (Subtype (Below W1.heap.size W1)) := ⟨⟨W1, Below.refl _ _⟩⟩
              have HBQ := Go.Lib.hid hb
              clear hb
              clear hcell f0 f1
              go_wp2_with fail
              refine Go.Mix.wp_region_mix (Es := [14]) (Below W1.heap.size W1) mixed (by kernel_rfl) (show Below W1.heap.size W1 (World.drew _) from HBQ.out.drew) (fun _ => ?_)
              iterate 14 (refine Go.Mix.mix_step rfl (fun K hK => ?_); have HKK := Go.Lib.hid hK; clear hK; go_simp; refine HKK.out _ _ ?_; clear HKK K)
              refine Go.Mix.mix_eff rfl (fun K hK => ?_)
              have HKK := Go.Lib.hid hK
              clear hK
              go_simp
              refine HKK.out _ _ HBQ.out.drew ?_
              clear HKK K
              iterate 13 (refine Go.Mix.mix_step rfl (fun K hK => ?_); have HKK := Go.Lib.hid hK; clear hK; go_simp; refine HKK.out _ _ ?_; clear HKK K)
              refine Go.Mix.mix_nil ?_
              go_wp2_with fail
              go_roundw
              case rel => exact ⟨1, by go_num, by omega, HBQ.out.drew⟩
              case measure => simp [RowKit.intOf]; omega
            | succ q =>
              obtain ⟨g0, g1⟩ := hcell q (by rw [HM.out]; omega)
              obtain ⟨t1, t2, t3, t4⟩ := HSTP.out q hql
              clear hcell
              generalize H.getD (q + 1) s0 = y at *
              generalize H.getD q s0 = x at *
              obtain ⟨yn, ya⟩ := y
              obtain ⟨xn, xa⟩ := x
              simp only at f0 f1 g0 g1 t1 t3 t4
              have hls := fun W => refLess_any (mk yn) (mk xn) W (by rw [size_mk]; unfold maxLen; omega) (by rw [size_mk]; unfold maxLen; omega)
              simp only [bl_mk] at hls
              rw [t1] at hls
              have D0 : ∀ z : Subtype (Below W1.heap.size W1), z.1.cell? ⟨b, off + (q + 1) * 2, none⟩ = some (.string (mk yn)) := fun z => (z.2.cell (p := ⟨b, off + (q + 1) * 2, none⟩) hbb).trans f0
              have D1 : ∀ z : Subtype (Below W1.heap.size W1), z.1.cell? ⟨b, off + (q + 1) * 2 + 1, none⟩ = some (.int .i64 ya) := fun z => (z.2.cell (p := ⟨b, off + (q + 1) * 2 + 1, none⟩) hbb).trans f1
              have D2 : ∀ z : Subtype (Below W1.heap.size W1), z.1.cell? ⟨b, off + q * 2, none⟩ = some (.string (mk xn)) := fun z => (z.2.cell (p := ⟨b, off + q * 2, none⟩) hbb).trans g0
              have D3 : ∀ z : Subtype (Below W1.heap.size W1), z.1.cell? ⟨b, off + q * 2 + 1, none⟩ = some (.int .i64 xa) := fun z => (z.2.cell (p := ⟨b, off + q * 2 + 1, none⟩) hbb).trans g1
              have hne : Nonempty (Subtype (Below W1.heap.size W1)) := ⟨⟨W1, Below.refl _ _⟩⟩
              have hcs : ((mk yn).toList == (mk xn).toList) = false ∨ (((mk yn).toList == (mk xn).toList) = true ∧ (ya == xa) = false) := by
                by_cases hn : yn = xn
                · exact .inr ⟨beq_mk_true hn, beq_eq_false_iff_ne.2 fun e => t2 (by rw [hn, e])⟩
                · exact .inl (beq_mk_false hn)
              have hq0 : (0 : Int) ≤ (q : Int) + 1 := by omega
              have wq1 : IntKind.i64.wrap (q : Int) = (q : Int) := wrapi (by omega) (by omega)
              have hqM : (q : Int) < (M : Int) := by omega
              have wq2 : IntKind.i64.wrap ((q : Int) + 1 + 1) = (q : Int) + 1 + 1 := wrapi (by omega) (by omega)
              have HBQ := Go.Lib.hid hb
              have HLS := Go.Lib.hid hls
              clear hb hls
              clear f0 f1 g0 g1 t1 t2 t3 t4
              rcases hcs with q0 | ⟨q0, q1⟩
              all_goals
                go_wp2_with fail
                refine Go.Mix.wp_region_mix (Es := [14]) (Below W1.heap.size W1) mixed (by kernel_rfl) (show Below W1.heap.size W1 (World.drew _) from HBQ.out.drew) (fun _ => ?_)
                iterate 14 (refine Go.Mix.mix_step rfl (fun K hK => ?_); have HKK := Go.Lib.hid hK; clear hK; go_simp; refine HKK.out _ _ ?_; clear HKK K)
                refine Go.Mix.mix_eff rfl (fun K hK => ?_)
                have HKK := Go.Lib.hid hK
                clear hK
                go_simp
                refine (HLS.out _).mono ?_; rintro e W5 ⟨rfl, hx5⟩
                have hb5 := HBQ.out.drew.trans (hx5.mono (HBQ.out.drew.size))
                go_simp
                refine HKK.out _ _ hb5 ?_
                clear HKK K hx5
                have HB5 := Go.Lib.hid hb5
                clear hb5
                iterate 13 (refine Go.Mix.mix_step rfl (fun K hK => ?_); have HKK := Go.Lib.hid hK; clear hK; go_simp; refine HKK.out _ _ ?_; clear HKK K)
                refine Go.Mix.mix_nil ?_
                go_wp2_with fail
                go_roundw
                case rel => exact ⟨q + 1 + 1, by go_num, by omega, HB5.out⟩
                case measure => simp [RowKit.intOf]; omega
          · have hql2 : ¬ (q : Int) < (M : Int) := by omega
            have hl4 := HL3.out.below hb (Nat.le_refl _)
            have hs4 := SlC.below HSH.out hb (Nat.le_refl _)
            have h2 := HRR.out _ hl4 HNM.out
            have hb4 := HBW.out.trans (hb.mono HBW.out.size)
            have H2 := Go.Lib.hid h2
            have HS4 := Go.Lib.hid hs4
            have HB4 := Go.Lib.hid hb4
            clear h2 hs4 hb4
            clear hb hl4
            go_wp2_with fail
            refine H2.out.mono ?_; rintro e W5 ⟨v5, rfl, hs5, hb5⟩
            have hsv := SlC.slice hs5
            rw [HM.out] at hsv
            obtain ⟨a5, c5, rfl, _, _⟩ := hsv
            have hs45 := SlC.below HS4.out hb5 (Nat.le_refl _)
            have h3 := HSELF.out _ _ _ _ _ hs45 hs5
            have hb45 := HB4.out.trans (hb5.mono HB4.out.size)
            have H3 := Go.Lib.hid h3
            have HS45 := Go.Lib.hid hs45
            have HB45 := Go.Lib.hid hb45
            clear h3 hs45 hb45
            clear hb5 hs5 H2
            go_wp2_with fail
            refine H3.out.mono ?_; rintro e W6 ⟨rfl, hb6⟩
            have hs6 := SlC.below HS45.out hb6 (Nat.le_refl _)
            have h4 := HPH2.out _ _ _ hs6
            have hb46 := HB45.out.trans (hb6.mono HB45.out.size)
            have H4 := Go.Lib.hid h4
            have HS6 := Go.Lib.hid hs6
            have HB46 := Go.Lib.hid hb46
            clear h4 hs6 hb46
            clear hb6 H3
            go_wp2_with fail
            refine H4.out.mono ?_; rintro e W7 ⟨v7, rfl, hs7, hb7⟩
            have hsv := SlC.slice hs7
            rw [HM.out] at hsv
            obtain ⟨a7, c7, rfl, _, _⟩ := hsv
            have hs67 := SlC.below HS6.out hb7 (Nat.le_refl _)
            have h5 := HSELF.out _ _ _ _ _ hs7 hs67
            have hb47 := HB46.out.trans (hb7.mono HB46.out.size)
            have H5 := Go.Lib.hid h5
            have HB47 := Go.Lib.hid hb47
            clear h5 hb47
            clear hb7 hs7 hs67 H4
            go_wp2_with fail
            refine H5.out.mono ?_; rintro e W8 ⟨rfl, hb8⟩
            have HB := Go.Lib.hid (HB47.out.trans (hb8.mono HB47.out.size))
            clear hb8 H5
            go_wp2_with fail
            refine (HAW.out _).mono ?_; rintro e W9 ⟨rfl, hb9⟩
            have hbz := HB.out.trans (hb9.mono HB.out.size)
            have HBZ := Go.Lib.hid hbz
            clear hbz
            clear hb9
            go_wp2_with fail
            go_ret
            exact ⟨rfl, HBZ.out⟩

set_option maxRecDepth 100000 in
theorem lifted (os : Os) (started : os.Started) (H : Type) (enc : TypeId × Value → H) :
    ReturnsInHanded {} Try.checked os 3 .any (Rows.pickHintsSpec.pre6 enc Try.prog Try.f3 Rows.pickHintsRow.domain false) (Rows.pickHintsSpec.post enc Try.prog Try.f3 false true false false) := by
  refine returnsInHanded_of_change (C := Try.checked) own started (by kernel_rfl) Try.func3
    (ChangeSpec.witness6 (enc := enc) (C := Try.checked) false ⟨#[], #[.slice none 0 0], []⟩ 8 (by kernel_rfl) (by kernel_rfl) (by kernel_rfl) (by kernel_rfl)) ?_
  intro W base args ds gs before hval0 hW hcnd _
  have hval : ∀ (j : Nat) t v, Try.f3.params[j]? = some t → args[j]? = some v → Value.okWide Try.prog W .any base t v := hval0
  refine law_post enc 1 (by kernel_rfl) rfl rfl (by kernel_rfl) (fun ds h => match ds, h with | [_], _ => rfl) hW ?_
  obtain ⟨p, q, hA0, hV, rfl, _, _⟩ := hW
  have hA : DataW.TrodAll enc Try.prog W 0 (fun _ => true) true Try.f3.params.toList args.toList ds p := hA0
  rw [Try.params3] at hA hval
  obtain ⟨v0, vs0, d0, ds0, p0, q0, hargs, rfl, rfl, h0, r0⟩ := trodAll_cons hA
  obtain ⟨rfl, rfl, rfl⟩ := trodAll_nil r0
  obtain rfl : args = #[v0] := by cases args; simp_all
  obtain ⟨a0, z0, c0, rfl, l0, w0⟩ := open_Svs (hval 0 22 v0 rfl rfl) h0
  exact walk a0 z0 c0 W l0 w0

theorem over : Rows.pickHintsRow.holds Try.pinned (OpenSpec.ofChange Rows.pickHintsSpec) :=
  OpenClaim.holds_of_wide 3 Try.f3 rfl rfl rfl rfl rfl rfl rfl ⟨rfl, rfl, rfl, rfl, rfl⟩ rfl rfl rfl rfl rfl (by kernel_rfl) Try.func3 (by kernel_rfl)
    (of_decide_eq_true (by kernel_rfl)) (by unfold Func.isWrapper; first | (rw [if_pos (by decide +kernel)]; kernel_rfl) | (rw [if_neg (by decide +kernel)]; exact ⟨rfl, rfl⟩))
    (fun os started H enc _ => lifted os started H enc)

/-- the statement -/
theorem proved : Rows.PickHintsSaid := over
#print axioms proved
end Go.Proofs.Ytgbmclgnbbhcbaa.pickHints
