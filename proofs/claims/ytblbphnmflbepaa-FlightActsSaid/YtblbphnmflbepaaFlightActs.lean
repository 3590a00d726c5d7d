/- FlightActs: whatever is sent, dropped and answered, each act tells, and what is in flight, is as the document says. For every input; no conditions. -/
import Derived.Test.YtblbphnmflbepaaFlX
import Derived.WalkSpells
namespace Go.Proofs.Ytblbphnmflbepaa.flightActs
open Go.ChangeShapes Go.WideShapes Go.ChangeAt Go.RowKit
open Go.ChangeMaps (open_string shut_string)
set_option linter.unusedVariables false

set_option maxRecDepth 100000 in
theorem t1 (most : Int) (l : List Ac) (a : Option Addr) (cap : Nat) (w : World) (hst : Acs w (.slice a l.length cap) l) (hok : ∀ x ∈ l, AcOk w x) (hf : fewA l = false)
    (HAW : Hid (∀ W, Calls Try.prog 8 #[] W fun e w' => e = .returned (.bool true) ∧ Below W.heap.size W w')) :
    Calls Try.prog 3 #[.int .i64 most, .slice a l.length cap] w fun e w' => e = .returned (.bool true) ∧ Below w.heap.size w w' := by
  have hfew := few_any l a cap w hst hok
  rw [hf] at hfew
  have HB := Go.Lib.hid (Below.refl w.heap.size w)
  generalize hn : l.length = n at *
  have HFEW := Go.Lib.hid hfew
  clear hfew
  clear hst hok
  go_enter Try.func3, Try.ntmps3
  go_wp2_with fail
  refine (HFEW.out).mono ?_; rintro e wb1 ⟨rfl, hx⟩
  have hb := HB.out.trans (hx.mono HB.out.size)
  clear HB
  have HB := Go.Lib.hid hb
  clear hx hb
  go_wp2_with fail
  refine (HAW.out _).mono ?_; rintro e wb2 ⟨rfl, hx⟩
  have hb := HB.out.trans (hx.mono HB.out.size)
  clear HB
  have HB := Go.Lib.hid hb
  clear hx hb
  go_wp2_with fail
  go_ret
  exact ⟨rfl, HB.out⟩

set_option maxRecDepth 100000 in
set_option maxHeartbeats 16000000 in
theorem t2 (most : Int) (l : List Ac) (a : Option Addr) (cap : Nat) (w : World) (hst : Acs w (.slice a l.length cap) l) (hok : ∀ x ∈ l, AcOk w x) (hf : fewA l = true)
    (HAW : Hid (∀ W, Calls Try.prog 8 #[] W fun e w' => e = .returned (.bool true) ∧ Below W.heap.size W w')) :
    Calls Try.prog 3 #[.int .i64 most, .slice a l.length cap] w fun e w' => e = .returned (.bool true) ∧ Below w.heap.size w w' := by
  have mixed : Try.prog.follows .mixedOrders = true := by kernel_rfl
  have hfew := few_any l a cap w hst hok
  rw [hf] at hfew
  have h40 := fewA_len hf
  generalize hn : l.length = n at *
  have HFEW := Go.Lib.hid hfew
  have HX := Go.Lib.hid hst
  have HOK := Go.Lib.hid hok
  have HN := Go.Lib.hid hn
  clear hfew hst hok hn
  clear hf
  go_enter Try.func3, Try.ntmps3
  go_wp2_with fail
  refine HFEW.out.mono ?_; rintro e w1 ⟨rfl, hb1⟩
  have hnew := New_any w.heap.size most w1 hb1.size
  have HNEW := Go.Lib.hid hnew
  have HB1 := Go.Lib.hid hb1
  clear hnew hb1
  clear HFEW
  go_wp2_with fail
  refine HNEW.out.mono ?_; rintro e w2 ⟨rfl, hT, hb, hlt⟩
  obtain ⟨X0, hX0⟩ : ∃ X, w2.alloc (.cells #[.int .i64 most, .slice none 0 0] 30) = X := ⟨_, rfl⟩
  have hw2 : Below w2.heap.size w2 X0 := by rw [← hX0]; exact (Below.refl _ _).alloc (Nat.le_refl _) _
  have hR0 : IsRef w.heap.size w2.heap.size most [] X0 := ⟨by have := HB1.out.size; omega, .slice none 0 0, by rw [← hX0]; exact heap_alloc_new _ _, by simp [encN], .inl ⟨rfl, rfl⟩⟩
  have hT0 := hT.below hw2
  have hb0 : Below w.heap.size w X0 := (HB1.out.trans (hb.mono HB1.out.size)).trans (hw2.mono (by have := HB1.out.size; omega))
  have hbc : w1.heap.size ≠ w2.heap.size := by omega
  have HT0 := Go.Lib.hid hT0
  have HR0 := Go.Lib.hid hR0
  have HB0 := Go.Lib.hid hb0
  have HBC := Go.Lib.hid hbc
  clear hT0 hR0 hb0 hbc
  clear HNEW hT hb hlt hw2 HB1
  go_wp2_with fail
  clear hX0
  go_loopw [7] (fun i wr => ∃ (k : Nat) (L : List Sn), i = .int .i64 k ∧ k ≤ n ∧ IsTab w.heap.size w1.heap.size (max most 0) L wr ∧ IsRef w.heap.size w2.heap.size most L wr ∧ JobsUp L ∧ SnOk L ∧ L.length ≤ k ∧ Below w.heap.size w wr) (fun i _ => n - (intOf i).toNat)
  case atStart => exact ⟨0, [], rfl, Nat.zero_le _, HT0.out, HR0.out, jobsUp_nil, fun s hs => by simp at hs, Nat.le_refl _, HB0.out⟩
  case round =>
    obtain ⟨k, lst, rfl, hk, hT, hR, hup, hsn, hlen, hbr⟩ := hrel
    clear HT0 HR0 HB0
    have HT := Go.Lib.hid hT
    have HR := Go.Lib.hid hR
    have HUP := Go.Lib.hid hup
    have HSN := Go.Lib.hid hsn
    have HB := Go.Lib.hid hbr
    clear hT hR hup hsn hbr
    by_cases hlt : k < n
    · obtain ⟨b, off, rfl, hbw, hcell⟩ := Acs.at (show Acs wr (.slice a n cap) l by have h := HX.out.below HB.out (Nat.le_refl _); exact h) (by rw [HN.out]; omega)
      have hc := hcell k (by rw [HN.out]; exact hlt)
      have hmem : l.getD k a0 ∈ l := by
        rw [List.getD_eq_getElem?_getD, List.getElem?_eq_getElem (by rw [HN.out]; exact hlt)]
        exact List.getElem_mem _
      obtain ⟨k1, k2, k3, hml, hmo⟩ := HOK.out _ hmem
      have hml := hml.below HB.out (Nat.le_refl _)
      clear hmem
      generalize l.getD k a0 = x at *
      have hrng := acs_range hc
      have hone := acC_one hml
      have hasz := ac_size x
      have haz := ac_zero x
      obtain ⟨kd, s, addr, port, m, q, av, sv, d⟩ := x
      simp only at hml hmo k1 k2 k3
      obtain ⟨aq, cq, rfl, _, _⟩ := hml.qs.slice
      obtain ⟨aa, ca, rfl, _, _⟩ := hml.an.slice
      obtain ⟨asv, cs, rfl, _, _⟩ := hml.sv.slice
      obtain ⟨ad, cd, rfl, _, _⟩ := hml.ad.slice
      obtain ⟨X, hX⟩ : ∃ X, wr.alloc (.cells (acC ⟨kd, s, addr, port, m, .slice aq m.qs.length cq, .slice aa m.an.length ca, .slice asv m.sv.length cs, .slice ad m.ad.length cd⟩).toArray 42) = X := ⟨_, rfl⟩
      have hXh : X.heap[wr.heap.size]? = some (.cells (acC ⟨kd, s, addr, port, m, .slice aq m.qs.length cq, .slice aa m.an.length ca, .slice asv m.sv.length cs, .slice ad m.ad.length cd⟩).toArray 42 (0, 0)) := by rw [← hX]; exact heap_alloc_new _ _
      have hwX : Below wr.heap.size wr X := by rw [← hX]; exact (Below.refl _ _).alloc (Nat.le_refl _) _
      have hTX := HT.out.below hwX
      have hRX := HR.out.below hwX
      have hbX := HB.out.trans (hwX.mono HB.out.size)
      have hmX : MsgL X m (.slice aq m.qs.length cq) (.slice aa m.an.length ca) (.slice asv m.sv.length cs) (.slice ad m.ad.length cd) := hml.below hwX (Nat.le_refl _)
      have hgb : wr.heap.size ≠ w1.heap.size := by have := HT.out.lt; omega
      have hgc : wr.heap.size ≠ w2.heap.size := by have := HR.out.lt; omega
      have hszX := hbX.size
      have hlX := (Array.getElem?_eq_some_iff.1 hXh).1
      have d0 : X.cell? ⟨wr.heap.size, 0, none⟩ = some (.int .i64 kd) := row_cell hXh 0 _ rfl
      have d1 : X.cell? ⟨wr.heap.size, 1, none⟩ = some (.int .i64 s.job) := row_cell hXh 1 _ rfl
      have d2 : X.cell? ⟨wr.heap.size, 2, none⟩ = some (.int .i64 s.id) := row_cell hXh 2 _ rfl
      have d3 : X.cell? ⟨wr.heap.size, 3, none⟩ = some (.int .i64 s.port) := row_cell hXh 3 _ rfl
      have d4 : X.cell? ⟨wr.heap.size, 4, none⟩ = some (.string (mk s.sn)) := row_cell hXh 4 _ rfl
      have d5 : X.cell? ⟨wr.heap.size, 5, none⟩ = some (.int .i64 s.sa) := row_cell hXh 5 _ rfl
      have d6 : X.cell? ⟨wr.heap.size, 6, none⟩ = some (.string (mk s.qn)) := row_cell hXh 6 _ rfl
      have d7 : X.cell? ⟨wr.heap.size, 7, none⟩ = some (.int .i64 s.qt) := row_cell hXh 7 _ rfl
      have d8 : X.cell? ⟨wr.heap.size, 8, none⟩ = some (.int .i64 s.qc) := row_cell hXh 8 _ rfl
      have d9 : X.cell? ⟨wr.heap.size, 9, none⟩ = some (.string (mk s.zone)) := row_cell hXh 9 _ rfl
      have d10 : X.cell? ⟨wr.heap.size, 10, none⟩ = some (.int .i64 addr) := row_cell hXh 10 _ rfl
      have d11 : X.cell? ⟨wr.heap.size, 11, none⟩ = some (.int .i64 port) := row_cell hXh 11 _ rfl
      have d12 : X.cell? ⟨wr.heap.size, 12, none⟩ = some (.int .i64 m.id) := row_cell hXh 12 _ rfl
      have d13 : X.cell? ⟨wr.heap.size, 13, none⟩ = some (.bool m.resp) := row_cell hXh 13 _ rfl
      have d14 : X.cell? ⟨wr.heap.size, 14, none⟩ = some (.int .i64 m.op) := row_cell hXh 14 _ rfl
      have d15 : X.cell? ⟨wr.heap.size, 15, none⟩ = some (.bool m.auth) := row_cell hXh 15 _ rfl
      have d16 : X.cell? ⟨wr.heap.size, 16, none⟩ = some (.bool m.cut) := row_cell hXh 16 _ rfl
      have d17 : X.cell? ⟨wr.heap.size, 17, none⟩ = some (.bool m.des) := row_cell hXh 17 _ rfl
      have d18 : X.cell? ⟨wr.heap.size, 18, none⟩ = some (.bool m.avail) := row_cell hXh 18 _ rfl
      have d19 : X.cell? ⟨wr.heap.size, 19, none⟩ = some (.int .i64 m.code) := row_cell hXh 19 _ rfl
      have d20 : X.cell? ⟨wr.heap.size, 20, none⟩ = some (.slice aq m.qs.length cq) := row_cell hXh 20 _ rfl
      have d21 : X.cell? ⟨wr.heap.size, 21, none⟩ = some (.slice aa m.an.length ca) := row_cell hXh 21 _ rfl
      have d22 : X.cell? ⟨wr.heap.size, 22, none⟩ = some (.slice asv m.sv.length cs) := row_cell hXh 22 _ rfl
      have d23 : X.cell? ⟨wr.heap.size, 23, none⟩ = some (.slice ad m.ad.length cd) := row_cell hXh 23 _ rfl
      have d24 : X.cell? ⟨wr.heap.size, 24, none⟩ = some (.bool m.edns) := row_cell hXh 24 _ rfl
      have d25 : X.cell? ⟨wr.heap.size, 25, none⟩ = some (.int .i64 m.size) := row_cell hXh 25 _ rfl
      have HTX := Go.Lib.hid hTX
      have HRX := Go.Lib.hid hRX
      have HBX := Go.Lib.hid hbX
      have HMX := Go.Lib.hid hmX
      have HMO := Go.Lib.hid hmo
      have HXH := Go.Lib.hid hXh
      have HGB := Go.Lib.hid hgb
      have HGC := Go.Lib.hid hgc
      have HQN := Go.Lib.hid k2
      have HLX := Go.Lib.hid hlX
      clear hTX hRX hbX hmX hmo hXh hgb hgc k2 hlX
      clear hc hcell hml hwX HT HR HB k1 k3
      by_cases h1 : kd = 1
      · subst h1
        as_aux_lemma =>
          have hadd := Add_any w.heap.size w1.heap.size (max most 0) lst s X.drew HTX.out.drew HUP.out (by omega) hszX
          have hradd := fun W h1 h2 => refAdd_any w.heap.size w2.heap.size most lst s W h1 HUP.out (by omega) h2
          rw [addN_max] at hadd
          obtain ⟨hup1, hsn1, hlen1⟩ := add_keep (most := most) HUP.out HSN.out HQN.out
          generalize addN most lst s = r at *
          have hC0 : RowC wr.heap.size (acC ⟨1, s, addr, port, m, .slice aq m.qs.length cq, .slice aa m.an.length ca, .slice asv m.sv.length cs, .slice ad m.ad.length cd⟩).toArray 42 X.drew := HXH.out
          have hne : Nonempty (Subtype (RowC wr.heap.size (acC ⟨1, s, addr, port, m, .slice aq m.qs.length cq, .slice aa m.an.length ca, .slice asv m.sv.length cs, .slice ad m.ad.length cd⟩).toArray 42)) := ⟨⟨_, hC0⟩⟩
          have r1 : ∀ w3 : Subtype (RowC wr.heap.size (acC ⟨1, s, addr, port, m, .slice aq m.qs.length cq, .slice aa m.an.length ca, .slice asv m.sv.length cs, .slice ad m.ad.length cd⟩).toArray 42), w3.1.cell? ⟨wr.heap.size, 1, none⟩ = some (.int .i64 s.job) := fun w3 => RowC.cell 1 _ rfl w3
          have r2 : ∀ w3 : Subtype (RowC wr.heap.size (acC ⟨1, s, addr, port, m, .slice aq m.qs.length cq, .slice aa m.an.length ca, .slice asv m.sv.length cs, .slice ad m.ad.length cd⟩).toArray 42), w3.1.cell? ⟨wr.heap.size, 2, none⟩ = some (.int .i64 s.id) := fun w3 => RowC.cell 2 _ rfl w3
          have r3 : ∀ w3 : Subtype (RowC wr.heap.size (acC ⟨1, s, addr, port, m, .slice aq m.qs.length cq, .slice aa m.an.length ca, .slice asv m.sv.length cs, .slice ad m.ad.length cd⟩).toArray 42), w3.1.cell? ⟨wr.heap.size, 3, none⟩ = some (.int .i64 s.port) := fun w3 => RowC.cell 3 _ rfl w3
          have r4 : ∀ w3 : Subtype (RowC wr.heap.size (acC ⟨1, s, addr, port, m, .slice aq m.qs.length cq, .slice aa m.an.length ca, .slice asv m.sv.length cs, .slice ad m.ad.length cd⟩).toArray 42), w3.1.cell? ⟨wr.heap.size, 4, none⟩ = some (.string (mk s.sn)) := fun w3 => RowC.cell 4 _ rfl w3
          have r5 : ∀ w3 : Subtype (RowC wr.heap.size (acC ⟨1, s, addr, port, m, .slice aq m.qs.length cq, .slice aa m.an.length ca, .slice asv m.sv.length cs, .slice ad m.ad.length cd⟩).toArray 42), w3.1.cell? ⟨wr.heap.size, 5, none⟩ = some (.int .i64 s.sa) := fun w3 => RowC.cell 5 _ rfl w3
          have r6 : ∀ w3 : Subtype (RowC wr.heap.size (acC ⟨1, s, addr, port, m, .slice aq m.qs.length cq, .slice aa m.an.length ca, .slice asv m.sv.length cs, .slice ad m.ad.length cd⟩).toArray 42), w3.1.cell? ⟨wr.heap.size, 6, none⟩ = some (.string (mk s.qn)) := fun w3 => RowC.cell 6 _ rfl w3
          have r7 : ∀ w3 : Subtype (RowC wr.heap.size (acC ⟨1, s, addr, port, m, .slice aq m.qs.length cq, .slice aa m.an.length ca, .slice asv m.sv.length cs, .slice ad m.ad.length cd⟩).toArray 42), w3.1.cell? ⟨wr.heap.size, 7, none⟩ = some (.int .i64 s.qt) := fun w3 => RowC.cell 7 _ rfl w3
          have r8 : ∀ w3 : Subtype (RowC wr.heap.size (acC ⟨1, s, addr, port, m, .slice aq m.qs.length cq, .slice aa m.an.length ca, .slice asv m.sv.length cs, .slice ad m.ad.length cd⟩).toArray 42), w3.1.cell? ⟨wr.heap.size, 8, none⟩ = some (.int .i64 s.qc) := fun w3 => RowC.cell 8 _ rfl w3
          have r9 : ∀ w3 : Subtype (RowC wr.heap.size (acC ⟨1, s, addr, port, m, .slice aq m.qs.length cq, .slice aa m.an.length ca, .slice asv m.sv.length cs, .slice ad m.ad.length cd⟩).toArray 42), w3.1.cell? ⟨wr.heap.size, 9, none⟩ = some (.string (mk s.zone)) := fun w3 => RowC.cell 9 _ rfl w3
          have HADD := Go.Lib.hid hadd
          have HRADD := Go.Lib.hid hradd
          have HUP1 := Go.Lib.hid hup1
          have HSN1 := Go.Lib.hid hsn1
          have HC0 := Go.Lib.hid hC0
          clear hadd hradd hup1 hsn1 hC0
          go_wp2_with (first | refine wpList_load_mid rfl 42 (.tmp 40) rfl b (off + k * 26) rfl (acC ⟨1, s, addr, port, m, .slice aq m.qs.length cq, .slice aa m.an.length ca, .slice asv m.sv.length cs, .slice ad m.ad.length cd⟩) _ hrng Try.underlying42 rfl hasz ?_ | refine wpList_box rfl rfl 42 8 (.tmp 41) rfl rfl rfl (acC ⟨1, s, addr, port, m, .slice aq m.qs.length cq, .slice aa m.an.length ca, .slice asv m.sv.length cs, .slice ad m.ad.length cd⟩).toArray _ haz rfl rfl rfl hone ?_)
          clear hrng hone hasz haz
          clear hX
          refine Go.Mix.wp_region_mixT (Es := [3, 7, 8]) 9 (RowC wr.heap.size (acC ⟨1, s, addr, port, m, .slice aq m.qs.length cq, .slice aa m.an.length ca, .slice asv m.sv.length cs, .slice ad m.ad.length cd⟩).toArray 42) mixed (by kernel_rfl) HC0.out ?_
          iterate 3 (refine Go.Mix.mixT_step rfl (fun K hK => ?_); have HKK := Go.Lib.hid hK; clear hK; go_simp; refine HKK.out _ _ ?_; clear HKK K)
          refine Go.Mix.mixT_eff rfl (fun K hK => ?_)
          have HKK := Go.Lib.hid hK
          clear hK
          go_simp
          refine HADD.out.mono ?_; rintro e wa ⟨rfl, hTa, hba, hka⟩
          have ga : RowC wr.heap.size (acC ⟨1, s, addr, port, m, .slice aq m.qs.length cq, .slice aa m.an.length ca, .slice asv m.sv.length cs, .slice ad m.ad.length cd⟩).toArray 42 wa := hka.ty HTX.out.drew HGB.out (by decide) HC0.out
          have hRa : IsRef w.heap.size w2.heap.size most lst wa := IsRef.keeps (w := X.drew) HRX.out hka HTX.out.drew (Ne.symm HBC.out)
          have hbA := HBX.out.drew.trans hba
          have GA1 := Go.Lib.hid ga
          have HRA := Go.Lib.hid hRa
          have HTA := Go.Lib.hid hTa
          have HBA := Go.Lib.hid hbA
          clear ga hRa hTa hbA
          clear hba hka
          go_simp
          refine HKK.out _ _ GA1.out ?_
          clear HKK K
          iterate 3 (refine Go.Mix.mixT_step rfl (fun K hK => ?_); have HKK := Go.Lib.hid hK; clear hK; go_simp; refine HKK.out _ _ ?_; clear HKK K)
          refine Go.Mix.mixT_eff rfl (fun K hK => ?_)
          have HKK := Go.Lib.hid hK
          clear hK
          go_simp
          refine (flat_any s wa).mono ?_; rintro e wf ⟨rfl, hxf⟩
          have gf : RowC wr.heap.size (acC ⟨1, s, addr, port, m, .slice aq m.qs.length cq, .slice aa m.an.length ca, .slice asv m.sv.length cs, .slice ad m.ad.length cd⟩).toArray 42 wf := (hxf.block _ (Array.getElem?_eq_some_iff.1 GA1.out).1).trans GA1.out
          have hRf := HRA.out.below hxf
          have hTf := HTA.out.below hxf
          have hbf := HBA.out.trans (hxf.mono HBA.out.size)
          have GF := Go.Lib.hid gf
          have HRF := Go.Lib.hid hRf
          have HTF := Go.Lib.hid hTf
          have HBF := Go.Lib.hid hbf
          clear gf hRf hTf hbf
          clear hxf GA1 HRA HTA HBA
          go_simp
          refine HKK.out _ _ GF.out ?_
          clear HKK K
          refine Go.Mix.mixT_eff rfl (fun K hK => ?_)
          have HKK := Go.Lib.hid hK
          clear hK
          go_simp
          refine (HRADD.out wf HRF.out HBF.out.size).mono ?_; rintro e wg ⟨rfl, hRg, hbg, hkg⟩
          have gg : RowC wr.heap.size (acC ⟨1, s, addr, port, m, .slice aq m.qs.length cq, .slice aa m.an.length ca, .slice asv m.sv.length cs, .slice ad m.ad.length cd⟩).toArray 42 wg := hkg.row GF.out HGC.out
          have hTg : IsTab w.heap.size w1.heap.size (max most 0) r.1 wg := by
            obtain ⟨_, v, z1, _⟩ := HRF.out
            exact HTF.out.keepsC hkg HBC.out z1 (by decide)
          have hbg2 := HBF.out.trans hbg
          have GG := Go.Lib.hid gg
          have HRG := Go.Lib.hid hRg
          have HTG := Go.Lib.hid hTg
          have HBG := Go.Lib.hid hbg2
          clear gg hRg hTg hbg2
          clear hbg hkg GF HRF HTF HBF
          go_simp
          refine HKK.out _ _ GG.out ?_
          clear HKK K
          refine Go.Mix.mixT_last rfl (fun K hK => ?_)
          have HKK := Go.Lib.hid hK
          clear hK
          go_simp
          refine HKK.out _ _ ?_
          clear HKK K hne r1 r2 r3 r4 r5 r6 r7 r8 r9
          go_wp2_with fail
          refine (shows_any w.heap.size w1.heap.size w.heap.size w2.heap.size (max most 0) most r.1 wg HTG.out HRG.out (by omega)).mono ?_; rintro e wz ⟨rfl, hxz⟩
          have zT := (HTG.out).below hxz
          have zR := (HRG.out).below hxz
          have zb := (HBG.out).trans (hxz.mono (HBG.out).size)
          have ZT := Go.Lib.hid zT
          have ZR := Go.Lib.hid zR
          have ZB := Go.Lib.hid zb
          clear zT zR zb
          clear hxz
          go_wp2_with fail
          go_roundw
          case rel => exact ⟨k + 1, r.1, by go_num, by omega, ZT.out, ZR.out, HUP1.out, HSN1.out, by omega, ZB.out⟩
          case measure => simp [intOf]; omega
      · by_cases h2 : kd = 2
        · subst h2
          as_aux_lemma =>
            have hcal := Drop_any w.heap.size w1.heap.size (max most 0) lst s.job X HTX.out HUP.out (by omega) hszX
            have hrcal := fun W h1 h2 => refDrop_any w.heap.size w2.heap.size most lst s.job W h1 HUP.out (by omega) h2
            obtain ⟨hup1, hsn1, hlen1⟩ := drop_keep s.job HUP.out HSN.out
            generalize dropN lst s.job = r at *
            have HCAL := Go.Lib.hid hcal
            have HRCAL := Go.Lib.hid hrcal
            have HUP1 := Go.Lib.hid hup1
            have HSN1 := Go.Lib.hid hsn1
            clear hcal hrcal hup1 hsn1
            go_wp2_with (first | refine wpList_load_mid rfl 42 (.tmp 40) rfl b (off + k * 26) rfl (acC ⟨2, s, addr, port, m, .slice aq m.qs.length cq, .slice aa m.an.length ca, .slice asv m.sv.length cs, .slice ad m.ad.length cd⟩) _ hrng Try.underlying42 rfl hasz ?_ | refine wpList_box rfl rfl 42 8 (.tmp 41) rfl rfl rfl (acC ⟨2, s, addr, port, m, .slice aq m.qs.length cq, .slice aa m.an.length ca, .slice asv m.sv.length cs, .slice ad m.ad.length cd⟩).toArray _ haz rfl rfl rfl hone ?_)
            clear hrng hone hasz haz
            clear hX
            refine HCAL.out.mono ?_; rintro e wa ⟨rfl, hTa, hba, hka⟩
            have ga := hka.ty HTX.out HGB.out (by decide) HXH.out
            have hRa : IsRef w.heap.size w2.heap.size most lst wa := HRX.out.keeps hka HTX.out (Ne.symm HBC.out)
            have hba := HBX.out.trans hba
            clear hka HCAL
            clear d0 d1 d2 d3 d4 d5 d6 d7 d8 d9 d10 d11 d12 d13 d14 d15 d16 d17 d18 d19 d20 d21 d22 d23 d24 d25
            obtain ⟨Y, hY⟩ : ∃ Y, wa.alloc (.cells #[.int .i64 r.2.1.job, .int .i64 r.2.1.id, .int .i64 r.2.1.port, .string (mk r.2.1.sn), .int .i64 r.2.1.sa, .string (mk r.2.1.qn), .int .i64 r.2.1.qt, .int .i64 r.2.1.qc, .string (mk r.2.1.zone)] 36) = Y := ⟨_, rfl⟩
            have hYh : Y.heap[wa.heap.size]? = some (.cells (snA r.2.1) 36 (0, 0)) := by rw [← hY]; exact heap_alloc_new _ _
            have hwY : Below wa.heap.size wa Y := by rw [← hY]; exact (Below.refl _ _).alloc (Nat.le_refl _) _
            have gY := (hwY.block _ (Array.getElem?_eq_some_iff.1 ga).1).trans ga
            have hTY := hTa.below hwY
            have hRY := hRa.below hwY
            have hbY := hba.trans (hwY.mono hba.size)
            have hac : wa.heap.size ≠ w2.heap.size := by have := hRa.lt; omega
            have d1 : Y.cell? ⟨wr.heap.size, 1, none⟩ = some (.int .i64 s.job) := row_cell gY 1 _ rfl
            have HTY := Go.Lib.hid hTY
            have HRY := Go.Lib.hid hRY
            have HBY := Go.Lib.hid hbY
            have HYH := Go.Lib.hid hYh
            have HAC := Go.Lib.hid hac
            clear hTY hRY hbY hYh hac
            clear hTa hRa hba hwY ga gY HTX HRX HBX
            go_wp2_with fail
            clear hY
            refine (HRCAL.out Y HRY.out HBY.out.size).mono ?_; rintro e wc ⟨rfl, hRc, hbc2, hkc⟩
            have gc := hkc.row HYH.out HAC.out
            have hTc : IsTab w.heap.size w1.heap.size (max most 0) r.1 wc := by
              obtain ⟨_, v, z1, _⟩ := HRY.out
              exact HTY.out.keepsC hkc HBC.out z1 (by decide)
            have hbc3 := HBY.out.trans hbc2
            clear hkc hbc2 HRCAL
            clear d1
            obtain ⟨Z, hZ⟩ : ∃ Z, wc.alloc (.cells #[.int .i64 r.2.1.job, .int .i64 r.2.1.id, .int .i64 r.2.1.port, .string (mk r.2.1.sn), .int .i64 r.2.1.sa, .string (mk r.2.1.qn), .int .i64 r.2.1.qt, .int .i64 r.2.1.qc, .string (mk r.2.1.zone)] 46) = Z := ⟨_, rfl⟩
            have hZh : Z.heap[wc.heap.size]? = some (.cells (snA r.2.1) 46 (0, 0)) := by rw [← hZ]; exact heap_alloc_new _ _
            have hwZ : Below wc.heap.size wc Z := by rw [← hZ]; exact (Below.refl _ _).alloc (Nat.le_refl _) _
            have gZ := (hwZ.block _ (Array.getElem?_eq_some_iff.1 gc).1).trans gc
            have hTZ := hTc.below hwZ
            have hRZ := hRc.below hwZ
            have hbZ := hbc3.trans (hwZ.mono hbc3.size)
            have hl1 := (Array.getElem?_eq_some_iff.1 gZ).1
            have hl2 := (Array.getElem?_eq_some_iff.1 hZh).1
            obtain ⟨e0, e1, e2, e3, e4, e5, e6, e7, e8⟩ := SnBlk.of_heap gZ
            obtain ⟨f0, f1, f2, f3, f4, f5, f6, f7, f8⟩ := SnBlk.of_heap hZh
            have E0 := BelowC.cell (W := Z) e0 hl1
            have F0 := BelowC.cell (W := Z) f0 hl2
            have E1 := BelowC.cell (W := Z) e1 hl1
            have F1 := BelowC.cell (W := Z) f1 hl2
            have E2 := BelowC.cell (W := Z) e2 hl1
            have F2 := BelowC.cell (W := Z) f2 hl2
            have E3 := BelowC.cell (W := Z) e3 hl1
            have F3 := BelowC.cell (W := Z) f3 hl2
            have E4 := BelowC.cell (W := Z) e4 hl1
            have F4 := BelowC.cell (W := Z) f4 hl2
            have E5 := BelowC.cell (W := Z) e5 hl1
            have F5 := BelowC.cell (W := Z) f5 hl2
            have E6 := BelowC.cell (W := Z) e6 hl1
            have F6 := BelowC.cell (W := Z) f6 hl2
            have E7 := BelowC.cell (W := Z) e7 hl1
            have F7 := BelowC.cell (W := Z) f7 hl2
            have E8 := BelowC.cell (W := Z) e8 hl1
            have F8 := BelowC.cell (W := Z) f8 hl2
            have hne : Nonempty (Subtype (Below Z.heap.size Z)) := ⟨⟨Z, Below.refl _ _⟩⟩
            have hflat := fun W => flat_any r.2.1 W
            have HTZ := Go.Lib.hid hTZ
            have HRZ := Go.Lib.hid hRZ
            have HBZ := Go.Lib.hid hbZ
            have HFLAT := Go.Lib.hid hflat
            clear hTZ hRZ hbZ hflat
            clear hTc hRc hbc3 hwZ gc gZ hZh HTY HRY HBY HYH hl1 hl2 e0 e1 e2 e3 e4 e5 e6 e7 e8 f0 f1 f2 f3 f4 f5 f6 f7 f8
            go_wp2_with fail
            clear hZ
            refine Go.Mix.wp_region_mixT (Es := [1]) 8 (Below Z.heap.size Z) mixed (by kernel_rfl) (Below.refl _ _).drew ?_
            iterate 1 (refine Go.Mix.mixT_step rfl (fun K hK => ?_); have HKK := Go.Lib.hid hK; clear hK; go_simp; refine HKK.out _ _ ?_; clear HKK K)
            refine Go.Mix.mixT_eff rfl (fun K hK => ?_)
            have HKK := Go.Lib.hid hK
            clear hK
            go_simp
            refine (HFLAT.out _).mono ?_; rintro e wf ⟨rfl, hxf⟩
            have hbf : Below Z.heap.size Z wf := ((Below.refl Z.heap.size Z).drew).trans hxf
            have HBF := Go.Lib.hid hbf
            clear hbf
            clear hxf
            go_simp
            refine HKK.out _ _ HBF.out ?_
            clear HKK K
            iterate 6 (refine Go.Mix.mixT_step rfl (fun K hK => ?_); have HKK := Go.Lib.hid hK; clear hK; go_simp; refine HKK.out _ _ ?_; clear HKK K)
            refine Go.Mix.mixT_last rfl (fun K hK => ?_)
            have HKK := Go.Lib.hid hK
            clear hK
            go_simp
            refine HKK.out _ _ ?_
            clear HKK K hne E0 E1 E2 E3 E4 E5 E6 E7 E8 F0 F1 F2 F3 F4 F5 F6 F7 F8
            have hTf := HTZ.out.below HBF.out
            have hRf := HRZ.out.below HBF.out
            have hbf := HBZ.out.trans (HBF.out.mono HBZ.out.size)
            have HTF := Go.Lib.hid hTf
            have HRF := Go.Lib.hid hRf
            have HBG := Go.Lib.hid hbf
            clear hTf hRf hbf
            clear HTZ HRZ HBZ HBF
            go_wp2_with fail
            refine (shows_any w.heap.size w1.heap.size w.heap.size w2.heap.size (max most 0) most r.1 wf HTF.out HRF.out (by omega)).mono ?_; rintro e wz ⟨rfl, hxz⟩
            have zT := (HTF.out).below hxz
            have zR := (HRF.out).below hxz
            have zb := (HBG.out).trans (hxz.mono (HBG.out).size)
            have ZT := Go.Lib.hid zT
            have ZR := Go.Lib.hid zR
            have ZB := Go.Lib.hid zb
            clear zT zR zb
            clear hxz
            go_wp2_with fail
            go_roundw
            case rel => exact ⟨k + 1, r.1, by go_num, by omega, ZT.out, ZR.out, HUP1.out, HSN1.out, by omega, ZB.out⟩
            case measure => simp [intOf]; omega
        · by_cases h3 : kd = 3
          · subst h3
            as_aux_lemma =>
              have hcal := Match_any w.heap.size w1.heap.size (max most 0) lst addr port m _ _ _ _ X HTX.out (by omega) HMX.out HMO.out.qs HSN.out
              have hrcal := fun W h1 h2 => refMatch_any w.heap.size w2.heap.size most lst addr port m (.slice aq m.qs.length cq) (.slice aa m.an.length ca) (.slice asv m.sv.length cs) (.slice ad m.ad.length cd) W h1 (by omega) h2 HMO.out.qs HSN.out
              generalize matchN addr port m lst = r at *
              have HCAL := Go.Lib.hid hcal
              have HRCAL := Go.Lib.hid hrcal
              clear hcal hrcal
              go_wp2_with (first | refine wpList_load_mid rfl 42 (.tmp 40) rfl b (off + k * 26) rfl (acC ⟨3, s, addr, port, m, .slice aq m.qs.length cq, .slice aa m.an.length ca, .slice asv m.sv.length cs, .slice ad m.ad.length cd⟩) _ hrng Try.underlying42 rfl hasz ?_ | refine wpList_box rfl rfl 42 8 (.tmp 41) rfl rfl rfl (acC ⟨3, s, addr, port, m, .slice aq m.qs.length cq, .slice aa m.an.length ca, .slice asv m.sv.length cs, .slice ad m.ad.length cd⟩).toArray _ haz rfl rfl rfl hone ?_)
              clear hrng hone hasz haz
              clear hX
              refine HCAL.out.mono ?_; rintro e wa ⟨rfl, hxa⟩
              have ga := (hxa.block _ HLX.out).trans HXH.out
              have hTa := HTX.out.below hxa
              have hRa := HRX.out.below hxa
              have hba := HBX.out.trans (hxa.mono HBX.out.size)
              have hma := HMX.out.below hxa (Nat.le_refl _)
              clear hxa HCAL
              clear d0 d1 d2 d3 d4 d5 d6 d7 d8 d9 d10 d11 d12 d13 d14 d15 d16 d17 d18 d19 d20 d21 d22 d23 d24 d25
              obtain ⟨Y, hY⟩ : ∃ Y, wa.alloc (.cells #[.int .i64 r.1.job, .int .i64 r.1.id, .int .i64 r.1.port, .string (mk r.1.sn), .int .i64 r.1.sa, .string (mk r.1.qn), .int .i64 r.1.qt, .int .i64 r.1.qc, .string (mk r.1.zone)] 36) = Y := ⟨_, rfl⟩
              have hYh : Y.heap[wa.heap.size]? = some (.cells (snA r.1) 36 (0, 0)) := by rw [← hY]; exact heap_alloc_new _ _
              have hwY : Below wa.heap.size wa Y := by rw [← hY]; exact (Below.refl _ _).alloc (Nat.le_refl _) _
              have gY := (hwY.block _ (Array.getElem?_eq_some_iff.1 ga).1).trans ga
              have hTY := hTa.below hwY
              have hRY := hRa.below hwY
              have hbY := hba.trans (hwY.mono hba.size)
              have hac : wa.heap.size ≠ w2.heap.size := by have := hRa.lt; omega
              have d10 : Y.cell? ⟨wr.heap.size, 10, none⟩ = some (.int .i64 addr) := row_cell gY 10 _ rfl
              have d11 : Y.cell? ⟨wr.heap.size, 11, none⟩ = some (.int .i64 port) := row_cell gY 11 _ rfl
              have d12 : Y.cell? ⟨wr.heap.size, 12, none⟩ = some (.int .i64 m.id) := row_cell gY 12 _ rfl
              have d13 : Y.cell? ⟨wr.heap.size, 13, none⟩ = some (.bool m.resp) := row_cell gY 13 _ rfl
              have d14 : Y.cell? ⟨wr.heap.size, 14, none⟩ = some (.int .i64 m.op) := row_cell gY 14 _ rfl
              have d15 : Y.cell? ⟨wr.heap.size, 15, none⟩ = some (.bool m.auth) := row_cell gY 15 _ rfl
              have d16 : Y.cell? ⟨wr.heap.size, 16, none⟩ = some (.bool m.cut) := row_cell gY 16 _ rfl
              have d17 : Y.cell? ⟨wr.heap.size, 17, none⟩ = some (.bool m.des) := row_cell gY 17 _ rfl
              have d18 : Y.cell? ⟨wr.heap.size, 18, none⟩ = some (.bool m.avail) := row_cell gY 18 _ rfl
              have d19 : Y.cell? ⟨wr.heap.size, 19, none⟩ = some (.int .i64 m.code) := row_cell gY 19 _ rfl
              have d20 : Y.cell? ⟨wr.heap.size, 20, none⟩ = some (.slice aq m.qs.length cq) := row_cell gY 20 _ rfl
              have d21 : Y.cell? ⟨wr.heap.size, 21, none⟩ = some (.slice aa m.an.length ca) := row_cell gY 21 _ rfl
              have d22 : Y.cell? ⟨wr.heap.size, 22, none⟩ = some (.slice asv m.sv.length cs) := row_cell gY 22 _ rfl
              have d23 : Y.cell? ⟨wr.heap.size, 23, none⟩ = some (.slice ad m.ad.length cd) := row_cell gY 23 _ rfl
              have d24 : Y.cell? ⟨wr.heap.size, 24, none⟩ = some (.bool m.edns) := row_cell gY 24 _ rfl
              have d25 : Y.cell? ⟨wr.heap.size, 25, none⟩ = some (.int .i64 m.size) := row_cell gY 25 _ rfl
              have hmY := hma.below hwY (Nat.le_refl _)
              have HMY := Go.Lib.hid hmY
              clear hmY
              have HTY := Go.Lib.hid hTY
              have HRY := Go.Lib.hid hRY
              have HBY := Go.Lib.hid hbY
              have HYH := Go.Lib.hid hYh
              have HAC := Go.Lib.hid hac
              clear hTY hRY hbY hYh hac
              clear hTa hRa hba hwY ga gY HTX HRX HBX hma HMX
              go_wp2_with fail
              clear hY
              refine (HRCAL.out Y HRY.out HMY.out).mono ?_; rintro e wc ⟨rfl, hxc⟩
              have gc := (hxc.block _ (Array.getElem?_eq_some_iff.1 HYH.out).1).trans HYH.out
              have hTc := HTY.out.below hxc
              have hRc := HRY.out.below hxc
              have hbc3 := HBY.out.trans (hxc.mono HBY.out.size)
              clear hxc HRCAL
              clear d10 d11 d12 d13 d14 d15 d16 d17 d18 d19 d20 d21 d22 d23 d24 d25
              obtain ⟨Z, hZ⟩ : ∃ Z, wc.alloc (.cells #[.int .i64 r.1.job, .int .i64 r.1.id, .int .i64 r.1.port, .string (mk r.1.sn), .int .i64 r.1.sa, .string (mk r.1.qn), .int .i64 r.1.qt, .int .i64 r.1.qc, .string (mk r.1.zone)] 46) = Z := ⟨_, rfl⟩
              have hZh : Z.heap[wc.heap.size]? = some (.cells (snA r.1) 46 (0, 0)) := by rw [← hZ]; exact heap_alloc_new _ _
              have hwZ : Below wc.heap.size wc Z := by rw [← hZ]; exact (Below.refl _ _).alloc (Nat.le_refl _) _
              have gZ := (hwZ.block _ (Array.getElem?_eq_some_iff.1 gc).1).trans gc
              have hTZ := hTc.below hwZ
              have hRZ := hRc.below hwZ
              have hbZ := hbc3.trans (hwZ.mono hbc3.size)
              have hl1 := (Array.getElem?_eq_some_iff.1 gZ).1
              have hl2 := (Array.getElem?_eq_some_iff.1 hZh).1
              obtain ⟨e0, e1, e2, e3, e4, e5, e6, e7, e8⟩ := SnBlk.of_heap gZ
              obtain ⟨f0, f1, f2, f3, f4, f5, f6, f7, f8⟩ := SnBlk.of_heap hZh
              have E0 := BelowC.cell (W := Z) e0 hl1
              have F0 := BelowC.cell (W := Z) f0 hl2
              have E1 := BelowC.cell (W := Z) e1 hl1
              have F1 := BelowC.cell (W := Z) f1 hl2
              have E2 := BelowC.cell (W := Z) e2 hl1
              have F2 := BelowC.cell (W := Z) f2 hl2
              have E3 := BelowC.cell (W := Z) e3 hl1
              have F3 := BelowC.cell (W := Z) f3 hl2
              have E4 := BelowC.cell (W := Z) e4 hl1
              have F4 := BelowC.cell (W := Z) f4 hl2
              have E5 := BelowC.cell (W := Z) e5 hl1
              have F5 := BelowC.cell (W := Z) f5 hl2
              have E6 := BelowC.cell (W := Z) e6 hl1
              have F6 := BelowC.cell (W := Z) f6 hl2
              have E7 := BelowC.cell (W := Z) e7 hl1
              have F7 := BelowC.cell (W := Z) f7 hl2
              have E8 := BelowC.cell (W := Z) e8 hl1
              have F8 := BelowC.cell (W := Z) f8 hl2
              have hne : Nonempty (Subtype (Below Z.heap.size Z)) := ⟨⟨Z, Below.refl _ _⟩⟩
              have hflat := fun W => flat_any r.1 W
              have HTZ := Go.Lib.hid hTZ
              have HRZ := Go.Lib.hid hRZ
              have HBZ := Go.Lib.hid hbZ
              have HFLAT := Go.Lib.hid hflat
              clear hTZ hRZ hbZ hflat
              clear hTc hRc hbc3 hwZ gc gZ hZh HTY HRY HBY HYH hl1 hl2 e0 e1 e2 e3 e4 e5 e6 e7 e8 f0 f1 f2 f3 f4 f5 f6 f7 f8
              go_wp2_with fail
              clear hZ
              refine Go.Mix.wp_region_mixT (Es := [1]) 8 (Below Z.heap.size Z) mixed (by kernel_rfl) (Below.refl _ _).drew ?_
              iterate 1 (refine Go.Mix.mixT_step rfl (fun K hK => ?_); have HKK := Go.Lib.hid hK; clear hK; go_simp; refine HKK.out _ _ ?_; clear HKK K)
              refine Go.Mix.mixT_eff rfl (fun K hK => ?_)
              have HKK := Go.Lib.hid hK
              clear hK
              go_simp
              refine (HFLAT.out _).mono ?_; rintro e wf ⟨rfl, hxf⟩
              have hbf : Below Z.heap.size Z wf := ((Below.refl Z.heap.size Z).drew).trans hxf
              have HBF := Go.Lib.hid hbf
              clear hbf
              clear hxf
              go_simp
              refine HKK.out _ _ HBF.out ?_
              clear HKK K
              iterate 6 (refine Go.Mix.mixT_step rfl (fun K hK => ?_); have HKK := Go.Lib.hid hK; clear hK; go_simp; refine HKK.out _ _ ?_; clear HKK K)
              refine Go.Mix.mixT_last rfl (fun K hK => ?_)
              have HKK := Go.Lib.hid hK
              clear hK
              go_simp
              refine HKK.out _ _ ?_
              clear HKK K hne E0 E1 E2 E3 E4 E5 E6 E7 E8 F0 F1 F2 F3 F4 F5 F6 F7 F8
              have hTf := HTZ.out.below HBF.out
              have hRf := HRZ.out.below HBF.out
              have hbf := HBZ.out.trans (HBF.out.mono HBZ.out.size)
              have HTF := Go.Lib.hid hTf
              have HRF := Go.Lib.hid hRf
              have HBG := Go.Lib.hid hbf
              clear hTf hRf hbf
              clear HTZ HRZ HBZ HBF
              go_wp2_with fail
              refine (shows_any w.heap.size w1.heap.size w.heap.size w2.heap.size (max most 0) most lst wf HTF.out HRF.out (by omega)).mono ?_; rintro e wz ⟨rfl, hxz⟩
              have zT := (HTF.out).below hxz
              have zR := (HRF.out).below hxz
              have zb := (HBG.out).trans (hxz.mono (HBG.out).size)
              have ZT := Go.Lib.hid zT
              have ZR := Go.Lib.hid zR
              have ZB := Go.Lib.hid zb
              clear zT zR zb
              clear hxz
              go_wp2_with fail
              go_roundw
              case rel => exact ⟨k + 1, lst, by go_num, by omega, ZT.out, ZR.out, HUP.out, HSN.out, by omega, ZB.out⟩
              case measure => simp [intOf]; omega
          · by_cases h4 : kd = 4
            · subst h4
              as_aux_lemma =>
                have hcal := Of_any w.heap.size w1.heap.size (max most 0) lst s.job X HTX.out HUP.out (by omega)
                have hrcal := fun W h1 => refOf_any w.heap.size w2.heap.size most lst s.job W h1 HUP.out (by omega)
                generalize ofN lst s.job = r at *
                have HCAL := Go.Lib.hid hcal
                have HRCAL := Go.Lib.hid hrcal
                clear hcal hrcal
                go_wp2_with (first | refine wpList_load_mid rfl 42 (.tmp 40) rfl b (off + k * 26) rfl (acC ⟨4, s, addr, port, m, .slice aq m.qs.length cq, .slice aa m.an.length ca, .slice asv m.sv.length cs, .slice ad m.ad.length cd⟩) _ hrng Try.underlying42 rfl hasz ?_ | refine wpList_box rfl rfl 42 8 (.tmp 41) rfl rfl rfl (acC ⟨4, s, addr, port, m, .slice aq m.qs.length cq, .slice aa m.an.length ca, .slice asv m.sv.length cs, .slice ad m.ad.length cd⟩).toArray _ haz rfl rfl rfl hone ?_)
                clear hrng hone hasz haz
                clear hX
                refine HCAL.out.mono ?_; rintro e wa ⟨rfl, hxa⟩
                have ga := (hxa.block _ HLX.out).trans HXH.out
                have hTa := HTX.out.below hxa
                have hRa := HRX.out.below hxa
                have hba := HBX.out.trans (hxa.mono HBX.out.size)
                clear hxa HCAL
                clear d0 d1 d2 d3 d4 d5 d6 d7 d8 d9 d10 d11 d12 d13 d14 d15 d16 d17 d18 d19 d20 d21 d22 d23 d24 d25
                obtain ⟨Y, hY⟩ : ∃ Y, wa.alloc (.cells #[.int .i64 r.1.job, .int .i64 r.1.id, .int .i64 r.1.port, .string (mk r.1.sn), .int .i64 r.1.sa, .string (mk r.1.qn), .int .i64 r.1.qt, .int .i64 r.1.qc, .string (mk r.1.zone)] 36) = Y := ⟨_, rfl⟩
                have hYh : Y.heap[wa.heap.size]? = some (.cells (snA r.1) 36 (0, 0)) := by rw [← hY]; exact heap_alloc_new _ _
                have hwY : Below wa.heap.size wa Y := by rw [← hY]; exact (Below.refl _ _).alloc (Nat.le_refl _) _
                have gY := (hwY.block _ (Array.getElem?_eq_some_iff.1 ga).1).trans ga
                have hTY := hTa.below hwY
                have hRY := hRa.below hwY
                have hbY := hba.trans (hwY.mono hba.size)
                have hac : wa.heap.size ≠ w2.heap.size := by have := hRa.lt; omega
                have d1 : Y.cell? ⟨wr.heap.size, 1, none⟩ = some (.int .i64 s.job) := row_cell gY 1 _ rfl
                have HTY := Go.Lib.hid hTY
                have HRY := Go.Lib.hid hRY
                have HBY := Go.Lib.hid hbY
                have HYH := Go.Lib.hid hYh
                have HAC := Go.Lib.hid hac
                clear hTY hRY hbY hYh hac
                clear hTa hRa hba hwY ga gY HTX HRX HBX
                go_wp2_with fail
                clear hY
                refine (HRCAL.out Y HRY.out).mono ?_; rintro e wc ⟨rfl, hxc⟩
                have gc := (hxc.block _ (Array.getElem?_eq_some_iff.1 HYH.out).1).trans HYH.out
                have hTc := HTY.out.below hxc
                have hRc := HRY.out.below hxc
                have hbc3 := HBY.out.trans (hxc.mono HBY.out.size)
                clear hxc HRCAL
                clear d1
                obtain ⟨Z, hZ⟩ : ∃ Z, wc.alloc (.cells #[.int .i64 r.1.job, .int .i64 r.1.id, .int .i64 r.1.port, .string (mk r.1.sn), .int .i64 r.1.sa, .string (mk r.1.qn), .int .i64 r.1.qt, .int .i64 r.1.qc, .string (mk r.1.zone)] 46) = Z := ⟨_, rfl⟩
                have hZh : Z.heap[wc.heap.size]? = some (.cells (snA r.1) 46 (0, 0)) := by rw [← hZ]; exact heap_alloc_new _ _
                have hwZ : Below wc.heap.size wc Z := by rw [← hZ]; exact (Below.refl _ _).alloc (Nat.le_refl _) _
                have gZ := (hwZ.block _ (Array.getElem?_eq_some_iff.1 gc).1).trans gc
                have hTZ := hTc.below hwZ
                have hRZ := hRc.below hwZ
                have hbZ := hbc3.trans (hwZ.mono hbc3.size)
                have hl1 := (Array.getElem?_eq_some_iff.1 gZ).1
                have hl2 := (Array.getElem?_eq_some_iff.1 hZh).1
                obtain ⟨e0, e1, e2, e3, e4, e5, e6, e7, e8⟩ := SnBlk.of_heap gZ
                obtain ⟨f0, f1, f2, f3, f4, f5, f6, f7, f8⟩ := SnBlk.of_heap hZh
                have E0 := BelowC.cell (W := Z) e0 hl1
                have F0 := BelowC.cell (W := Z) f0 hl2
                have E1 := BelowC.cell (W := Z) e1 hl1
                have F1 := BelowC.cell (W := Z) f1 hl2
                have E2 := BelowC.cell (W := Z) e2 hl1
                have F2 := BelowC.cell (W := Z) f2 hl2
                have E3 := BelowC.cell (W := Z) e3 hl1
                have F3 := BelowC.cell (W := Z) f3 hl2
                have E4 := BelowC.cell (W := Z) e4 hl1
                have F4 := BelowC.cell (W := Z) f4 hl2
                have E5 := BelowC.cell (W := Z) e5 hl1
                have F5 := BelowC.cell (W := Z) f5 hl2
                have E6 := BelowC.cell (W := Z) e6 hl1
                have F6 := BelowC.cell (W := Z) f6 hl2
                have E7 := BelowC.cell (W := Z) e7 hl1
                have F7 := BelowC.cell (W := Z) f7 hl2
                have E8 := BelowC.cell (W := Z) e8 hl1
                have F8 := BelowC.cell (W := Z) f8 hl2
                have hne : Nonempty (Subtype (Below Z.heap.size Z)) := ⟨⟨Z, Below.refl _ _⟩⟩
                have hflat := fun W => flat_any r.1 W
                have HTZ := Go.Lib.hid hTZ
                have HRZ := Go.Lib.hid hRZ
                have HBZ := Go.Lib.hid hbZ
                have HFLAT := Go.Lib.hid hflat
                clear hTZ hRZ hbZ hflat
                clear hTc hRc hbc3 hwZ gc gZ hZh HTY HRY HBY HYH hl1 hl2 e0 e1 e2 e3 e4 e5 e6 e7 e8 f0 f1 f2 f3 f4 f5 f6 f7 f8
                go_wp2_with fail
                clear hZ
                refine Go.Mix.wp_region_mixT (Es := [1]) 8 (Below Z.heap.size Z) mixed (by kernel_rfl) (Below.refl _ _).drew ?_
                iterate 1 (refine Go.Mix.mixT_step rfl (fun K hK => ?_); have HKK := Go.Lib.hid hK; clear hK; go_simp; refine HKK.out _ _ ?_; clear HKK K)
                refine Go.Mix.mixT_eff rfl (fun K hK => ?_)
                have HKK := Go.Lib.hid hK
                clear hK
                go_simp
                refine (HFLAT.out _).mono ?_; rintro e wf ⟨rfl, hxf⟩
                have hbf : Below Z.heap.size Z wf := ((Below.refl Z.heap.size Z).drew).trans hxf
                have HBF := Go.Lib.hid hbf
                clear hbf
                clear hxf
                go_simp
                refine HKK.out _ _ HBF.out ?_
                clear HKK K
                iterate 6 (refine Go.Mix.mixT_step rfl (fun K hK => ?_); have HKK := Go.Lib.hid hK; clear hK; go_simp; refine HKK.out _ _ ?_; clear HKK K)
                refine Go.Mix.mixT_last rfl (fun K hK => ?_)
                have HKK := Go.Lib.hid hK
                clear hK
                go_simp
                refine HKK.out _ _ ?_
                clear HKK K hne E0 E1 E2 E3 E4 E5 E6 E7 E8 F0 F1 F2 F3 F4 F5 F6 F7 F8
                have hTf := HTZ.out.below HBF.out
                have hRf := HRZ.out.below HBF.out
                have hbf := HBZ.out.trans (HBF.out.mono HBZ.out.size)
                have HTF := Go.Lib.hid hTf
                have HRF := Go.Lib.hid hRf
                have HBG := Go.Lib.hid hbf
                clear hTf hRf hbf
                clear HTZ HRZ HBZ HBF
                go_wp2_with fail
                refine (shows_any w.heap.size w1.heap.size w.heap.size w2.heap.size (max most 0) most lst wf HTF.out HRF.out (by omega)).mono ?_; rintro e wz ⟨rfl, hxz⟩
                have zT := (HTF.out).below hxz
                have zR := (HRF.out).below hxz
                have zb := (HBG.out).trans (hxz.mono (HBG.out).size)
                have ZT := Go.Lib.hid zT
                have ZR := Go.Lib.hid zR
                have ZB := Go.Lib.hid zb
                clear zT zR zb
                clear hxz
                go_wp2_with fail
                go_roundw
                case rel => exact ⟨k + 1, lst, by go_num, by omega, ZT.out, ZR.out, HUP.out, HSN.out, by omega, ZB.out⟩
                case measure => simp [intOf]; omega
            · as_aux_lemma =>
                go_wp2_with (first | refine wpList_load_mid rfl 42 (.tmp 40) rfl b (off + k * 26) rfl (acC ⟨kd, s, addr, port, m, .slice aq m.qs.length cq, .slice aa m.an.length ca, .slice asv m.sv.length cs, .slice ad m.ad.length cd⟩) _ hrng Try.underlying42 rfl hasz ?_ | refine wpList_box rfl rfl 42 8 (.tmp 41) rfl rfl rfl (acC ⟨kd, s, addr, port, m, .slice aq m.qs.length cq, .slice aa m.an.length ca, .slice asv m.sv.length cs, .slice ad m.ad.length cd⟩).toArray _ haz rfl rfl rfl hone ?_)
                clear hrng hone hasz haz
                clear hX d0 d1 d2 d3 d4 d5 d6 d7 d8 d9 d10 d11 d12 d13 d14 d15 d16 d17 d18 d19 d20 d21 d22 d23 d24 d25
                refine (shows_any w.heap.size w1.heap.size w.heap.size w2.heap.size (max most 0) most lst X HTX.out HRX.out (by omega)).mono ?_; rintro e wz ⟨rfl, hxz⟩
                have zT := (HTX.out).below hxz
                have zR := (HRX.out).below hxz
                have zb := (HBX.out).trans (hxz.mono (HBX.out).size)
                have ZT := Go.Lib.hid zT
                have ZR := Go.Lib.hid zR
                have ZB := Go.Lib.hid zb
                clear zT zR zb
                clear hxz
                go_wp2_with fail
                go_roundw
                case rel => exact ⟨k + 1, lst, by go_num, by omega, ZT.out, ZR.out, HUP.out, HSN.out, by omega, ZB.out⟩
                case measure => simp [intOf]; omega
    · obtain rfl : k = n := by omega
      go_wp2_with fail
      refine (HAW.out _).mono ?_; rintro e wz ⟨rfl, hx⟩
      have hbz := HB.out.trans (hx.mono HB.out.size)
      have HBZ := Go.Lib.hid hbz
      clear hbz
      clear hx
      go_wp2_with fail
      go_ret
      exact ⟨rfl, HBZ.out⟩

theorem walk (most : Int) (a : Option Addr) (l : List Ac) (cap : Nat) (w : World) (_ : Fits most) (hst : Acs w (.slice a l.length cap) l) (hok : ∀ x ∈ l, AcOk w x) :
    Calls Try.prog 3 #[.int .i64 most, .slice a l.length cap] w fun e w' => e = .returned (.bool true) ∧ Below w.heap.size w w' := by
  have haw := Go.Lib.hid awake_any
  cases hf : fewA l with
  | false => exact t1 most l a cap w hst hok hf haw
  | true => exact t2 most l a cap w hst hok hf haw

set_option maxRecDepth 100000 in
theorem lifted (os : Os) (started : os.Started) (H : Type) (enc : TypeId × Value → H) :
    ReturnsInHanded {} Try.checked os 3 .any (Rows.flightActsSpec.pre6 enc Try.prog Try.f3 Rows.flightActsRow.domain false) (Rows.flightActsSpec.post enc Try.prog Try.f3 false true false false) := by
  refine returnsInHanded_of_change (C := Try.checked) own started (by kernel_rfl) Try.func3
    (ChangeSpec.witness6 (enc := enc) (C := Try.checked) false ⟨#[], #[.int .i64 0, .slice none 0 0], []⟩ 8 (by kernel_rfl) (by kernel_rfl) (by kernel_rfl) (by kernel_rfl)) ?_
  intro W base args ds gs before hval0 hW hcnd _
  have hval : ∀ (j : Nat) t v, Try.f3.params[j]? = some t → args[j]? = some v → Value.okWide Try.prog W .any base t v := hval0
  refine law_post enc 2 (by kernel_rfl) rfl rfl (by kernel_rfl) (fun ds h => match ds, h with | [_, _], _ => rfl) hW ?_
  obtain ⟨p, q, hA0, hV, rfl, _, _⟩ := hW
  have hA : DataW.TrodAll enc Try.prog W 0 (fun _ => true) true Try.f3.params.toList args.toList ds p := hA0
  rw [Try.params3] at hA hval
  obtain ⟨v0, vs0, d0, ds0, p0, q0, hargs, rfl, rfl, h0, r0⟩ := trodAll_cons hA
  obtain ⟨v1, vs1, d1, ds1, p1, q1, rfl, rfl, rfl, h1, r1⟩ := trodAll_cons r0
  obtain ⟨rfl, rfl, rfl⟩ := trodAll_nil r1
  obtain rfl : args = #[v0, v1] := by cases args; simp_all
  obtain ⟨a0, rfl, rfl, rfl, w0⟩ := open_int Try.underlying3 (hval 0 3 v0 rfl rfl) h0
  obtain ⟨a1, z1, c1, rfl, l1, w1⟩ := open_Acs (hval 1 22 v1 rfl rfl) h1
  exact walk a0 a1 z1 c1 W (fits_of_wf w0) l1 w1

theorem over : Rows.flightActsRow.holds Try.pinned (OpenSpec.ofChange Rows.flightActsSpec) :=
  OpenClaim.holds_of_wide 3 Try.f3 rfl rfl rfl rfl rfl rfl rfl ⟨rfl, rfl, rfl, rfl, rfl⟩ rfl rfl rfl rfl rfl (by kernel_rfl) Try.func3 (by kernel_rfl)
    (of_decide_eq_true (by kernel_rfl)) (by unfold Func.isWrapper; first | (rw [if_pos (by decide +kernel)]; kernel_rfl) | (rw [if_neg (by decide +kernel)]; exact ⟨rfl, rfl⟩))
    (fun os started H enc _ => lifted os started H enc)

/-- the statement -/
theorem proved : Rows.FlightActsSaid := over
#print axioms proved
end Go.Proofs.Ytblbphnmflbepaa.flightActs

