/- TreeBest: a name's zone is the closest one; each zone's own name is its; who serves an address serves just the zones that name it. For every input; no conditions. -/
import Derived.Test.YtkpcmnckdappnaaGreatG2
import Derived.Test.YtkpcmnckdappnaaGreatG9
import Derived.Test.YtkpcmnckdappnaaGreatG10
namespace Go.Proofs.YtkpcmnckdappnaaGreat.treeBest
open Go.ChangeShapes Go.WideShapes Go.ChangeAt Go.RowKit Go.Sort Go.Lib
open Go.ChangeMaps (open_string shut_string)
set_option maxRecDepth 100000
set_option linter.unusedVariables false
set_option linter.unusedSimpArgs false

theorem rUnd (a b : List UInt8) (w : World) (ha : a.length ≤ maxLen) (hb : b.length ≤ maxLen) : Calls Tryz.prog 15 #[.string (mk a), .string (mk b)] w fun e w' => e = .returned (.bool (Nm.underN a b)) ∧ Below w.heap.size w w' := by
  have h := refUnder_any (mk a) (mk b) w (by rw [size_mk]; exact ha) (by rw [size_mk]; exact hb)
  simp only [bl_mk] at h
  exact h
theorem rSam (a b : List UInt8) (w : World) (ha : a.length ≤ maxLen) (hb : b.length ≤ maxLen) : Calls Tryz.prog 16 #[.string (mk a), .string (mk b)] w fun e w' => e = .returned (.bool (Nm.sameN a b)) ∧ Below w.heap.size w w' := by
  have h := refSame_any (mk a) (mk b) w (by rw [size_mk]; exact ha) (by rw [size_mk]; exact hb)
  simp only [bl_mk] at h
  exact h
theorem rLes (a b : List UInt8) (w : World) (ha : a.length ≤ maxLen) (hb : b.length ≤ maxLen) : Calls Tryz.prog 25 #[.string (mk a), .string (mk b)] w fun e w' => e = .returned (.bool (Nm.lessN a b)) ∧ Below w.heap.size w w' := by
  have h := refLess_any (mk a) (mk b) w (by rw [size_mk]; exact ha) (by rw [size_mk]; exact hb)
  simp only [bl_mk] at h
  exact h
theorem any_take {α : Type} (p : α → Bool) (l : List α) (k : Nat) (d : α) (hk : k < l.length) : (l.take (k + 1)).any p = ((l.take k).any p || p (l.getD k d)) := by
  rw [List.take_succ_eq_append_getElem hk, List.any_append, List.getD_eq_getElem?_getD, List.getElem?_eq_getElem hk]
  simp
set_option maxHeartbeats 64000000 in
theorem walk (k q a : Int) (w : World) (hk : Fits k) (hq : Fits q) (ha : Fits a) : Calls Tryz.prog 6 #[.int .i64 k, .int .i64 q, .int .i64 a] w fun e w' => e = .returned (.bool true) ∧ Below w.heap.size w w' := by
  have mixed : Tryz.prog.follows .mixedOrders = true := by kernel_rfl
  unfold Fits at hq
  have haw := fun W => awake_any W
  have hask := fun W => asked_any q W (by omega) (by omega)
  have hzo := zones_any k w
  have hkk : (k % 4).toNat < 4 := by have := Int.emod_lt_of_pos k (show (0 : Int) < 4 by decide); have := Int.emod_nonneg k (show (4 : Int) ≠ 0 by decide); omega
  generalize (k % 4).toNat = kk at *
  obtain ⟨jj, hjj, hqn⟩ : ∃ jj, jj < 12 ∧ (askQ q).name = askN12.getD jj [] := ⟨(q % 12).toNat, by have := Int.emod_lt_of_pos q (show (0 : Int) < 12 by decide); have := Int.emod_nonneg q (show (12 : Int) ≠ 0 by decide); omega, rfl⟩
  have hpb := pb_all kk hkk jj hjj
  rw [← hqn] at hpb
  have hnl : (askQ q).name.length ≤ 1000 := by
    rw [hqn]
    have : ∀ j, j < 12 → (askN12.getD j []).length ≤ 1000 := by decide
    exact this jj hjj
  clear hqn hjj hq
  generalize askQ q = Q at *
  obtain ⟨qn, qt, qc⟩ := Q
  simp only at hpb hnl hask
  obtain ⟨b2, bu, hpi⟩ := pb_parts hpb
  have hnM : qn.length ≤ maxLen := by unfold maxLen; omega
  obtain ⟨hcn, hat⟩ := at_parts kk hkk a
  have hnz := fun B g z0 z1 z2 z3 W => New_Z4 kk hkk B g z0 z1 z2 z3 W
  have hbno := best_no kk hkk
  have hzz : (zonesZ kk).length = 4 := by obtain ⟨x0, x1, x2, x3, hz⟩ := zonesZ_four kk; rw [hz]; rfl
  have hzok := zonesZ_ok kk hkk
  have hbb : bestP (zonesZ kk) qn = ((bestP (zonesZ kk) qn).1, true) := by rw [← b2]
  clear hpb b2 hkk
  have HAW := Go.Lib.hid haw
  have HASK := Go.Lib.hid hask
  have HZO := Go.Lib.hid hzo
  have HNZ := Go.Lib.hid hnz
  have HPI := Go.Lib.hid hpi
  have HBNO := Go.Lib.hid hbno
  have HZZ := Go.Lib.hid hzz
  have HZOK := Go.Lib.hid hzok
  have HBB := Go.Lib.hid hbb
  have HCN := Go.Lib.hid hcn
  have HAT := Go.Lib.hid hat
  clear haw hask hzo hnz hpi hbno hzz hzok hbb hcn hat
  go_enter Tryz.func6, Tryz.ntmps6
  go_wp2_with fail
  refine HZO.out.mono ?_; rintro e W1 ⟨g, y0, y1, y2, y3, rfl, hp, hz4, _, _, _, hb1⟩
  have hnz := HNZ.out _ g y0 y1 y2 y3 W1 hz4 hp
  have hzn := hz4.zns
  obtain ⟨ga, hga⟩ : ∃ ga : Option Addr, some (⟨g, 0, none⟩ : Addr) = ga := ⟨_, rfl⟩
  rw [hga] at hzn hnz ⊢
  obtain ⟨T, hT⟩ : ∃ T : List Zn, [y0, y1, y2, y3] = T := ⟨_, rfl⟩
  have hTp : T.map Zn.p = zonesZ kk := by rw [← hT]; exact hp
  have hTl : T.length = 4 := by rw [← hT]; rfl
  rw [hT] at hzn
  clear hz4 hp hT hga
  have HNZ1 := Go.Lib.hid hnz
  have HB1 := Go.Lib.hid hb1
  have HZN1 := Go.Lib.hid hzn
  have HTP := Go.Lib.hid hTp
  have HTL := Go.Lib.hid hTl
  clear hnz hb1 hzn hTp hTl
  go_wp2_with fail
  refine HNZ1.out.mono ?_; rintro e W2 ⟨hb2, tb, T2, rfl, hT2, ht⟩
  have hzn2 := HZN1.out.below hb2
  have hb2' := HB1.out.trans (hb2.mono HB1.out.size)
  clear hb2
  have HB2 := Go.Lib.hid hb2'
  have HT2 := Go.Lib.hid hT2
  have HTR2 := Go.Lib.hid ht
  have HZN2 := Go.Lib.hid hzn2
  clear hb2' hT2 ht hzn2
  go_wp2_with fail
  refine (HASK.out W2).mono ?_; rintro e W3 ⟨rfl, hx3⟩
  obtain ⟨X, hX⟩ : ∃ X, W3.alloc (.cells #[.string (mk qn), .int .i64 qt, .int .i64 qc] 29) = X := ⟨_, rfl⟩
  have gX : X.heap[W3.heap.size]? = some (.cells #[.string (mk qn), .int .i64 qt, .int .i64 qc] 29 (0, 0)) := by rw [← hX]; exact World.alloc_heap_new _ _
  have hbX : Below W2.heap.size W2 X := hx3.trans (by rw [← hX]; exact (Below.refl _ W3).alloc hx3.size _)
  have htX := HTR2.out.below hbX
  have hznX := HZN2.out.below hbX
  have hbwX := HB2.out.trans (hbX.mono HB2.out.size)
  have k0 : X.cell? ⟨W3.heap.size, 0, none⟩ = some (.string (mk qn)) := row_cell gX 0 _ rfl
  have hbe := Best_any tb T2 qn X htX hnM
  rw [HT2.out, HBB.out] at hbe
  simp only at hbe
  have hbl : (bestP (zonesZ kk) qn).1.length ≤ maxLen := by have := best_len (n := qn) htX.t.ok; rw [HT2.out] at this; exact this
  generalize hbn : (bestP (zonesZ kk) qn).1 = bn at *
  clear hx3 hbX
  have GX := Go.Lib.hid gX
  have HTX := Go.Lib.hid htX
  have HZNX := Go.Lib.hid hznX
  have HBX := Go.Lib.hid hbwX
  have HBE := Go.Lib.hid hbe
  have HBL := Go.Lib.hid hbl
  have HBN := Go.Lib.hid hbn
  clear gX htX hznX hbwX hbe hbl hbn
  go_wp2_with fail
  refine HBE.out.mono ?_; rintro e W4 ⟨rfl, hx⟩
  have ht4 := HTX.out.below hx
  have hzn4 := HZNX.out.below hx
  have hb4 := HBX.out.trans (hx.mono HBX.out.size)
  have gq4 := heap_later hx GX.out
  have k0 : W4.cell? ⟨W3.heap.size, 0, none⟩ = some (.string (mk qn)) := row_cell gq4 0 _ rfl
  have hun := rUnd qn bn W4 hnM HBL.out
  rw [bu] at hun
  clear hx hX
  have HT4 := Go.Lib.hid ht4
  have HZN4 := Go.Lib.hid hzn4
  have HB4 := Go.Lib.hid hb4
  have GQ4 := Go.Lib.hid gq4
  have HUN := Go.Lib.hid hun
  clear ht4 hzn4 hb4 gq4 hun
  go_wp2_with fail
  refine HUN.out.mono ?_; rintro e W5 ⟨rfl, hx⟩
  have ht5 := HT4.out.below hx
  have hzn5 := HZN4.out.below hx
  have hb5 := HB4.out.trans (hx.mono HB4.out.size)
  have gq5 := heap_later hx GQ4.out
  have hzs := Zones_any tb T2 W5 ht5.t ht5.v ht5.d
  rw [HT2.out] at hzs
  have hzsl : (zonesP (zonesZ kk)).length = 4 := by have := zonesP_len (T := T2) ht5.d; rw [HT2.out] at this; rw [this, ← List.length_map (f := Zn.p), HT2.out]; exact HZZ.out
  have hzsm : ∀ x ∈ zonesP (zonesZ kk), x.length ≤ maxLen := fun x hx => by
    obtain ⟨z, hz, rfl⟩ := zonesP_mem.1 hx
    rw [Nm.foldN_length]
    have := HZOK.out z hz
    unfold okB at this
    simp only [Bool.and_eq_true, decide_eq_true_eq] at this
    unfold maxLen
    omega
  have hasm : ∀ x ∈ atP (zonesZ kk) a, x.length ≤ maxLen := fun x hx => by
    obtain ⟨z, hz, rfl⟩ := atP_len _ _ x hx
    rw [Nm.foldN_length]
    have := HZOK.out z hz
    unfold okB at this
    simp only [Bool.and_eq_true, decide_eq_true_eq] at this
    unfold maxLen
    omega
  clear hx k0
  generalize hZS : zonesP (zonesZ kk) = ZS at *
  have HT5 := Go.Lib.hid ht5
  have HZN5 := Go.Lib.hid hzn5
  have HB5 := Go.Lib.hid hb5
  have GQ5 := Go.Lib.hid gq5
  have HZS := Go.Lib.hid hzs
  have HZSL := Go.Lib.hid hzsl
  have HZSM := Go.Lib.hid hzsm
  have HASM := Go.Lib.hid hasm
  have HZS0 := Go.Lib.hid hZS
  clear ht5 hzn5 hb5 gq5 hzs hzsl hzsm hasm hZS
  go_wp2_with fail
  refine HZS.out.mono ?_; rintro e W6 ⟨v6, rfl, hs6, hx⟩
  have hs6' : Strs W6 v6 ZS := hs6
  obtain ⟨a6, c6, rfl, _, _⟩ := SlC.slice hs6'
  rw [HZSL.out]
  have ht6 := HT5.out.below hx
  have hzn6 := HZN5.out.below hx
  have hb6 := HB5.out.trans (hx.mono HB5.out.size)
  have gq6 := heap_later hx GQ5.out
  have hat6 := At_any tb T2 a W6 ht6.t ht6.v ht6.d
  rw [HT2.out] at hat6
  rw [HZSL.out] at hs6'
  clear hx hs6
  generalize hAS : atP (zonesZ kk) a = AS at *
  have HT6 := Go.Lib.hid ht6
  have HZN6 := Go.Lib.hid hzn6
  have HB6 := Go.Lib.hid hb6
  have GQ6 := Go.Lib.hid gq6
  have HAT6 := Go.Lib.hid hat6
  have HS6 := Go.Lib.hid hs6'
  have HAS0 := Go.Lib.hid hAS
  clear ht6 hzn6 hb6 gq6 hat6 hs6' hAS
  go_wp2_with fail
  refine HAT6.out.mono ?_; rintro e Y ⟨v7, rfl, hs7, hx⟩
  have hs7' : Strs Y v7 AS := hs7
  obtain ⟨a7, c7, rfl, _, _⟩ := SlC.slice hs7'
  have htY := HT6.out.below hx
  have hznY := HZN6.out.below hx
  have hbY := HB6.out.trans (hx.mono HB6.out.size)
  have gqY := heap_later hx GQ6.out
  have hzsY : Strs Y (.slice a6 4 c6) ZS := SlC.below HS6.out hx (Nat.le_refl _)
  clear hx hs7 HZS HAT6 HBE HTX HT4 HT5 HT6 HZN1 HZN2 HZNX HZN4 HZN5 HZN6 HB1 HB2 HBX HB4 HB5 HB6 HS6 GQ4 GQ5 GQ6 GX HNZ HNZ1 HASK HZO HUN HTR2
  generalize hasl : AS.length = AN at *
  obtain ⟨_, hac⟩ := slc_bounds hs7'
  obtain ⟨bs, hbs⟩ : ∃ bs, (zonesZ kk).map (hasA a) = bs := ⟨_, rfl⟩
  have hbsl : bs.length = 4 := by rw [← hbs, List.length_map]; exact HZZ.out
  have hcn := HCN.out
  have hat := HAT.out
  rw [hbs] at hcn hat
  have hstep := fun k (h : k < bs.length) => cntB_step h
  have hbsv := fun k (h : k < 4) => getD_map (hasA a) (zonesZ kk) k z0 false (by rw [HZZ.out]; exact h)
  rw [hbs] at hbsv
  have hcle := fun k => cntB_le bs k
  have hac2 : AN ≤ 4 := by have := hcle 4; omega
  clear HCN HAT hbs
  have HTY := Go.Lib.hid htY
  have HZNY := Go.Lib.hid hznY
  have HBY := Go.Lib.hid hbY
  have GQY := Go.Lib.hid gqY
  have HZSY := Go.Lib.hid hzsY
  have HASY := Go.Lib.hid hs7'
  have HASL := Go.Lib.hid hasl
  have HBSL := Go.Lib.hid hbsl
  have HCN := Go.Lib.hid hcn
  have HAT := Go.Lib.hid hat
  have HSTEP := Go.Lib.hid hstep
  have HBSV := Go.Lib.hid hbsv
  have HCLE := Go.Lib.hid hcle
  clear htY hznY hbY gqY hzsY hs7' hasl hbsl hcn hat hstep hbsv hcle
  have HPI := HPI
  go_wp2_with fail
  go_loopw [15, 16] (fun v15 v16 wr => ∃ i : Nat, v16 = .int .i64 i ∧ i ≤ 4 ∧ v15 = .int .i64 (cntB bs i) ∧ Below Y.heap.size Y wr) (fun _ v16 _ => 4 - (intOf v16).toNat)
  case atStart => exact ⟨0, rfl, by decide, rfl, Below.refl _ _⟩
  case round =>
    obtain ⟨i, rfl, hi4, rfl, hbr⟩ := hrel
    have hcl := HCLE.out i
    by_cases hi : i < 4
    · have hzi : (zonesZ kk).getD i z0 = (T.getD i zn0).p := by rw [← HTP.out]; exact getD_map Zn.p T i zn0 z0 (by rw [HTL.out]; exact hi)
      obtain ⟨q1, q2, q3, q4⟩ := HPI.out i hi
      have hbv := HBSV.out i hi
      have hati := HAT.out i hi
      have hst := HSTEP.out i (by rw [HBSL.out]; exact hi)
      rw [hzi] at q1 q2 q3 hati hbv
      have hok := map_okB HTP.out HZOK.out (T.getD i zn0) (zn_mem (by rw [HTL.out]; exact hi))
      have hznr := HZNY.out.below hbr
      have htr := HTY.out.below hbr
      rw [← HTL.out] at hznr
      obtain ⟨b, off, rfl, hbw, hcell⟩ := Zns.at hznr (by rw [HTL.out]; decide)
      obtain ⟨e0, _, e2, hzat⟩ := hcell i (by rw [HTL.out]; exact hi)
      rw [HTL.out] at hznr
      generalize T.getD i zn0 = zi at *
      have hnmM := hok.nmM
      have hl2 := hok.l2
      obtain ⟨znm, zra, zrc, zrs, zsa, zsc, zsv⟩ := zi
      simp only [Zn.p] at q1 q2 q3 hati hbv e0 e2 hzat hnmM hl2
      have hbe := Best_any tb T2 znm wr htr hnmM
      rw [HT2.out] at hbe
      have hol : (bestP (zonesZ kk) znm).1.length ≤ maxLen := by have := best_len (n := znm) htr.t.ok; rw [HT2.out] at this; exact this
      generalize bestP (zonesZ kk) znm = bp at *
      obtain ⟨on, ok⟩ := bp
      simp only at q1 q2 hbe hol
      subst q1
      have hi2 : (i : Int) < 4 := by omega
      have hsam := fun W => rSam on znm W hol hnmM
      have hund := fun W => rUnd qn znm W hnM hnmM
      have hunb := fun W => rUnd bn znm W HBL.out hnmM
      have hsv := hzat.sv
      simp only at hsv
      rw [q2] at hsam
      clear hcell hzat hok hznr htr hzi q2
      generalize hvv : bs.getD i false = vb at *
      generalize hNS : zsv.length = NS at *
      have HBE := Go.Lib.hid hbe
      have HSAM := Go.Lib.hid hsam
      have HUND := Go.Lib.hid hund
      have HUNB := Go.Lib.hid hunb
      have HSV := Go.Lib.hid hsv
      have HBR := Go.Lib.hid hbr
      have HATI := Go.Lib.hid hati
      have HBV := Go.Lib.hid hbv
      have HST := Go.Lib.hid hst
      have HQ3 := Go.Lib.hid q3
      have HQ4 := Go.Lib.hid q4
      have HVV := Go.Lib.hid hvv
      have HNS := Go.Lib.hid hNS
      clear hbe hsam hund hunb hsv hbr hati hbv hst q3 q4 hvv hNS
      go_wp2_with fail
      refine HBE.out.mono ?_; rintro e W1 ⟨rfl, hx⟩
      have hbr1 := HBR.out.trans (hx.mono HBR.out.size)
      have e0 : W1.cell? ⟨b, off + i * 3, none⟩ = some (.string (mk znm)) := (hx.cell (p := ⟨b, off + i * 3, none⟩) hbw).trans e0
      have e2' := (hx.cell (p := ⟨b, off + i * 3 + 2, none⟩) hbw).trans e2
      have hsv1 := SlC.below HSV.out hx (Nat.le_refl _)
      have hbw1 := Nat.lt_of_lt_of_le hbw hx.size
      have kq : W1.cell? ⟨W3.heap.size, 0, none⟩ = some (.string (mk qn)) := row_cell (heap_later hbr1 GQY.out) 0 _ rfl
      have hqlt : W3.heap.size < W1.heap.size := Nat.lt_of_lt_of_le (Array.getElem?_eq_some_iff.1 GQY.out).1 hbr1.size
      have hzs1 : Strs W1 (.slice a6 4 c6) ZS := SlC.below HZSY.out hbr1 (Nat.le_refl _)
      rw [← HZSL.out] at hzs1
      obtain ⟨bz, oz, rfl, hbz, hzc⟩ := Strs.at hzs1 (by rw [HZSL.out]; decide)
      have z1c := hzc i (by rw [HZSL.out]; exact hi)
      have D0 := BelowC.cell (W := W1) e0 hbw1
      have D1 := BelowC.cell (W := W1) kq hqlt
      have D2 := BelowC.cell (W := W1) z1c hbz
      have hne : Nonempty (Subtype (Below W1.heap.size W1)) := ⟨⟨W1, Below.refl _ _⟩⟩
      have HBC := Go.Lib.hid (show Below W1.heap.size W1 W1.drew from (Below.refl W1.heap.size W1).drew)
      have hzm1 := HZSM.out (ZS.getD i []) (getD_mem' (by rw [HZSL.out]; exact hi))
      clear hx hzs1 kq z1c e2 HBE HBR HSV hbw
      have HE0 := Go.Lib.hid e0
      have HBR1 := Go.Lib.hid hbr1
      have HE2 := Go.Lib.hid e2'
      have HSV1 := Go.Lib.hid hsv1
      have HZM1 := Go.Lib.hid hzm1
      have HZC := Go.Lib.hid hzc
      clear e0 hbr1 e2' hsv1 hzm1 hzc
      generalize ZS.getD i [] = zc at *
      generalize hu : Nm.underN qn znm = u at *
      have hq3 := HQ3.out
      have hq4 := HQ4.out
      cases u with
      | false =>
        by_cases h0 : 0 < i
        · as_aux_lemma =>
            obtain ⟨p, hp1⟩ : ∃ p : Nat, (i : Int) - 1 = p := ⟨i - 1, by omega⟩
            have hpi : p = i - 1 := by omega
            have hles := fun W => rLes (ZS.getD (i - 1) []) zc W (HZSM.out _ (getD_mem' (by rw [HZSL.out]; omega))) HZM1.out
            rw [hq4 h0] at hles
            have z2c := HZC.out (i - 1) (by rw [HZSL.out]; omega)
            rw [← hpi] at hles z2c
            generalize ZS.getD p [] = zd at *
            have D3 := BelowC.cell (W := W1) z2c hbz
            have hi0 : (0 : Int) < (i : Int) := by omega
            have w1 : IntKind.i64.wrap ((i : Int) - 1) = (p : Int) := by rw [hp1]; exact wrapi (by omega) (by omega)
            have hp4 : (p : Int) < 4 := by omega
            clear z2c hpi hp1 hq3 hq4
            have HLES := Go.Lib.hid hles
            clear hles
            go_wp2_with fail
            refine Go.Mix.wp_region_mix (Es := [9, 20, 28, 45]) (Below W1.heap.size W1) mixed (by kernel_rfl) (Below.refl _ _).drew (fun _ => ?_)
            iterate 9 (refine Go.Mix.mix_step rfl (fun K hK => ?_); have HKK := Go.Lib.hid hK; clear hK; go_simp; refine HKK.out _ _ ?_; clear HKK K)
            refine Go.Mix.mix_eff rfl (fun K hK => ?_)
            have HKK := Go.Lib.hid hK
            clear hK
            go_simp
            refine (HSAM.out _).mono ?_; rintro e wb1 ⟨rfl, hx⟩
            have hb := HBC.out.trans (hx.mono HBC.out.size)
            clear HBC
            have HBC := Go.Lib.hid hb
            clear hx hb
            go_simp
            refine HKK.out _ _ HBC.out ?_
            clear HKK K
            iterate 10 (refine Go.Mix.mix_step rfl (fun K hK => ?_); have HKK := Go.Lib.hid hK; clear hK; go_simp; refine HKK.out _ _ ?_; clear HKK K)
            refine Go.Mix.mix_eff rfl (fun K hK => ?_)
            have HKK := Go.Lib.hid hK
            clear hK
            go_simp
            refine (HUND.out _).mono ?_; rintro e wb2 ⟨rfl, hx⟩
            have hb := HBC.out.trans (hx.mono HBC.out.size)
            clear HBC
            have HBC := Go.Lib.hid hb
            clear hx hb
            go_simp
            refine HKK.out _ _ HBC.out ?_
            clear HKK K
            iterate 7 (refine Go.Mix.mix_step rfl (fun K hK => ?_); have HKK := Go.Lib.hid hK; clear hK; go_simp; refine HKK.out _ _ ?_; clear HKK K)
            refine Go.Mix.mix_eff rfl (fun K hK => ?_)
            have HKK := Go.Lib.hid hK
            clear hK
            go_simp
            refine HKK.out _ _ HBC.out ?_
            clear HKK K
            iterate 16 (refine Go.Mix.mix_step rfl (fun K hK => ?_); have HKK := Go.Lib.hid hK; clear hK; go_simp; refine HKK.out _ _ ?_; clear HKK K)
            refine Go.Mix.mix_eff rfl (fun K hK => ?_)
            have HKK := Go.Lib.hid hK
            clear hK
            go_simp
            refine (HLES.out _).mono ?_; rintro e wb3 ⟨rfl, hx⟩
            have hb := HBC.out.trans (hx.mono HBC.out.size)
            clear HBC
            have HBC := Go.Lib.hid hb
            clear hx hb
            go_simp
            refine HKK.out _ _ HBC.out ?_
            clear HKK K
            iterate 3 (refine Go.Mix.mix_step rfl (fun K hK => ?_); have HKK := Go.Lib.hid hK; clear hK; go_simp; refine HKK.out _ _ ?_; clear HKK K)
            refine Go.Mix.mix_nil ?_
            clear D0 D1 D2 hne
            clear D3 hi0 w1 hp4
            go_wp2_with fail
            go_loopw [19, 20] (fun v19 v20 wr => ∃ s : Nat, v20 = .int .i64 s ∧ s ≤ NS ∧ v19 = .bool ((zsv.take s).any fun x => decide (x.2 = a)) ∧ Below W1.heap.size W1 wr) (fun _ v20 _ => NS - (intOf v20).toNat)
            case atStart => exact ⟨0, rfl, Nat.zero_le _, rfl, HBC.out⟩
            case round =>
              obtain ⟨s, rfl, hs, rfl, hb'⟩ := hrel
              clear HBC
              have e2c : wr.cell? ⟨b, off + i * 3 + 2, none⟩ = some (.slice zsa NS zsc) := (hb'.cell (p := ⟨b, off + i * 3 + 2, none⟩) hbw1).trans HE2.out
              by_cases hlt : s < NS
              · have hsv' : Svs wr (.slice zsa zsv.length zsc) zsv := by rw [HNS.out]; exact SlC.below HSV1.out hb' (Nat.le_refl _)
                obtain ⟨bs', os, rfl, hbb, hc⟩ := Svs.at hsv' (by rw [HNS.out]; omega)
                obtain ⟨_, d1⟩ := hc s (by rw [HNS.out]; exact hlt)
                have hak := any_take (fun x : Sv => decide (x.2 = a)) zsv s s0 (by rw [HNS.out]; exact hlt)
                have hlt2 : (s : Int) < (NS : Int) := by omega
                have w1 : IntKind.i64.wrap ((s : Int) + 1) = (s : Int) + 1 := wrapi (by omega) (by omega)
                clear hsv' hc
                generalize zsv.getD s s0 = x at *
                obtain ⟨xn, xa⟩ := x
                simp only at hak d1
                generalize (zsv.take s).any (fun x => decide (x.2 = a)) = cur at *
                cases cur with
                | true =>
                  have hf : ((zsv.take (s + 1)).any fun x => decide (x.2 = a)) = true := by rw [hak]; rfl
                  clear hak
                  have HB' := Go.Lib.hid hb'
                  have HF := Go.Lib.hid hf
                  clear hb' hf
                  go_wp2_with fail
                  go_roundw
                  case rel => exact ⟨s + 1, by go_num, by omega, by rw [HF.out], HB'.out⟩
                  case measure => simp [intOf]; omega
                | false =>
                  by_cases hxa : xa = a
                  · have hf : ((zsv.take (s + 1)).any fun x => decide (x.2 = a)) = true := by rw [hak, decide_eq_true hxa]; rfl
                    have hxb : (xa == a) = true := beq_iff_eq.2 hxa
                    clear hak hxa
                    have HB' := Go.Lib.hid hb'
                    have HF := Go.Lib.hid hf
                    clear hb' hf
                    go_wp2_with fail
                    go_roundw
                    case rel => exact ⟨s + 1, by go_num, by omega, by rw [HF.out], HB'.out⟩
                    case measure => simp [intOf]; omega
                  · have hf : ((zsv.take (s + 1)).any fun x => decide (x.2 = a)) = false := by rw [hak, decide_eq_false hxa]; rfl
                    have hxb : (xa == a) = false := beq_eq_false_iff_ne.2 hxa
                    clear hak hxa
                    have HB' := Go.Lib.hid hb'
                    have HF := Go.Lib.hid hf
                    clear hb' hf
                    go_wp2_with fail
                    go_roundw
                    case rel => exact ⟨s + 1, by go_num, by omega, by rw [HF.out], HB'.out⟩
                    case measure => simp [intOf]; omega
              · obtain rfl : s = NS := by omega
                have hlt2 : ¬ (s : Int) < (s : Int) := by omega
                have hfin : ((zsv.take s).any fun x => decide (x.2 = a)) = vb := by
                  rw [← HNS.out, List.take_length]
                  exact HBV.out.symm
                rw [hfin]
                clear hfin
                have HB' := Go.Lib.hid hb'
                clear hb'
                go_wp2_with fail
                clear e2c
                go_loopw [21, 22] (fun v21 v22 wr => ∃ s : Nat, v22 = .int .i64 s ∧ s ≤ AN ∧ v21 = .bool ((AS.take s).any fun x => Nm.sameN x znm) ∧ Below W1.heap.size W1 wr) (fun _ v22 _ => AN - (intOf v22).toNat)
                case atStart => exact ⟨0, rfl, Nat.zero_le _, rfl, HB'.out⟩
                case round =>
                  obtain ⟨t, rfl, ht, rfl, hb3⟩ := hrel
                  clear HB'
                  by_cases hlt3 : t < AN
                  · have has' : Strs wr (.slice a7 AS.length c7) AS := by rw [HASL.out]; exact SlC.below HASY.out (HBR1.out.trans (hb3.mono HBR1.out.size)) (Nat.le_refl _)
                    obtain ⟨ba, oa, rfl, hbba, hca⟩ := Strs.at has' (by rw [HASL.out]; omega)
                    have d2 := hca t (by rw [HASL.out]; exact hlt3)
                    have hak := any_take (fun x => Nm.sameN x znm) AS t [] (by rw [HASL.out]; exact hlt3)
                    have hxl := HASM.out (AS.getD t []) (getD_mem' (by rw [HASL.out]; exact hlt3))
                    have hlt4 : (t : Int) < (AN : Int) := by omega
                    have w2 : IntKind.i64.wrap ((t : Int) + 1) = (t : Int) + 1 := wrapi (by omega) (by omega)
                    have hsm := fun W => rSam (AS.getD t []) znm W hxl hnmM
                    have n1 : wr.cell? ⟨b, off + i * 3, none⟩ = some (.string (mk znm)) := (hb3.cell (p := ⟨b, off + i * 3, none⟩) hbw1).trans HE0.out
                    have hbw3 := Nat.lt_of_lt_of_le hbw1 hb3.size
                    clear has' hca
                    generalize AS.getD t [] = x at *
                    have D5 := BelowC.cell (W := wr) d2 hbba
                    have D6 := BelowC.cell (W := wr) n1 hbw3
                    have hne3 : Nonempty (Subtype (Below wr.heap.size wr)) := ⟨⟨wr, Below.refl _ _⟩⟩
                    have HBC := Go.Lib.hid (show Below wr.heap.size wr wr.drew from (Below.refl wr.heap.size wr).drew)
                    clear d2 n1
                    generalize (AS.take t).any (fun x => Nm.sameN x znm) = cur at *
                    generalize Nm.sameN x znm = sx at *
                    cases cur with
                    | true =>
                      have hf : ((AS.take (t + 1)).any fun x => Nm.sameN x znm) = true := by rw [hak]; rfl
                      clear hak
                      have HB3 := Go.Lib.hid hb3
                      have HF := Go.Lib.hid hf
                      have HSM := Go.Lib.hid hsm
                      clear hb3 hf hsm
                      go_wp2_with fail
                      refine Go.Mix.wp_region_mix (Es := [11]) (Below wr.heap.size wr) mixed (by kernel_rfl) (Below.refl _ _).drew (fun _ => ?_)
                      iterate 11 (refine Go.Mix.mix_step rfl (fun K hK => ?_); have HKK := Go.Lib.hid hK; clear hK; go_simp; refine HKK.out _ _ ?_; clear HKK K)
                      refine Go.Mix.mix_eff rfl (fun K hK => ?_)
                      have HKK := Go.Lib.hid hK
                      clear hK
                      go_simp
                      refine HKK.out _ _ HBC.out ?_
                      clear HKK K
                      iterate 2 (refine Go.Mix.mix_step rfl (fun K hK => ?_); have HKK := Go.Lib.hid hK; clear hK; go_simp; refine HKK.out _ _ ?_; clear HKK K)
                      refine Go.Mix.mix_nil ?_
                      clear D5 D6 hne3
                      have hb4 := HB3.out.trans (HBC.out.mono HB3.out.size)
                      clear HBC
                      have HB4 := Go.Lib.hid hb4
                      clear hb4
                      go_wp2_with fail
                      go_roundw
                      case rel => exact ⟨t + 1, by go_num, by omega, by rw [HF.out], HB4.out⟩
                      case measure => simp [intOf]; omega
                    | false =>
                      have hf : ((AS.take (t + 1)).any fun x => Nm.sameN x znm) = sx := by rw [hak]; rfl
                      clear hak
                      have HB3 := Go.Lib.hid hb3
                      have HF := Go.Lib.hid hf
                      have HSM := Go.Lib.hid hsm
                      clear hb3 hf hsm
                      go_wp2_with fail
                      refine Go.Mix.wp_region_mix (Es := [11]) (Below wr.heap.size wr) mixed (by kernel_rfl) (Below.refl _ _).drew (fun _ => ?_)
                      iterate 11 (refine Go.Mix.mix_step rfl (fun K hK => ?_); have HKK := Go.Lib.hid hK; clear hK; go_simp; refine HKK.out _ _ ?_; clear HKK K)
                      refine Go.Mix.mix_eff rfl (fun K hK => ?_)
                      have HKK := Go.Lib.hid hK
                      clear hK
                      go_simp
                      refine (HSM.out _).mono ?_; rintro e wb4 ⟨rfl, hx⟩
                      have hb := HBC.out.trans (hx.mono HBC.out.size)
                      clear HBC
                      have HBC := Go.Lib.hid hb
                      clear hx hb
                      go_simp
                      refine HKK.out _ _ HBC.out ?_
                      clear HKK K
                      iterate 2 (refine Go.Mix.mix_step rfl (fun K hK => ?_); have HKK := Go.Lib.hid hK; clear hK; go_simp; refine HKK.out _ _ ?_; clear HKK K)
                      refine Go.Mix.mix_nil ?_
                      clear D5 D6 hne3
                      have hb4 := HB3.out.trans (HBC.out.mono HB3.out.size)
                      clear HBC
                      have HB4 := Go.Lib.hid hb4
                      clear hb4
                      go_wp2_with fail
                      go_roundw
                      case rel => exact ⟨t + 1, by go_num, by omega, by rw [HF.out], HB4.out⟩
                      case measure => simp [intOf]; omega
                  · obtain rfl : t = AN := by omega
                    have hlt4 : ¬ (t : Int) < (t : Int) := by omega
                    have hfin : ((AS.take t).any fun x => Nm.sameN x znm) = vb := by
                      rw [← HASL.out, List.take_length]
                      exact HATI.out
                    rw [hfin]
                    clear hfin
                    have hbY' := HBR1.out.trans (hb3.mono HBR1.out.size)
                    have w3 : IntKind.i64.wrap ((i : Int) + 1) = (i : Int) + 1 := wrapi (by omega) (by omega)
                    have w4 : IntKind.i64.wrap ((cntB bs i : Int) + 1) = (cntB bs i : Int) + 1 := wrapi (by omega) (by omega)
                    have hst' := HST.out
                    clear hb3
                    have HBY' := Go.Lib.hid hbY'
                    clear hbY'
                    cases vb with
                    | true =>
                      have hf : cntB bs (i + 1) = cntB bs i + 1 := hst'
                      clear hst'
                      have HF := Go.Lib.hid hf
                      clear hf
                      go_wp2_with fail
                      go_roundw
                      case rel => exact ⟨i + 1, by go_num, by omega, by rw [HF.out]; go_num, HBY'.out⟩
                      case measure => simp [intOf]; omega
                    | false =>
                      have hf : cntB bs (i + 1) = cntB bs i := hst'
                      clear hst' w4
                      have HF := Go.Lib.hid hf
                      clear hf
                      go_wp2_with fail
                      go_roundw
                      case rel => exact ⟨i + 1, by go_num, by omega, by rw [HF.out], HBY'.out⟩
                      case measure => simp [intOf]; omega
        · as_aux_lemma =>
            have hi0 : ¬ (0 : Int) < (i : Int) := by omega
            clear hq3 hq4
            go_wp2_with fail
            refine Go.Mix.wp_region_mix (Es := [9, 20, 28, 45]) (Below W1.heap.size W1) mixed (by kernel_rfl) (Below.refl _ _).drew (fun _ => ?_)
            iterate 9 (refine Go.Mix.mix_step rfl (fun K hK => ?_); have HKK := Go.Lib.hid hK; clear hK; go_simp; refine HKK.out _ _ ?_; clear HKK K)
            refine Go.Mix.mix_eff rfl (fun K hK => ?_)
            have HKK := Go.Lib.hid hK
            clear hK
            go_simp
            refine (HSAM.out _).mono ?_; rintro e wb5 ⟨rfl, hx⟩
            have hb := HBC.out.trans (hx.mono HBC.out.size)
            clear HBC
            have HBC := Go.Lib.hid hb
            clear hx hb
            go_simp
            refine HKK.out _ _ HBC.out ?_
            clear HKK K
            iterate 10 (refine Go.Mix.mix_step rfl (fun K hK => ?_); have HKK := Go.Lib.hid hK; clear hK; go_simp; refine HKK.out _ _ ?_; clear HKK K)
            refine Go.Mix.mix_eff rfl (fun K hK => ?_)
            have HKK := Go.Lib.hid hK
            clear hK
            go_simp
            refine (HUND.out _).mono ?_; rintro e wb6 ⟨rfl, hx⟩
            have hb := HBC.out.trans (hx.mono HBC.out.size)
            clear HBC
            have HBC := Go.Lib.hid hb
            clear hx hb
            go_simp
            refine HKK.out _ _ HBC.out ?_
            clear HKK K
            iterate 7 (refine Go.Mix.mix_step rfl (fun K hK => ?_); have HKK := Go.Lib.hid hK; clear hK; go_simp; refine HKK.out _ _ ?_; clear HKK K)
            refine Go.Mix.mix_eff rfl (fun K hK => ?_)
            have HKK := Go.Lib.hid hK
            clear hK
            go_simp
            refine HKK.out _ _ HBC.out ?_
            clear HKK K
            iterate 16 (refine Go.Mix.mix_step rfl (fun K hK => ?_); have HKK := Go.Lib.hid hK; clear hK; go_simp; refine HKK.out _ _ ?_; clear HKK K)
            refine Go.Mix.mix_eff rfl (fun K hK => ?_)
            have HKK := Go.Lib.hid hK
            clear hK
            go_simp
            refine HKK.out _ _ HBC.out ?_
            clear HKK K
            iterate 3 (refine Go.Mix.mix_step rfl (fun K hK => ?_); have HKK := Go.Lib.hid hK; clear hK; go_simp; refine HKK.out _ _ ?_; clear HKK K)
            refine Go.Mix.mix_nil ?_
            clear D0 D1 D2 hne
            clear hi0
            go_wp2_with fail
            go_loopw [19, 20] (fun v19 v20 wr => ∃ s : Nat, v20 = .int .i64 s ∧ s ≤ NS ∧ v19 = .bool ((zsv.take s).any fun x => decide (x.2 = a)) ∧ Below W1.heap.size W1 wr) (fun _ v20 _ => NS - (intOf v20).toNat)
            case atStart => exact ⟨0, rfl, Nat.zero_le _, rfl, HBC.out⟩
            case round =>
              obtain ⟨s, rfl, hs, rfl, hb'⟩ := hrel
              clear HBC
              have e2c : wr.cell? ⟨b, off + i * 3 + 2, none⟩ = some (.slice zsa NS zsc) := (hb'.cell (p := ⟨b, off + i * 3 + 2, none⟩) hbw1).trans HE2.out
              by_cases hlt : s < NS
              · have hsv' : Svs wr (.slice zsa zsv.length zsc) zsv := by rw [HNS.out]; exact SlC.below HSV1.out hb' (Nat.le_refl _)
                obtain ⟨bs', os, rfl, hbb, hc⟩ := Svs.at hsv' (by rw [HNS.out]; omega)
                obtain ⟨_, d1⟩ := hc s (by rw [HNS.out]; exact hlt)
                have hak := any_take (fun x : Sv => decide (x.2 = a)) zsv s s0 (by rw [HNS.out]; exact hlt)
                have hlt2 : (s : Int) < (NS : Int) := by omega
                have w1 : IntKind.i64.wrap ((s : Int) + 1) = (s : Int) + 1 := wrapi (by omega) (by omega)
                clear hsv' hc
                generalize zsv.getD s s0 = x at *
                obtain ⟨xn, xa⟩ := x
                simp only at hak d1
                generalize (zsv.take s).any (fun x => decide (x.2 = a)) = cur at *
                cases cur with
                | true =>
                  have hf : ((zsv.take (s + 1)).any fun x => decide (x.2 = a)) = true := by rw [hak]; rfl
                  clear hak
                  have HB' := Go.Lib.hid hb'
                  have HF := Go.Lib.hid hf
                  clear hb' hf
                  go_wp2_with fail
                  go_roundw
                  case rel => exact ⟨s + 1, by go_num, by omega, by rw [HF.out], HB'.out⟩
                  case measure => simp [intOf]; omega
                | false =>
                  by_cases hxa : xa = a
                  · have hf : ((zsv.take (s + 1)).any fun x => decide (x.2 = a)) = true := by rw [hak, decide_eq_true hxa]; rfl
                    have hxb : (xa == a) = true := beq_iff_eq.2 hxa
                    clear hak hxa
                    have HB' := Go.Lib.hid hb'
                    have HF := Go.Lib.hid hf
                    clear hb' hf
                    go_wp2_with fail
                    go_roundw
                    case rel => exact ⟨s + 1, by go_num, by omega, by rw [HF.out], HB'.out⟩
                    case measure => simp [intOf]; omega
                  · have hf : ((zsv.take (s + 1)).any fun x => decide (x.2 = a)) = false := by rw [hak, decide_eq_false hxa]; rfl
                    have hxb : (xa == a) = false := beq_eq_false_iff_ne.2 hxa
                    clear hak hxa
                    have HB' := Go.Lib.hid hb'
                    have HF := Go.Lib.hid hf
                    clear hb' hf
                    go_wp2_with fail
                    go_roundw
                    case rel => exact ⟨s + 1, by go_num, by omega, by rw [HF.out], HB'.out⟩
                    case measure => simp [intOf]; omega
              · obtain rfl : s = NS := by omega
                have hlt2 : ¬ (s : Int) < (s : Int) := by omega
                have hfin : ((zsv.take s).any fun x => decide (x.2 = a)) = vb := by
                  rw [← HNS.out, List.take_length]
                  exact HBV.out.symm
                rw [hfin]
                clear hfin
                have HB' := Go.Lib.hid hb'
                clear hb'
                go_wp2_with fail
                clear e2c
                go_loopw [21, 22] (fun v21 v22 wr => ∃ s : Nat, v22 = .int .i64 s ∧ s ≤ AN ∧ v21 = .bool ((AS.take s).any fun x => Nm.sameN x znm) ∧ Below W1.heap.size W1 wr) (fun _ v22 _ => AN - (intOf v22).toNat)
                case atStart => exact ⟨0, rfl, Nat.zero_le _, rfl, HB'.out⟩
                case round =>
                  obtain ⟨t, rfl, ht, rfl, hb3⟩ := hrel
                  clear HB'
                  by_cases hlt3 : t < AN
                  · have has' : Strs wr (.slice a7 AS.length c7) AS := by rw [HASL.out]; exact SlC.below HASY.out (HBR1.out.trans (hb3.mono HBR1.out.size)) (Nat.le_refl _)
                    obtain ⟨ba, oa, rfl, hbba, hca⟩ := Strs.at has' (by rw [HASL.out]; omega)
                    have d2 := hca t (by rw [HASL.out]; exact hlt3)
                    have hak := any_take (fun x => Nm.sameN x znm) AS t [] (by rw [HASL.out]; exact hlt3)
                    have hxl := HASM.out (AS.getD t []) (getD_mem' (by rw [HASL.out]; exact hlt3))
                    have hlt4 : (t : Int) < (AN : Int) := by omega
                    have w2 : IntKind.i64.wrap ((t : Int) + 1) = (t : Int) + 1 := wrapi (by omega) (by omega)
                    have hsm := fun W => rSam (AS.getD t []) znm W hxl hnmM
                    have n1 : wr.cell? ⟨b, off + i * 3, none⟩ = some (.string (mk znm)) := (hb3.cell (p := ⟨b, off + i * 3, none⟩) hbw1).trans HE0.out
                    have hbw3 := Nat.lt_of_lt_of_le hbw1 hb3.size
                    clear has' hca
                    generalize AS.getD t [] = x at *
                    have D5 := BelowC.cell (W := wr) d2 hbba
                    have D6 := BelowC.cell (W := wr) n1 hbw3
                    have hne3 : Nonempty (Subtype (Below wr.heap.size wr)) := ⟨⟨wr, Below.refl _ _⟩⟩
                    have HBC := Go.Lib.hid (show Below wr.heap.size wr wr.drew from (Below.refl wr.heap.size wr).drew)
                    clear d2 n1
                    generalize (AS.take t).any (fun x => Nm.sameN x znm) = cur at *
                    generalize Nm.sameN x znm = sx at *
                    cases cur with
                    | true =>
                      have hf : ((AS.take (t + 1)).any fun x => Nm.sameN x znm) = true := by rw [hak]; rfl
                      clear hak
                      have HB3 := Go.Lib.hid hb3
                      have HF := Go.Lib.hid hf
                      have HSM := Go.Lib.hid hsm
                      clear hb3 hf hsm
                      go_wp2_with fail
                      refine Go.Mix.wp_region_mix (Es := [11]) (Below wr.heap.size wr) mixed (by kernel_rfl) (Below.refl _ _).drew (fun _ => ?_)
                      iterate 11 (refine Go.Mix.mix_step rfl (fun K hK => ?_); have HKK := Go.Lib.hid hK; clear hK; go_simp; refine HKK.out _ _ ?_; clear HKK K)
                      refine Go.Mix.mix_eff rfl (fun K hK => ?_)
                      have HKK := Go.Lib.hid hK
                      clear hK
                      go_simp
                      refine HKK.out _ _ HBC.out ?_
                      clear HKK K
                      iterate 2 (refine Go.Mix.mix_step rfl (fun K hK => ?_); have HKK := Go.Lib.hid hK; clear hK; go_simp; refine HKK.out _ _ ?_; clear HKK K)
                      refine Go.Mix.mix_nil ?_
                      clear D5 D6 hne3
                      have hb4 := HB3.out.trans (HBC.out.mono HB3.out.size)
                      clear HBC
                      have HB4 := Go.Lib.hid hb4
                      clear hb4
                      go_wp2_with fail
                      go_roundw
                      case rel => exact ⟨t + 1, by go_num, by omega, by rw [HF.out], HB4.out⟩
                      case measure => simp [intOf]; omega
                    | false =>
                      have hf : ((AS.take (t + 1)).any fun x => Nm.sameN x znm) = sx := by rw [hak]; rfl
                      clear hak
                      have HB3 := Go.Lib.hid hb3
                      have HF := Go.Lib.hid hf
                      have HSM := Go.Lib.hid hsm
                      clear hb3 hf hsm
                      go_wp2_with fail
                      refine Go.Mix.wp_region_mix (Es := [11]) (Below wr.heap.size wr) mixed (by kernel_rfl) (Below.refl _ _).drew (fun _ => ?_)
                      iterate 11 (refine Go.Mix.mix_step rfl (fun K hK => ?_); have HKK := Go.Lib.hid hK; clear hK; go_simp; refine HKK.out _ _ ?_; clear HKK K)
                      refine Go.Mix.mix_eff rfl (fun K hK => ?_)
                      have HKK := Go.Lib.hid hK
                      clear hK
                      go_simp
                      refine (HSM.out _).mono ?_; rintro e wb7 ⟨rfl, hx⟩
                      have hb := HBC.out.trans (hx.mono HBC.out.size)
                      clear HBC
                      have HBC := Go.Lib.hid hb
                      clear hx hb
                      go_simp
                      refine HKK.out _ _ HBC.out ?_
                      clear HKK K
                      iterate 2 (refine Go.Mix.mix_step rfl (fun K hK => ?_); have HKK := Go.Lib.hid hK; clear hK; go_simp; refine HKK.out _ _ ?_; clear HKK K)
                      refine Go.Mix.mix_nil ?_
                      clear D5 D6 hne3
                      have hb4 := HB3.out.trans (HBC.out.mono HB3.out.size)
                      clear HBC
                      have HB4 := Go.Lib.hid hb4
                      clear hb4
                      go_wp2_with fail
                      go_roundw
                      case rel => exact ⟨t + 1, by go_num, by omega, by rw [HF.out], HB4.out⟩
                      case measure => simp [intOf]; omega
                  · obtain rfl : t = AN := by omega
                    have hlt4 : ¬ (t : Int) < (t : Int) := by omega
                    have hfin : ((AS.take t).any fun x => Nm.sameN x znm) = vb := by
                      rw [← HASL.out, List.take_length]
                      exact HATI.out
                    rw [hfin]
                    clear hfin
                    have hbY' := HBR1.out.trans (hb3.mono HBR1.out.size)
                    have w3 : IntKind.i64.wrap ((i : Int) + 1) = (i : Int) + 1 := wrapi (by omega) (by omega)
                    have w4 : IntKind.i64.wrap ((cntB bs i : Int) + 1) = (cntB bs i : Int) + 1 := wrapi (by omega) (by omega)
                    have hst' := HST.out
                    clear hb3
                    have HBY' := Go.Lib.hid hbY'
                    clear hbY'
                    cases vb with
                    | true =>
                      have hf : cntB bs (i + 1) = cntB bs i + 1 := hst'
                      clear hst'
                      have HF := Go.Lib.hid hf
                      clear hf
                      go_wp2_with fail
                      go_roundw
                      case rel => exact ⟨i + 1, by go_num, by omega, by rw [HF.out]; go_num, HBY'.out⟩
                      case measure => simp [intOf]; omega
                    | false =>
                      have hf : cntB bs (i + 1) = cntB bs i := hst'
                      clear hst' w4
                      have HF := Go.Lib.hid hf
                      clear hf
                      go_wp2_with fail
                      go_roundw
                      case rel => exact ⟨i + 1, by go_num, by omega, by rw [HF.out], HBY'.out⟩
                      case measure => simp [intOf]; omega
      | true =>
        have hub := hq3 rfl
        have hunb := fun W => HUNB.out W
        rw [hub] at hunb
        clear HUNB
        have HUNB := Go.Lib.hid hunb
        clear hunb
        by_cases h0 : 0 < i
        · as_aux_lemma =>
            obtain ⟨p, hp1⟩ : ∃ p : Nat, (i : Int) - 1 = p := ⟨i - 1, by omega⟩
            have hpi : p = i - 1 := by omega
            have hles := fun W => rLes (ZS.getD (i - 1) []) zc W (HZSM.out _ (getD_mem' (by rw [HZSL.out]; omega))) HZM1.out
            rw [hq4 h0] at hles
            have z2c := HZC.out (i - 1) (by rw [HZSL.out]; omega)
            rw [← hpi] at hles z2c
            generalize ZS.getD p [] = zd at *
            have D3 := BelowC.cell (W := W1) z2c hbz
            have hi0 : (0 : Int) < (i : Int) := by omega
            have w1 : IntKind.i64.wrap ((i : Int) - 1) = (p : Int) := by rw [hp1]; exact wrapi (by omega) (by omega)
            have hp4 : (p : Int) < 4 := by omega
            clear z2c hpi hp1 hq3 hq4
            have HLES := Go.Lib.hid hles
            clear hles
            go_wp2_with fail
            refine Go.Mix.wp_region_mix (Es := [9, 20, 28, 45]) (Below W1.heap.size W1) mixed (by kernel_rfl) (Below.refl _ _).drew (fun _ => ?_)
            iterate 9 (refine Go.Mix.mix_step rfl (fun K hK => ?_); have HKK := Go.Lib.hid hK; clear hK; go_simp; refine HKK.out _ _ ?_; clear HKK K)
            refine Go.Mix.mix_eff rfl (fun K hK => ?_)
            have HKK := Go.Lib.hid hK
            clear hK
            go_simp
            refine (HSAM.out _).mono ?_; rintro e wb8 ⟨rfl, hx⟩
            have hb := HBC.out.trans (hx.mono HBC.out.size)
            clear HBC
            have HBC := Go.Lib.hid hb
            clear hx hb
            go_simp
            refine HKK.out _ _ HBC.out ?_
            clear HKK K
            iterate 10 (refine Go.Mix.mix_step rfl (fun K hK => ?_); have HKK := Go.Lib.hid hK; clear hK; go_simp; refine HKK.out _ _ ?_; clear HKK K)
            refine Go.Mix.mix_eff rfl (fun K hK => ?_)
            have HKK := Go.Lib.hid hK
            clear hK
            go_simp
            refine (HUND.out _).mono ?_; rintro e wb9 ⟨rfl, hx⟩
            have hb := HBC.out.trans (hx.mono HBC.out.size)
            clear HBC
            have HBC := Go.Lib.hid hb
            clear hx hb
            go_simp
            refine HKK.out _ _ HBC.out ?_
            clear HKK K
            iterate 7 (refine Go.Mix.mix_step rfl (fun K hK => ?_); have HKK := Go.Lib.hid hK; clear hK; go_simp; refine HKK.out _ _ ?_; clear HKK K)
            refine Go.Mix.mix_eff rfl (fun K hK => ?_)
            have HKK := Go.Lib.hid hK
            clear hK
            go_simp
            refine (HUNB.out _).mono ?_; rintro e wb10 ⟨rfl, hx⟩
            have hb := HBC.out.trans (hx.mono HBC.out.size)
            clear HBC
            have HBC := Go.Lib.hid hb
            clear hx hb
            go_simp
            refine HKK.out _ _ HBC.out ?_
            clear HKK K
            iterate 16 (refine Go.Mix.mix_step rfl (fun K hK => ?_); have HKK := Go.Lib.hid hK; clear hK; go_simp; refine HKK.out _ _ ?_; clear HKK K)
            refine Go.Mix.mix_eff rfl (fun K hK => ?_)
            have HKK := Go.Lib.hid hK
            clear hK
            go_simp
            refine (HLES.out _).mono ?_; rintro e wb11 ⟨rfl, hx⟩
            have hb := HBC.out.trans (hx.mono HBC.out.size)
            clear HBC
            have HBC := Go.Lib.hid hb
            clear hx hb
            go_simp
            refine HKK.out _ _ HBC.out ?_
            clear HKK K
            iterate 3 (refine Go.Mix.mix_step rfl (fun K hK => ?_); have HKK := Go.Lib.hid hK; clear hK; go_simp; refine HKK.out _ _ ?_; clear HKK K)
            refine Go.Mix.mix_nil ?_
            clear D0 D1 D2 hne
            clear D3 hi0 w1 hp4
            go_wp2_with fail
            go_loopw [19, 20] (fun v19 v20 wr => ∃ s : Nat, v20 = .int .i64 s ∧ s ≤ NS ∧ v19 = .bool ((zsv.take s).any fun x => decide (x.2 = a)) ∧ Below W1.heap.size W1 wr) (fun _ v20 _ => NS - (intOf v20).toNat)
            case atStart => exact ⟨0, rfl, Nat.zero_le _, rfl, HBC.out⟩
            case round =>
              obtain ⟨s, rfl, hs, rfl, hb'⟩ := hrel
              clear HBC
              have e2c : wr.cell? ⟨b, off + i * 3 + 2, none⟩ = some (.slice zsa NS zsc) := (hb'.cell (p := ⟨b, off + i * 3 + 2, none⟩) hbw1).trans HE2.out
              by_cases hlt : s < NS
              · have hsv' : Svs wr (.slice zsa zsv.length zsc) zsv := by rw [HNS.out]; exact SlC.below HSV1.out hb' (Nat.le_refl _)
                obtain ⟨bs', os, rfl, hbb, hc⟩ := Svs.at hsv' (by rw [HNS.out]; omega)
                obtain ⟨_, d1⟩ := hc s (by rw [HNS.out]; exact hlt)
                have hak := any_take (fun x : Sv => decide (x.2 = a)) zsv s s0 (by rw [HNS.out]; exact hlt)
                have hlt2 : (s : Int) < (NS : Int) := by omega
                have w1 : IntKind.i64.wrap ((s : Int) + 1) = (s : Int) + 1 := wrapi (by omega) (by omega)
                clear hsv' hc
                generalize zsv.getD s s0 = x at *
                obtain ⟨xn, xa⟩ := x
                simp only at hak d1
                generalize (zsv.take s).any (fun x => decide (x.2 = a)) = cur at *
                cases cur with
                | true =>
                  have hf : ((zsv.take (s + 1)).any fun x => decide (x.2 = a)) = true := by rw [hak]; rfl
                  clear hak
                  have HB' := Go.Lib.hid hb'
                  have HF := Go.Lib.hid hf
                  clear hb' hf
                  go_wp2_with fail
                  go_roundw
                  case rel => exact ⟨s + 1, by go_num, by omega, by rw [HF.out], HB'.out⟩
                  case measure => simp [intOf]; omega
                | false =>
                  by_cases hxa : xa = a
                  · have hf : ((zsv.take (s + 1)).any fun x => decide (x.2 = a)) = true := by rw [hak, decide_eq_true hxa]; rfl
                    have hxb : (xa == a) = true := beq_iff_eq.2 hxa
                    clear hak hxa
                    have HB' := Go.Lib.hid hb'
                    have HF := Go.Lib.hid hf
                    clear hb' hf
                    go_wp2_with fail
                    go_roundw
                    case rel => exact ⟨s + 1, by go_num, by omega, by rw [HF.out], HB'.out⟩
                    case measure => simp [intOf]; omega
                  · have hf : ((zsv.take (s + 1)).any fun x => decide (x.2 = a)) = false := by rw [hak, decide_eq_false hxa]; rfl
                    have hxb : (xa == a) = false := beq_eq_false_iff_ne.2 hxa
                    clear hak hxa
                    have HB' := Go.Lib.hid hb'
                    have HF := Go.Lib.hid hf
                    clear hb' hf
                    go_wp2_with fail
                    go_roundw
                    case rel => exact ⟨s + 1, by go_num, by omega, by rw [HF.out], HB'.out⟩
                    case measure => simp [intOf]; omega
              · obtain rfl : s = NS := by omega
                have hlt2 : ¬ (s : Int) < (s : Int) := by omega
                have hfin : ((zsv.take s).any fun x => decide (x.2 = a)) = vb := by
                  rw [← HNS.out, List.take_length]
                  exact HBV.out.symm
                rw [hfin]
                clear hfin
                have HB' := Go.Lib.hid hb'
                clear hb'
                go_wp2_with fail
                clear e2c
                go_loopw [21, 22] (fun v21 v22 wr => ∃ s : Nat, v22 = .int .i64 s ∧ s ≤ AN ∧ v21 = .bool ((AS.take s).any fun x => Nm.sameN x znm) ∧ Below W1.heap.size W1 wr) (fun _ v22 _ => AN - (intOf v22).toNat)
                case atStart => exact ⟨0, rfl, Nat.zero_le _, rfl, HB'.out⟩
                case round =>
                  obtain ⟨t, rfl, ht, rfl, hb3⟩ := hrel
                  clear HB'
                  by_cases hlt3 : t < AN
                  · have has' : Strs wr (.slice a7 AS.length c7) AS := by rw [HASL.out]; exact SlC.below HASY.out (HBR1.out.trans (hb3.mono HBR1.out.size)) (Nat.le_refl _)
                    obtain ⟨ba, oa, rfl, hbba, hca⟩ := Strs.at has' (by rw [HASL.out]; omega)
                    have d2 := hca t (by rw [HASL.out]; exact hlt3)
                    have hak := any_take (fun x => Nm.sameN x znm) AS t [] (by rw [HASL.out]; exact hlt3)
                    have hxl := HASM.out (AS.getD t []) (getD_mem' (by rw [HASL.out]; exact hlt3))
                    have hlt4 : (t : Int) < (AN : Int) := by omega
                    have w2 : IntKind.i64.wrap ((t : Int) + 1) = (t : Int) + 1 := wrapi (by omega) (by omega)
                    have hsm := fun W => rSam (AS.getD t []) znm W hxl hnmM
                    have n1 : wr.cell? ⟨b, off + i * 3, none⟩ = some (.string (mk znm)) := (hb3.cell (p := ⟨b, off + i * 3, none⟩) hbw1).trans HE0.out
                    have hbw3 := Nat.lt_of_lt_of_le hbw1 hb3.size
                    clear has' hca
                    generalize AS.getD t [] = x at *
                    have D5 := BelowC.cell (W := wr) d2 hbba
                    have D6 := BelowC.cell (W := wr) n1 hbw3
                    have hne3 : Nonempty (Subtype (Below wr.heap.size wr)) := ⟨⟨wr, Below.refl _ _⟩⟩
                    have HBC := Go.Lib.hid (show Below wr.heap.size wr wr.drew from (Below.refl wr.heap.size wr).drew)
                    clear d2 n1
                    generalize (AS.take t).any (fun x => Nm.sameN x znm) = cur at *
                    generalize Nm.sameN x znm = sx at *
                    cases cur with
                    | true =>
                      have hf : ((AS.take (t + 1)).any fun x => Nm.sameN x znm) = true := by rw [hak]; rfl
                      clear hak
                      have HB3 := Go.Lib.hid hb3
                      have HF := Go.Lib.hid hf
                      have HSM := Go.Lib.hid hsm
                      clear hb3 hf hsm
                      go_wp2_with fail
                      refine Go.Mix.wp_region_mix (Es := [11]) (Below wr.heap.size wr) mixed (by kernel_rfl) (Below.refl _ _).drew (fun _ => ?_)
                      iterate 11 (refine Go.Mix.mix_step rfl (fun K hK => ?_); have HKK := Go.Lib.hid hK; clear hK; go_simp; refine HKK.out _ _ ?_; clear HKK K)
                      refine Go.Mix.mix_eff rfl (fun K hK => ?_)
                      have HKK := Go.Lib.hid hK
                      clear hK
                      go_simp
                      refine HKK.out _ _ HBC.out ?_
                      clear HKK K
                      iterate 2 (refine Go.Mix.mix_step rfl (fun K hK => ?_); have HKK := Go.Lib.hid hK; clear hK; go_simp; refine HKK.out _ _ ?_; clear HKK K)
                      refine Go.Mix.mix_nil ?_
                      clear D5 D6 hne3
                      have hb4 := HB3.out.trans (HBC.out.mono HB3.out.size)
                      clear HBC
                      have HB4 := Go.Lib.hid hb4
                      clear hb4
                      go_wp2_with fail
                      go_roundw
                      case rel => exact ⟨t + 1, by go_num, by omega, by rw [HF.out], HB4.out⟩
                      case measure => simp [intOf]; omega
                    | false =>
                      have hf : ((AS.take (t + 1)).any fun x => Nm.sameN x znm) = sx := by rw [hak]; rfl
                      clear hak
                      have HB3 := Go.Lib.hid hb3
                      have HF := Go.Lib.hid hf
                      have HSM := Go.Lib.hid hsm
                      clear hb3 hf hsm
                      go_wp2_with fail
                      refine Go.Mix.wp_region_mix (Es := [11]) (Below wr.heap.size wr) mixed (by kernel_rfl) (Below.refl _ _).drew (fun _ => ?_)
                      iterate 11 (refine Go.Mix.mix_step rfl (fun K hK => ?_); have HKK := Go.Lib.hid hK; clear hK; go_simp; refine HKK.out _ _ ?_; clear HKK K)
                      refine Go.Mix.mix_eff rfl (fun K hK => ?_)
                      have HKK := Go.Lib.hid hK
                      clear hK
                      go_simp
                      refine (HSM.out _).mono ?_; rintro e wb12 ⟨rfl, hx⟩
                      have hb := HBC.out.trans (hx.mono HBC.out.size)
                      clear HBC
                      have HBC := Go.Lib.hid hb
                      clear hx hb
                      go_simp
                      refine HKK.out _ _ HBC.out ?_
                      clear HKK K
                      iterate 2 (refine Go.Mix.mix_step rfl (fun K hK => ?_); have HKK := Go.Lib.hid hK; clear hK; go_simp; refine HKK.out _ _ ?_; clear HKK K)
                      refine Go.Mix.mix_nil ?_
                      clear D5 D6 hne3
                      have hb4 := HB3.out.trans (HBC.out.mono HB3.out.size)
                      clear HBC
                      have HB4 := Go.Lib.hid hb4
                      clear hb4
                      go_wp2_with fail
                      go_roundw
                      case rel => exact ⟨t + 1, by go_num, by omega, by rw [HF.out], HB4.out⟩
                      case measure => simp [intOf]; omega
                  · obtain rfl : t = AN := by omega
                    have hlt4 : ¬ (t : Int) < (t : Int) := by omega
                    have hfin : ((AS.take t).any fun x => Nm.sameN x znm) = vb := by
                      rw [← HASL.out, List.take_length]
                      exact HATI.out
                    rw [hfin]
                    clear hfin
                    have hbY' := HBR1.out.trans (hb3.mono HBR1.out.size)
                    have w3 : IntKind.i64.wrap ((i : Int) + 1) = (i : Int) + 1 := wrapi (by omega) (by omega)
                    have w4 : IntKind.i64.wrap ((cntB bs i : Int) + 1) = (cntB bs i : Int) + 1 := wrapi (by omega) (by omega)
                    have hst' := HST.out
                    clear hb3
                    have HBY' := Go.Lib.hid hbY'
                    clear hbY'
                    cases vb with
                    | true =>
                      have hf : cntB bs (i + 1) = cntB bs i + 1 := hst'
                      clear hst'
                      have HF := Go.Lib.hid hf
                      clear hf
                      go_wp2_with fail
                      go_roundw
                      case rel => exact ⟨i + 1, by go_num, by omega, by rw [HF.out]; go_num, HBY'.out⟩
                      case measure => simp [intOf]; omega
                    | false =>
                      have hf : cntB bs (i + 1) = cntB bs i := hst'
                      clear hst' w4
                      have HF := Go.Lib.hid hf
                      clear hf
                      go_wp2_with fail
                      go_roundw
                      case rel => exact ⟨i + 1, by go_num, by omega, by rw [HF.out], HBY'.out⟩
                      case measure => simp [intOf]; omega
        · as_aux_lemma =>
            have hi0 : ¬ (0 : Int) < (i : Int) := by omega
            clear hq3 hq4
            go_wp2_with fail
            refine Go.Mix.wp_region_mix (Es := [9, 20, 28, 45]) (Below W1.heap.size W1) mixed (by kernel_rfl) (Below.refl _ _).drew (fun _ => ?_)
            iterate 9 (refine Go.Mix.mix_step rfl (fun K hK => ?_); have HKK := Go.Lib.hid hK; clear hK; go_simp; refine HKK.out _ _ ?_; clear HKK K)
            refine Go.Mix.mix_eff rfl (fun K hK => ?_)
            have HKK := Go.Lib.hid hK
            clear hK
            go_simp
            refine (HSAM.out _).mono ?_; rintro e wb13 ⟨rfl, hx⟩
            have hb := HBC.out.trans (hx.mono HBC.out.size)
            clear HBC
            have HBC := Go.Lib.hid hb
            clear hx hb
            go_simp
            refine HKK.out _ _ HBC.out ?_
            clear HKK K
            iterate 10 (refine Go.Mix.mix_step rfl (fun K hK => ?_); have HKK := Go.Lib.hid hK; clear hK; go_simp; refine HKK.out _ _ ?_; clear HKK K)
            refine Go.Mix.mix_eff rfl (fun K hK => ?_)
            have HKK := Go.Lib.hid hK
            clear hK
            go_simp
            refine (HUND.out _).mono ?_; rintro e wb14 ⟨rfl, hx⟩
            have hb := HBC.out.trans (hx.mono HBC.out.size)
            clear HBC
            have HBC := Go.Lib.hid hb
            clear hx hb
            go_simp
            refine HKK.out _ _ HBC.out ?_
            clear HKK K
            iterate 7 (refine Go.Mix.mix_step rfl (fun K hK => ?_); have HKK := Go.Lib.hid hK; clear hK; go_simp; refine HKK.out _ _ ?_; clear HKK K)
            refine Go.Mix.mix_eff rfl (fun K hK => ?_)
            have HKK := Go.Lib.hid hK
            clear hK
            go_simp
            refine (HUNB.out _).mono ?_; rintro e wb15 ⟨rfl, hx⟩
            have hb := HBC.out.trans (hx.mono HBC.out.size)
            clear HBC
            have HBC := Go.Lib.hid hb
            clear hx hb
            go_simp
            refine HKK.out _ _ HBC.out ?_
            clear HKK K
            iterate 16 (refine Go.Mix.mix_step rfl (fun K hK => ?_); have HKK := Go.Lib.hid hK; clear hK; go_simp; refine HKK.out _ _ ?_; clear HKK K)
            refine Go.Mix.mix_eff rfl (fun K hK => ?_)
            have HKK := Go.Lib.hid hK
            clear hK
            go_simp
            refine HKK.out _ _ HBC.out ?_
            clear HKK K
            iterate 3 (refine Go.Mix.mix_step rfl (fun K hK => ?_); have HKK := Go.Lib.hid hK; clear hK; go_simp; refine HKK.out _ _ ?_; clear HKK K)
            refine Go.Mix.mix_nil ?_
            clear D0 D1 D2 hne
            clear hi0
            go_wp2_with fail
            go_loopw [19, 20] (fun v19 v20 wr => ∃ s : Nat, v20 = .int .i64 s ∧ s ≤ NS ∧ v19 = .bool ((zsv.take s).any fun x => decide (x.2 = a)) ∧ Below W1.heap.size W1 wr) (fun _ v20 _ => NS - (intOf v20).toNat)
            case atStart => exact ⟨0, rfl, Nat.zero_le _, rfl, HBC.out⟩
            case round =>
              obtain ⟨s, rfl, hs, rfl, hb'⟩ := hrel
              clear HBC
              have e2c : wr.cell? ⟨b, off + i * 3 + 2, none⟩ = some (.slice zsa NS zsc) := (hb'.cell (p := ⟨b, off + i * 3 + 2, none⟩) hbw1).trans HE2.out
              by_cases hlt : s < NS
              · have hsv' : Svs wr (.slice zsa zsv.length zsc) zsv := by rw [HNS.out]; exact SlC.below HSV1.out hb' (Nat.le_refl _)
                obtain ⟨bs', os, rfl, hbb, hc⟩ := Svs.at hsv' (by rw [HNS.out]; omega)
                obtain ⟨_, d1⟩ := hc s (by rw [HNS.out]; exact hlt)
                have hak := any_take (fun x : Sv => decide (x.2 = a)) zsv s s0 (by rw [HNS.out]; exact hlt)
                have hlt2 : (s : Int) < (NS : Int) := by omega
                have w1 : IntKind.i64.wrap ((s : Int) + 1) = (s : Int) + 1 := wrapi (by omega) (by omega)
                clear hsv' hc
                generalize zsv.getD s s0 = x at *
                obtain ⟨xn, xa⟩ := x
                simp only at hak d1
                generalize (zsv.take s).any (fun x => decide (x.2 = a)) = cur at *
                cases cur with
                | true =>
                  have hf : ((zsv.take (s + 1)).any fun x => decide (x.2 = a)) = true := by rw [hak]; rfl
                  clear hak
                  have HB' := Go.Lib.hid hb'
                  have HF := Go.Lib.hid hf
                  clear hb' hf
                  go_wp2_with fail
                  go_roundw
                  case rel => exact ⟨s + 1, by go_num, by omega, by rw [HF.out], HB'.out⟩
                  case measure => simp [intOf]; omega
                | false =>
                  by_cases hxa : xa = a
                  · have hf : ((zsv.take (s + 1)).any fun x => decide (x.2 = a)) = true := by rw [hak, decide_eq_true hxa]; rfl
                    have hxb : (xa == a) = true := beq_iff_eq.2 hxa
                    clear hak hxa
                    have HB' := Go.Lib.hid hb'
                    have HF := Go.Lib.hid hf
                    clear hb' hf
                    go_wp2_with fail
                    go_roundw
                    case rel => exact ⟨s + 1, by go_num, by omega, by rw [HF.out], HB'.out⟩
                    case measure => simp [intOf]; omega
                  · have hf : ((zsv.take (s + 1)).any fun x => decide (x.2 = a)) = false := by rw [hak, decide_eq_false hxa]; rfl
                    have hxb : (xa == a) = false := beq_eq_false_iff_ne.2 hxa
                    clear hak hxa
                    have HB' := Go.Lib.hid hb'
                    have HF := Go.Lib.hid hf
                    clear hb' hf
                    go_wp2_with fail
                    go_roundw
                    case rel => exact ⟨s + 1, by go_num, by omega, by rw [HF.out], HB'.out⟩
                    case measure => simp [intOf]; omega
              · obtain rfl : s = NS := by omega
                have hlt2 : ¬ (s : Int) < (s : Int) := by omega
                have hfin : ((zsv.take s).any fun x => decide (x.2 = a)) = vb := by
                  rw [← HNS.out, List.take_length]
                  exact HBV.out.symm
                rw [hfin]
                clear hfin
                have HB' := Go.Lib.hid hb'
                clear hb'
                go_wp2_with fail
                clear e2c
                go_loopw [21, 22] (fun v21 v22 wr => ∃ s : Nat, v22 = .int .i64 s ∧ s ≤ AN ∧ v21 = .bool ((AS.take s).any fun x => Nm.sameN x znm) ∧ Below W1.heap.size W1 wr) (fun _ v22 _ => AN - (intOf v22).toNat)
                case atStart => exact ⟨0, rfl, Nat.zero_le _, rfl, HB'.out⟩
                case round =>
                  obtain ⟨t, rfl, ht, rfl, hb3⟩ := hrel
                  clear HB'
                  by_cases hlt3 : t < AN
                  · have has' : Strs wr (.slice a7 AS.length c7) AS := by rw [HASL.out]; exact SlC.below HASY.out (HBR1.out.trans (hb3.mono HBR1.out.size)) (Nat.le_refl _)
                    obtain ⟨ba, oa, rfl, hbba, hca⟩ := Strs.at has' (by rw [HASL.out]; omega)
                    have d2 := hca t (by rw [HASL.out]; exact hlt3)
                    have hak := any_take (fun x => Nm.sameN x znm) AS t [] (by rw [HASL.out]; exact hlt3)
                    have hxl := HASM.out (AS.getD t []) (getD_mem' (by rw [HASL.out]; exact hlt3))
                    have hlt4 : (t : Int) < (AN : Int) := by omega
                    have w2 : IntKind.i64.wrap ((t : Int) + 1) = (t : Int) + 1 := wrapi (by omega) (by omega)
                    have hsm := fun W => rSam (AS.getD t []) znm W hxl hnmM
                    have n1 : wr.cell? ⟨b, off + i * 3, none⟩ = some (.string (mk znm)) := (hb3.cell (p := ⟨b, off + i * 3, none⟩) hbw1).trans HE0.out
                    have hbw3 := Nat.lt_of_lt_of_le hbw1 hb3.size
                    clear has' hca
                    generalize AS.getD t [] = x at *
                    have D5 := BelowC.cell (W := wr) d2 hbba
                    have D6 := BelowC.cell (W := wr) n1 hbw3
                    have hne3 : Nonempty (Subtype (Below wr.heap.size wr)) := ⟨⟨wr, Below.refl _ _⟩⟩
                    have HBC := Go.Lib.hid (show Below wr.heap.size wr wr.drew from (Below.refl wr.heap.size wr).drew)
                    clear d2 n1
                    generalize (AS.take t).any (fun x => Nm.sameN x znm) = cur at *
                    generalize Nm.sameN x znm = sx at *
                    cases cur with
                    | true =>
                      have hf : ((AS.take (t + 1)).any fun x => Nm.sameN x znm) = true := by rw [hak]; rfl
                      clear hak
                      have HB3 := Go.Lib.hid hb3
                      have HF := Go.Lib.hid hf
                      have HSM := Go.Lib.hid hsm
                      clear hb3 hf hsm
                      go_wp2_with fail
                      refine Go.Mix.wp_region_mix (Es := [11]) (Below wr.heap.size wr) mixed (by kernel_rfl) (Below.refl _ _).drew (fun _ => ?_)
                      iterate 11 (refine Go.Mix.mix_step rfl (fun K hK => ?_); have HKK := Go.Lib.hid hK; clear hK; go_simp; refine HKK.out _ _ ?_; clear HKK K)
                      refine Go.Mix.mix_eff rfl (fun K hK => ?_)
                      have HKK := Go.Lib.hid hK
                      clear hK
                      go_simp
                      refine HKK.out _ _ HBC.out ?_
                      clear HKK K
                      iterate 2 (refine Go.Mix.mix_step rfl (fun K hK => ?_); have HKK := Go.Lib.hid hK; clear hK; go_simp; refine HKK.out _ _ ?_; clear HKK K)
                      refine Go.Mix.mix_nil ?_
                      clear D5 D6 hne3
                      have hb4 := HB3.out.trans (HBC.out.mono HB3.out.size)
                      clear HBC
                      have HB4 := Go.Lib.hid hb4
                      clear hb4
                      go_wp2_with fail
                      go_roundw
                      case rel => exact ⟨t + 1, by go_num, by omega, by rw [HF.out], HB4.out⟩
                      case measure => simp [intOf]; omega
                    | false =>
                      have hf : ((AS.take (t + 1)).any fun x => Nm.sameN x znm) = sx := by rw [hak]; rfl
                      clear hak
                      have HB3 := Go.Lib.hid hb3
                      have HF := Go.Lib.hid hf
                      have HSM := Go.Lib.hid hsm
                      clear hb3 hf hsm
                      go_wp2_with fail
                      refine Go.Mix.wp_region_mix (Es := [11]) (Below wr.heap.size wr) mixed (by kernel_rfl) (Below.refl _ _).drew (fun _ => ?_)
                      iterate 11 (refine Go.Mix.mix_step rfl (fun K hK => ?_); have HKK := Go.Lib.hid hK; clear hK; go_simp; refine HKK.out _ _ ?_; clear HKK K)
                      refine Go.Mix.mix_eff rfl (fun K hK => ?_)
                      have HKK := Go.Lib.hid hK
                      clear hK
                      go_simp
                      refine (HSM.out _).mono ?_; rintro e wb16 ⟨rfl, hx⟩
                      have hb := HBC.out.trans (hx.mono HBC.out.size)
                      clear HBC
                      have HBC := Go.Lib.hid hb
                      clear hx hb
                      go_simp
                      refine HKK.out _ _ HBC.out ?_
                      clear HKK K
                      iterate 2 (refine Go.Mix.mix_step rfl (fun K hK => ?_); have HKK := Go.Lib.hid hK; clear hK; go_simp; refine HKK.out _ _ ?_; clear HKK K)
                      refine Go.Mix.mix_nil ?_
                      clear D5 D6 hne3
                      have hb4 := HB3.out.trans (HBC.out.mono HB3.out.size)
                      clear HBC
                      have HB4 := Go.Lib.hid hb4
                      clear hb4
                      go_wp2_with fail
                      go_roundw
                      case rel => exact ⟨t + 1, by go_num, by omega, by rw [HF.out], HB4.out⟩
                      case measure => simp [intOf]; omega
                  · obtain rfl : t = AN := by omega
                    have hlt4 : ¬ (t : Int) < (t : Int) := by omega
                    have hfin : ((AS.take t).any fun x => Nm.sameN x znm) = vb := by
                      rw [← HASL.out, List.take_length]
                      exact HATI.out
                    rw [hfin]
                    clear hfin
                    have hbY' := HBR1.out.trans (hb3.mono HBR1.out.size)
                    have w3 : IntKind.i64.wrap ((i : Int) + 1) = (i : Int) + 1 := wrapi (by omega) (by omega)
                    have w4 : IntKind.i64.wrap ((cntB bs i : Int) + 1) = (cntB bs i : Int) + 1 := wrapi (by omega) (by omega)
                    have hst' := HST.out
                    clear hb3
                    have HBY' := Go.Lib.hid hbY'
                    clear hbY'
                    cases vb with
                    | true =>
                      have hf : cntB bs (i + 1) = cntB bs i + 1 := hst'
                      clear hst'
                      have HF := Go.Lib.hid hf
                      clear hf
                      go_wp2_with fail
                      go_roundw
                      case rel => exact ⟨i + 1, by go_num, by omega, by rw [HF.out]; go_num, HBY'.out⟩
                      case measure => simp [intOf]; omega
                    | false =>
                      have hf : cntB bs (i + 1) = cntB bs i := hst'
                      clear hst' w4
                      have HF := Go.Lib.hid hf
                      clear hf
                      go_wp2_with fail
                      go_roundw
                      case rel => exact ⟨i + 1, by go_num, by omega, by rw [HF.out], HBY'.out⟩
                      case measure => simp [intOf]; omega
    · obtain rfl : i = 4 := by omega
      have htr := HTY.out.below hbr
      have hbe := Best_any tb T2 [97] wr htr (by decide)
      rw [HT2.out, HBNO.out] at hbe
      rw [HCN.out]
      have hbw := HBY.out.trans (hbr.mono HBY.out.size)
      clear htr hbr
      have HBE := Go.Lib.hid hbe
      have HBW := Go.Lib.hid hbw
      clear hbe hbw
      go_wp2_with fail
      refine HBE.out.mono ?_; rintro e W1 ⟨rfl, hx⟩
      have hbw1 := HBW.out.trans (hx.mono HBW.out.size)
      clear hx
      have HBW1 := Go.Lib.hid hbw1
      clear hbw1
      go_wp2_with fail
      refine (HAW.out _).mono ?_; rintro e W2 ⟨rfl, hx⟩
      have hbw2 := HBW1.out.trans (hx.mono HBW1.out.size)
      clear hx
      have HBW2 := Go.Lib.hid hbw2
      clear hbw2
      go_wp2_with fail
      go_ret
      exact ⟨rfl, HBW2.out⟩
set_option maxRecDepth 100000 in
theorem lifted (os : Os) (started : os.Started) (H : Type) (enc : TypeId × Value → H) :
    ReturnsInHanded {} Tryz.checked os 6 .any (Rows.treeBestSpec.pre6 enc Tryz.prog Tryz.f6 Rows.treeBestRow.domain false) (Rows.treeBestSpec.post enc Tryz.prog Tryz.f6 false true false false) := by
  refine returnsInHanded_of_change (C := Tryz.checked) own started (by kernel_rfl) Tryz.func6
    (ChangeSpec.witness6 (enc := enc) (C := Tryz.checked) false ⟨#[], #[.int .i64 0, .int .i64 0, .int .i64 0], []⟩ 8 (by kernel_rfl) (by kernel_rfl) (by kernel_rfl) (by kernel_rfl)) ?_
  intro W base args ds gs before hval0 hW hcnd _
  have hval : ∀ (j : Nat) t v, Tryz.f6.params[j]? = some t → args[j]? = some v → Value.okWide Tryz.prog W .any base t v := hval0
  refine law_post enc 3 (by kernel_rfl) rfl rfl (by kernel_rfl) (fun ds h => match ds, h with | [_, _, _], _ => rfl) hW ?_
  obtain ⟨p, q, hA0, hV, rfl, _, _⟩ := hW
  have hA : DataW.TrodAll enc Tryz.prog W 0 (fun _ => true) true Tryz.f6.params.toList args.toList ds p := hA0
  rw [Tryz.params6] at hA hval
  obtain ⟨v0, vs0, d0, ds0, p0, q0, hargs, rfl, rfl, h0, r0⟩ := trodAll_cons hA
  obtain ⟨v1, vs1, d1, ds1, p1, q1, rfl, rfl, rfl, h1, r1⟩ := trodAll_cons r0
  obtain ⟨v2, vs2, d2, ds2, p2, q2, rfl, rfl, rfl, h2, r2⟩ := trodAll_cons r1
  obtain ⟨rfl, rfl, rfl⟩ := trodAll_nil r2
  obtain rfl : args = #[v0, v1, v2] := by cases args; simp_all
  obtain ⟨a0, rfl, rfl, rfl, w0⟩ := open_int Tryz.underlying3 (hval 0 3 v0 rfl rfl) h0
  obtain ⟨a1, rfl, rfl, rfl, w1⟩ := open_int Tryz.underlying3 (hval 1 3 v1 rfl rfl) h1
  obtain ⟨a2, rfl, rfl, rfl, w2⟩ := open_int Tryz.underlying3 (hval 2 3 v2 rfl rfl) h2
  exact walk a0 a1 a2 W (fits_of_wf w0) (fits_of_wf w1) (fits_of_wf w2)

theorem over : Rows.treeBestRow.holds Tryz.pinned (OpenSpec.ofChange Rows.treeBestSpec) :=
  OpenClaim.holds_of_wide 6 Tryz.f6 rfl rfl rfl rfl rfl rfl rfl ⟨rfl, rfl, rfl, rfl, rfl⟩ rfl rfl rfl rfl rfl (by kernel_rfl) Tryz.func6 (by kernel_rfl)
    (of_decide_eq_true (by kernel_rfl)) (by unfold Func.isWrapper; first | (rw [if_pos (by decide +kernel)]; kernel_rfl) | (rw [if_neg (by decide +kernel)]; exact ⟨rfl, rfl⟩))
    (fun os started H enc _ => lifted os started H enc)

/-- the statement -/
theorem proved : Rows.TreeBestSaid := over
#print axioms proved
end Go.Proofs.YtkpcmnckdappnaaGreat.treeBest
