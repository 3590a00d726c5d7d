/- The contracts of the reference's FoldData, SameRR, in: data with its names folded, and when records are the same. -/
import Derived.Test.YthfpijacemkbbaaDoorRpA
namespace Go.Proofs.YthfpijacemkbbaaDoor
open Go.RowKit
set_option linter.unusedVariables false

theorem chain_tail {d : List UInt8} {l : List (Nat × Nat)} {k : Nat} (h : Rc.Chain d 0 l) (hk : k < l.length) : (l.getD k (0, 0)).1 + (l.getD k (0, 0)).2 ≤ d.length := by
  have := Rc.chain_mem l 0 h (l.getD k (0, 0)) (by
    rw [List.getD_eq_getElem?_getD, List.getElem?_eq_getElem hk]
    simp)
  exact this.2.1
theorem foldAt_take {d : List UInt8} {l : List (Nat × Nat)} {k : Nat} (hk : k < l.length) : Rc.foldAt d (l.take (k + 1)) = Rc.foldStep (Rc.foldAt d (l.take k)) (l.getD k (0, 0)) := by
  have : l.take (k + 1) = l.take k ++ [l.getD k (0, 0)] := by
    rw [List.take_succ_eq_append_getElem hk]
    simp [List.getD_eq_getElem?_getD, hk]
  rw [this, Rc.foldAt_snoc]

set_option maxRecDepth 100000 in
set_option maxHeartbeats 4000000 in
theorem refData_any (t : Int) (s : ByteArray) (w : World) (hs : s.size ≤ maxLen) :
    Calls Tryd.prog 51 #[.int .i64 t, .string s] w fun e w' => e = .returned (.string (mk (Rc.foldD t (bl s)))) ∧ Below w.heap.size w w' := by
  have hp := Parts_any t s w
  cases hpn : Rc.partsN t (bl s) with
  | none =>
    have hfin : Hid (Rc.foldD t (bl s) = bl s) := Go.Lib.hid (by unfold Rc.foldD; rw [hpn])
    rw [hpn] at hp
    have HP := Go.Lib.hid hp
    clear hp
    clear hpn
    go_enter Tryd.func51, Tryd.ntmps51
    go_wp2_with fail
    refine HP.out.mono ?_; rintro e wb ⟨v, rfl, hv, hb⟩
    have HV := Go.Lib.hid hv
    have HB := Go.Lib.hid hb
    clear hv hb
    simp only [Option.isSome_none]
    go_wp2_with fail
    go_ret
    exact ⟨ret_str (by rw [hfin.out, mk_bl]), HB.out⟩
  | some l =>
    obtain ⟨hch, hl2⟩ := Rc.partsN_chain hpn
    have hfin : Hid (Rc.foldD t (bl s) = Rc.foldAt (bl s) l) := Go.Lib.hid (by unfold Rc.foldD; rw [hpn])
    have hd : ∃ d, d = bl s := ⟨_, rfl⟩
    obtain ⟨d, hd⟩ := hd
    have hdl : d.length ≤ maxLen := by rw [hd, ← size_bl]; exact hs
    have hs0 : s = mk d := by rw [hd, mk_bl]
    rw [hpn] at hp
    rw [← hd] at hch hfin
    clear hpn hd hs
    subst hs0
    have hlen : ∀ k, k ≤ l.length → (Rc.foldAt d (l.take k)).length = d.length := fun k hk => by
      refine Rc.foldAt_length (Rc.chain_prefix _ (l.drop k) _ ?_)
      rw [List.take_append_drop]
      exact hch
    unfold maxLen at hdl
    have HP := Go.Lib.hid hp
    have HCH := Go.Lib.hid hch
    have HLEN := Go.Lib.hid hlen
    have HDL := Go.Lib.hid hdl
    clear hp hch hlen hdl
    go_enter Tryd.func51, Tryd.ntmps51
    go_wp2_with fail
    refine HP.out.mono ?_; rintro e wb ⟨v, rfl, hv, hb⟩
    simp only [Option.isSome_some, Option.getD_some] at hv ⊢
    obtain ⟨a, cap, rfl, hc1, hc2⟩ := hv.slice
    have HV := Go.Lib.hid hv
    have HB := Go.Lib.hid hb
    clear hv hb
    go_wp2_with fail
    go_loopw [1, 7] (fun x i wr => ∃ k : Nat, i = .int .i64 k ∧ k ≤ l.length ∧ x = .string (mk (Rc.foldAt d (l.take k))) ∧ Below w.heap.size w wr ∧ Below wb.heap.size wb wr) (fun _ i _ => l.length - (intOf i).toNat)
    case atStart => exact ⟨0, rfl, by omega, rfl, HB.out, Below.refl _ _⟩
    case round =>
      obtain ⟨k, rfl, hk, rfl, hb1, hb2⟩ := hrel
      clear HB
      by_cases hlt : k < l.length
      · have hv := HV.out.below hb2 (Nat.le_refl _)
        obtain ⟨b, off, rfl, hbl, hcell⟩ := Pairs.at hv (by omega)
        obtain ⟨c1, c2⟩ := hcell k hlt
        have hle := chain_tail HCH.out hlt
        have hst := foldAt_take (d := d) hlt
        have hxl := HLEN.out k hk
        have hdl := HDL.out
        have HST := Go.Lib.hid hst
        have HB := Go.Lib.hid hb1
        have HB2 := Go.Lib.hid hb2
        have HV2 := Go.Lib.hid hv
        clear hst hb1 hb2 hv
        clear hcell
        generalize l.getD k (0, 0) = p at *
        obtain ⟨pa, pn⟩ := p
        simp only at hle c1 c2
        generalize Rc.foldAt d (l.take k) = x at *
        have c1' : wr.cell? ⟨b, off + k * 2, none⟩ = some (.int .i64 pa) := by rw [Nat.mul_comm k 2]; exact c1
        have c2' : wr.cell? ⟨b, off + k * 2 + 1, none⟩ = some (.int .i64 pn) := by rw [Nat.mul_comm k 2, Nat.add_assoc]; exact c2
        have hx1 : (mk x).extract 0 pa = mk (x.take pa) := by apply bl_inj; rw [bl_extract, bl_mk, bl_mk]; simp
        have hx2 : (mk x).extract pa (pa + pn) = mk ((x.drop pa).take pn) := by apply bl_inj; rw [bl_extract, bl_mk, bl_mk, Nat.add_sub_cancel_left]
        have hx3 : (mk x).extract (pa + pn) (mk x).size = mk (x.drop (pa + pn)) := by
          apply bl_inj
          rw [bl_extract, bl_mk, bl_mk]
          exact List.take_of_length_le (by rw [List.length_drop, size_mk]; exact Nat.le_refl _)
        have hsz : (mk x).size = d.length := by rw [size_mk, hxl]
        have l1 : (x.take pa).length = pa := by rw [List.length_take]; omega
        have l2 : ((x.drop pa).take pn).length = pn := by rw [List.length_take, List.length_drop]; omega
        have l3 : (x.drop (pa + pn)).length = d.length - (pa + pn) := by rw [List.length_drop, hxl]
        have hst2 : Rc.foldStep x (pa, pn) = x.take pa ++ Nm.foldN ((x.drop pa).take pn) ++ x.drop (pa + pn) := rfl
        have hfo := fun w => refFold_any (mk ((x.drop pa).take pn)) w (by rw [size_mk, l2]; unfold maxLen; omega)
        rw [bl_mk] at hfo
        have l4 : (Nm.foldN ((x.drop pa).take pn)).length = pn := by rw [Nm.foldN_length, l2]
        rw [hsz] at hx3
        have HST2 := Go.Lib.hid (HST.out.trans hst2)
        clear hst2 HST
        generalize x.take pa = y1 at *
        generalize (x.drop pa).take pn = y2 at *
        generalize x.drop (pa + pn) = y3 at *
        generalize Nm.foldN y2 = y4 at *
        have s1 : (mk y1).size = pa := by rw [size_mk, l1]
        have s3 : (mk y3).size = d.length - (pa + pn) := by rw [size_mk, l3]
        have s4 : (mk y4).size = pn := by rw [size_mk, l4]
        have e1 : mk y1 ++ mk y4 = mk (y1 ++ y4) := by apply bl_inj; rw [bl_append, bl_mk, bl_mk, bl_mk]
        have e2 : mk (y1 ++ y4) ++ mk y3 = mk (y1 ++ y4 ++ y3) := by apply bl_inj; rw [bl_append, bl_mk, bl_mk, bl_mk]
        have s5 : (mk (y1 ++ y4)).size = pa + pn := by rw [size_mk, List.length_append, l1, l4]
        have q1 : ¬ 9223372036854775807 < pa + pn := by omega
        have q2 : ¬ 9223372036854775807 < pa + pn + (d.length - (pa + pn)) := by omega
        have q3 : ¬ 9223372036854775807 < d.length := by omega
        have w1 : IntKind.i64.wrap ((pa : Int) + (pn : Int)) = (pa : Int) + (pn : Int) := by rw [IntKind.wrap_i64]; omega
        have w2' : ((pa : Int) + (pn : Int)).toNat = pa + pn := by omega
        have i1 : (pa : Int) ≤ (d.length : Int) := by omega
        have i2 : (pa : Int) + (pn : Int) ≤ (d.length : Int) := by omega
        have i3 : (pa : Int) ≤ (pa : Int) + (pn : Int) := by omega
        have i4 : (0 : Int) ≤ (pa : Int) + (pn : Int) := by omega
        have i5 : pa + pn ≤ d.length := by omega
        have i6 : pa ≤ d.length := by omega
        have HFO := Go.Lib.hid hfo
        have HXL := Go.Lib.hid hxl
        have HL1 := Go.Lib.hid l1
        have HL2 := Go.Lib.hid l2
        have HL3 := Go.Lib.hid l3
        have HL4 := Go.Lib.hid l4
        have HDL2 := Go.Lib.hid hdl
        have HLE := Go.Lib.hid hle
        clear hfo hxl l1 l2 l3 l4 hdl hle
        go_wp2_with fail
        have ha := World.alloc_heap_new wr (.cells #[.int .i64 (pa : Int), .int .i64 (pn : Int)] 34)
        have hbx : Below wr.heap.size wr (wr.alloc (.cells #[.int .i64 (pa : Int), .int .i64 (pn : Int)] 34)) := (Below.refl _ wr).alloc (Nat.le_refl _) _
        generalize wr.alloc (.cells #[.int .i64 (pa : Int), .int .i64 (pn : Int)] 34) = W at *
        have hlt1 := (Array.getElem?_eq_some_iff.1 ha).1
        have hg := cell_of_heap ha
        have a0 : ∀ w3 : Subtype (Below W.heap.size W), w3.1.cell? ⟨wr.heap.size, 0, none⟩ = some (.int .i64 pa) := BelowC.cell (hg 0) hlt1
        have a1 : ∀ w3 : Subtype (Below W.heap.size W), w3.1.cell? ⟨wr.heap.size, 1, none⟩ = some (.int .i64 pn) := BelowC.cell (hg 1) hlt1
        have HBC := Go.Lib.hid (show Below W.heap.size W W.drew from (Below.refl W.heap.size W).drew)
        have HBX := Go.Lib.hid hbx
        have HA := Go.Lib.hid ha
        clear hbx ha
        clear hg c1 c2 c1' c2'
        refine Go.Mix.wp_region_mix (Es := [13]) (Below W.heap.size W) mixed (by kernel_rfl) (Below.refl _ _).drew (fun _ => ?_)
        iterate 13 (refine Go.Mix.mix_step rfl (fun K hK => ?_); have HKK := Go.Lib.hid hK; clear hK; go_simp; refine HKK.out _ _ ?_; clear HKK K)
        refine Go.Mix.mix_eff rfl (fun K hK => ?_)
        have HKK := Go.Lib.hid hK
        clear hK
        go_simp
        refine (HFO.out _).mono ?_; rintro e wb1 ⟨rfl, hx⟩
        have hb := HBC.out.trans (hx.mono HBC.out.size)
        clear HBC
        have HBC := Go.Lib.hid hb
        clear hx hb
        go_simp
        refine HKK.out _ _ HBC.out ?_
        clear HKK K
        iterate 10 (refine Go.Mix.mix_step rfl (fun K hK => ?_); have HKK := Go.Lib.hid hK; clear hK; go_simp; refine HKK.out _ _ ?_; clear HKK K)
        refine Go.Mix.mix_nil ?_
        go_wp2_with fail
        go_roundw
        case rel => exact ⟨k + 1, by go_num, by omega, by rw [HST2.out, List.append_assoc], (HB.out.trans (HBX.out.mono HB.out.size)).trans (HBC.out.mono (Nat.le_trans HB.out.size HBX.out.size)), (HB2.out.trans (HBX.out.mono HB2.out.size)).trans (HBC.out.mono (Nat.le_trans HB2.out.size HBX.out.size))⟩
        case measure => simp [intOf]; omega
      · obtain rfl : k = l.length := by omega
        have hall : Rc.foldAt d (l.take l.length) = Rc.foldAt d l := by rw [List.take_length]
        have HALL := Go.Lib.hid hall
        have HB := Go.Lib.hid hb1
        have HB2 := Go.Lib.hid hb2
        clear hall hb1 hb2
        go_wp2_with fail
        go_ret
        exact ⟨ret_str (by rw [HALL.out, bl_mk, hfin.out]), HB.out⟩

set_option maxRecDepth 100000 in
set_option maxHeartbeats 4000000 in
theorem refSameRR_any (a b : Rc.RR) (w : World) (ha : RROk a) (hb : RROk b) :
    Calls Tryd.prog 26 #[rrV a, rrV b] w fun e w' => e = .returned (.bool (Rc.sameRR a b)) ∧ Below w.heap.size w w' := by
  obtain ⟨ha1, ha2⟩ := ha
  obtain ⟨hb1, hb2⟩ := hb
  have hn1 := fun w => refFold_any (mk a.name) w (by rw [size_mk]; exact ha1)
  have hn2 := fun w => refFold_any (mk b.name) w (by rw [size_mk]; exact hb1)
  have hd1 := fun w => refData_any a.ty (mk a.data) w (by rw [size_mk]; exact ha2)
  have hd2 := fun w => refData_any b.ty (mk b.data) w (by rw [size_mk]; exact hb2)
  rw [bl_mk] at hn1 hn2 hd1 hd2
  have hres : Rc.sameRR a b = ((Nm.foldN a.name == Nm.foldN b.name) && (a.ty == b.ty) && (a.cl == b.cl) && (Rc.foldD a.ty a.data == Rc.foldD b.ty b.data)) := rfl
  obtain ⟨h1, h2⟩ := two_boxes w (rrC a) (rrC b) 23
  have h0 : Below w.heap.size w ((w.alloc (.cells (rrC a) 23)).alloc (.cells (rrC b) 23)) := ((Below.refl _ w).alloc (Nat.le_refl _) _).alloc (by simp) _
  unfold rrC at h1 h2 h0
  obtain ⟨an, aty, acl, attl, ad⟩ := a
  obtain ⟨bn, bty, bcl, bttl, bd⟩ := b
  simp only at *
  generalize Rc.sameRR _ _ = res at *
  have hnn : ((mk (Nm.foldN an)).toList == (mk (Nm.foldN bn)).toList) = (Nm.foldN an == Nm.foldN bn) := eqs _ _
  have hdd : ((mk (Rc.foldD aty ad)).toList == (mk (Rc.foldD bty bd)).toList) = (Rc.foldD aty ad == Rc.foldD bty bd) := eqs _ _
  generalize mk (Nm.foldN an) = fan at *
  generalize mk (Nm.foldN bn) = fbn at *
  generalize mk (Rc.foldD aty ad) = fad at *
  generalize mk (Rc.foldD bty bd) = fbd at *
  generalize (Nm.foldN an == Nm.foldN bn) = q1 at *
  generalize (Rc.foldD aty ad == Rc.foldD bty bd) = q4 at *
  have HRES := Go.Lib.hid hres
  have HN1 := Go.Lib.hid hn1
  have HN2 := Go.Lib.hid hn2
  have HD1 := Go.Lib.hid hd1
  have HD2 := Go.Lib.hid hd2
  have H0 := Go.Lib.hid h0
  clear hres hn1 hn2 hd1 hd2 h0
  clear ha1 ha2 hb1 hb2
  have hg1 := cell_of_heap h1
  have hg2 := cell_of_heap h2
  have hlt1 := (Array.getElem?_eq_some_iff.1 h1).1
  have hlt2 := (Array.getElem?_eq_some_iff.1 h2).1
  have HX1 := Go.Lib.hid h1
  have HX2 := Go.Lib.hid h2
  clear h1 h2
  go_enter Tryd.func26, Tryd.ntmps26
  go_wp2_with fail
  generalize (w.alloc (.cells #[.string (mk an), .int .i64 aty, .int .i64 acl, .int .i64 attl, .string (mk ad)] 23)).alloc (.cells #[.string (mk bn), .int .i64 bty, .int .i64 bcl, .int .i64 bttl, .string (mk bd)] 23) = W at *
  have a0 : ∀ w3 : Subtype (Below W.heap.size W), w3.1.cell? ⟨w.heap.size, 0, none⟩ = some (.string (mk an)) := BelowC.cell (hg1 0) hlt1
  have a1 : ∀ w3 : Subtype (Below W.heap.size W), w3.1.cell? ⟨w.heap.size, 1, none⟩ = some (.int .i64 aty) := BelowC.cell (hg1 1) hlt1
  have a2 : ∀ w3 : Subtype (Below W.heap.size W), w3.1.cell? ⟨w.heap.size, 2, none⟩ = some (.int .i64 acl) := BelowC.cell (hg1 2) hlt1
  have a4 : ∀ w3 : Subtype (Below W.heap.size W), w3.1.cell? ⟨w.heap.size, 4, none⟩ = some (.string (mk ad)) := BelowC.cell (hg1 4) hlt1
  have b0 : ∀ w3 : Subtype (Below W.heap.size W), w3.1.cell? ⟨w.heap.size + 1, 0, none⟩ = some (.string (mk bn)) := BelowC.cell (hg2 0) hlt2
  have b1 : ∀ w3 : Subtype (Below W.heap.size W), w3.1.cell? ⟨w.heap.size + 1, 1, none⟩ = some (.int .i64 bty) := BelowC.cell (hg2 1) hlt2
  have b2 : ∀ w3 : Subtype (Below W.heap.size W), w3.1.cell? ⟨w.heap.size + 1, 2, none⟩ = some (.int .i64 bcl) := BelowC.cell (hg2 2) hlt2
  have b4 : ∀ w3 : Subtype (Below W.heap.size W), w3.1.cell? ⟨w.heap.size + 1, 4, none⟩ = some (.string (mk bd)) := BelowC.cell (hg2 4) hlt2
  have HBC := Go.Lib.hid (show Below W.heap.size W W.drew from (Below.refl W.heap.size W).drew)
  clear hg1 hg2
  cases q1 with
  | false =>
    have hr : res = false := by rw [HRES.out]; rfl
    have HR := Go.Lib.hid hr
    clear hr
    refine Go.Mix.wp_region_mix (Es := [2, 5, 26, 31]) (Below W.heap.size W) mixed (by kernel_rfl) (Below.refl _ _).drew (fun _ => ?_)
    iterate 2 (refine Go.Mix.mix_step rfl (fun K hK => ?_); have HKK := Go.Lib.hid hK; clear hK; go_simp; refine HKK.out _ _ ?_; clear HKK K)
    refine Go.Mix.mix_eff rfl (fun K hK => ?_)
    have HKK := Go.Lib.hid hK
    clear hK
    go_simp
    refine (HN1.out _).mono ?_; rintro e wb2 ⟨rfl, hx⟩
    have hb := HBC.out.trans (hx.mono HBC.out.size)
    clear HBC
    have HBC := Go.Lib.hid hb
    clear hx hb
    go_simp
    refine HKK.out _ _ HBC.out ?_
    clear HKK K
    iterate 2 (refine Go.Mix.mix_step rfl (fun K hK => ?_); have HKK := Go.Lib.hid hK; clear hK; go_simp; refine HKK.out _ _ ?_; clear HKK K)
    refine Go.Mix.mix_eff rfl (fun K hK => ?_)
    have HKK := Go.Lib.hid hK
    clear hK
    go_simp
    refine (HN2.out _).mono ?_; rintro e wb3 ⟨rfl, hx⟩
    have hb := HBC.out.trans (hx.mono HBC.out.size)
    clear HBC
    have HBC := Go.Lib.hid hb
    clear hx hb
    go_simp
    refine HKK.out _ _ HBC.out ?_
    clear HKK K
    iterate 20 (refine Go.Mix.mix_step rfl (fun K hK => ?_); have HKK := Go.Lib.hid hK; clear hK; go_simp; refine HKK.out _ _ ?_; clear HKK K)
    refine Go.Mix.mix_eff rfl (fun K hK => ?_)
    have HKK := Go.Lib.hid hK
    clear hK
    go_simp
    refine HKK.out _ _ HBC.out ?_
    clear HKK K
    iterate 4 (refine Go.Mix.mix_step rfl (fun K hK => ?_); have HKK := Go.Lib.hid hK; clear hK; go_simp; refine HKK.out _ _ ?_; clear HKK K)
    refine Go.Mix.mix_eff rfl (fun K hK => ?_)
    have HKK := Go.Lib.hid hK
    clear hK
    go_simp
    refine HKK.out _ _ HBC.out ?_
    clear HKK K
    iterate 3 (refine Go.Mix.mix_step rfl (fun K hK => ?_); have HKK := Go.Lib.hid hK; clear hK; go_simp; refine HKK.out _ _ ?_; clear HKK K)
    refine Go.Mix.mix_nil ?_
    go_wp2_with fail
    go_ret
    exact ⟨ret_bool HR.out.symm, H0.out.trans (HBC.out.mono H0.out.size)⟩
  | true =>
    by_cases ht : aty = bty
    · subst ht
      have e1 : (aty == aty) = true := beq_self_eq_true _
      by_cases hc : acl = bcl
      · subst hc
        have e2 : (acl == acl) = true := beq_self_eq_true _
        have hr : res = q4 := by rw [HRES.out, e1, e2]; simp
        have HR := Go.Lib.hid hr
        clear hr
        refine Go.Mix.wp_region_mix (Es := [2, 5, 26, 31]) (Below W.heap.size W) mixed (by kernel_rfl) (Below.refl _ _).drew (fun _ => ?_)
        iterate 2 (refine Go.Mix.mix_step rfl (fun K hK => ?_); have HKK := Go.Lib.hid hK; clear hK; go_simp; refine HKK.out _ _ ?_; clear HKK K)
        refine Go.Mix.mix_eff rfl (fun K hK => ?_)
        have HKK := Go.Lib.hid hK
        clear hK
        go_simp
        refine (HN1.out _).mono ?_; rintro e wb4 ⟨rfl, hx⟩
        have hb := HBC.out.trans (hx.mono HBC.out.size)
        clear HBC
        have HBC := Go.Lib.hid hb
        clear hx hb
        go_simp
        refine HKK.out _ _ HBC.out ?_
        clear HKK K
        iterate 2 (refine Go.Mix.mix_step rfl (fun K hK => ?_); have HKK := Go.Lib.hid hK; clear hK; go_simp; refine HKK.out _ _ ?_; clear HKK K)
        refine Go.Mix.mix_eff rfl (fun K hK => ?_)
        have HKK := Go.Lib.hid hK
        clear hK
        go_simp
        refine (HN2.out _).mono ?_; rintro e wb5 ⟨rfl, hx⟩
        have hb := HBC.out.trans (hx.mono HBC.out.size)
        clear HBC
        have HBC := Go.Lib.hid hb
        clear hx hb
        go_simp
        refine HKK.out _ _ HBC.out ?_
        clear HKK K
        iterate 20 (refine Go.Mix.mix_step rfl (fun K hK => ?_); have HKK := Go.Lib.hid hK; clear hK; go_simp; refine HKK.out _ _ ?_; clear HKK K)
        refine Go.Mix.mix_eff rfl (fun K hK => ?_)
        have HKK := Go.Lib.hid hK
        clear hK
        go_simp
        refine (HD1.out _).mono ?_; rintro e wb6 ⟨rfl, hx⟩
        have hb := HBC.out.trans (hx.mono HBC.out.size)
        clear HBC
        have HBC := Go.Lib.hid hb
        clear hx hb
        go_simp
        refine HKK.out _ _ HBC.out ?_
        clear HKK K
        iterate 4 (refine Go.Mix.mix_step rfl (fun K hK => ?_); have HKK := Go.Lib.hid hK; clear hK; go_simp; refine HKK.out _ _ ?_; clear HKK K)
        refine Go.Mix.mix_eff rfl (fun K hK => ?_)
        have HKK := Go.Lib.hid hK
        clear hK
        go_simp
        refine (HD2.out _).mono ?_; rintro e wb7 ⟨rfl, hx⟩
        have hb := HBC.out.trans (hx.mono HBC.out.size)
        clear HBC
        have HBC := Go.Lib.hid hb
        clear hx hb
        go_simp
        refine HKK.out _ _ HBC.out ?_
        clear HKK K
        iterate 3 (refine Go.Mix.mix_step rfl (fun K hK => ?_); have HKK := Go.Lib.hid hK; clear hK; go_simp; refine HKK.out _ _ ?_; clear HKK K)
        refine Go.Mix.mix_nil ?_
        go_wp2_with fail
        go_ret
        exact ⟨ret_bool HR.out.symm, H0.out.trans (HBC.out.mono H0.out.size)⟩
      · have e2 : (acl == bcl) = false := beq_eq_false_iff_ne.2 hc
        have hr : res = false := by rw [HRES.out, e1, e2]; simp
        have HR := Go.Lib.hid hr
        clear hr
        refine Go.Mix.wp_region_mix (Es := [2, 5, 26, 31]) (Below W.heap.size W) mixed (by kernel_rfl) (Below.refl _ _).drew (fun _ => ?_)
        iterate 2 (refine Go.Mix.mix_step rfl (fun K hK => ?_); have HKK := Go.Lib.hid hK; clear hK; go_simp; refine HKK.out _ _ ?_; clear HKK K)
        refine Go.Mix.mix_eff rfl (fun K hK => ?_)
        have HKK := Go.Lib.hid hK
        clear hK
        go_simp
        refine (HN1.out _).mono ?_; rintro e wb8 ⟨rfl, hx⟩
        have hb := HBC.out.trans (hx.mono HBC.out.size)
        clear HBC
        have HBC := Go.Lib.hid hb
        clear hx hb
        go_simp
        refine HKK.out _ _ HBC.out ?_
        clear HKK K
        iterate 2 (refine Go.Mix.mix_step rfl (fun K hK => ?_); have HKK := Go.Lib.hid hK; clear hK; go_simp; refine HKK.out _ _ ?_; clear HKK K)
        refine Go.Mix.mix_eff rfl (fun K hK => ?_)
        have HKK := Go.Lib.hid hK
        clear hK
        go_simp
        refine (HN2.out _).mono ?_; rintro e wb9 ⟨rfl, hx⟩
        have hb := HBC.out.trans (hx.mono HBC.out.size)
        clear HBC
        have HBC := Go.Lib.hid hb
        clear hx hb
        go_simp
        refine HKK.out _ _ HBC.out ?_
        clear HKK K
        iterate 20 (refine Go.Mix.mix_step rfl (fun K hK => ?_); have HKK := Go.Lib.hid hK; clear hK; go_simp; refine HKK.out _ _ ?_; clear HKK K)
        refine Go.Mix.mix_eff rfl (fun K hK => ?_)
        have HKK := Go.Lib.hid hK
        clear hK
        go_simp
        refine HKK.out _ _ HBC.out ?_
        clear HKK K
        iterate 4 (refine Go.Mix.mix_step rfl (fun K hK => ?_); have HKK := Go.Lib.hid hK; clear hK; go_simp; refine HKK.out _ _ ?_; clear HKK K)
        refine Go.Mix.mix_eff rfl (fun K hK => ?_)
        have HKK := Go.Lib.hid hK
        clear hK
        go_simp
        refine HKK.out _ _ HBC.out ?_
        clear HKK K
        iterate 3 (refine Go.Mix.mix_step rfl (fun K hK => ?_); have HKK := Go.Lib.hid hK; clear hK; go_simp; refine HKK.out _ _ ?_; clear HKK K)
        refine Go.Mix.mix_nil ?_
        go_wp2_with fail
        go_ret
        exact ⟨ret_bool HR.out.symm, H0.out.trans (HBC.out.mono H0.out.size)⟩
    · have e1 : (aty == bty) = false := beq_eq_false_iff_ne.2 ht
      have hr : res = false := by rw [HRES.out, e1]; simp
      have HR := Go.Lib.hid hr
      clear hr
      refine Go.Mix.wp_region_mix (Es := [2, 5, 26, 31]) (Below W.heap.size W) mixed (by kernel_rfl) (Below.refl _ _).drew (fun _ => ?_)
      iterate 2 (refine Go.Mix.mix_step rfl (fun K hK => ?_); have HKK := Go.Lib.hid hK; clear hK; go_simp; refine HKK.out _ _ ?_; clear HKK K)
      refine Go.Mix.mix_eff rfl (fun K hK => ?_)
      have HKK := Go.Lib.hid hK
      clear hK
      go_simp
      refine (HN1.out _).mono ?_; rintro e wb10 ⟨rfl, hx⟩
      have hb := HBC.out.trans (hx.mono HBC.out.size)
      clear HBC
      have HBC := Go.Lib.hid hb
      clear hx hb
      go_simp
      refine HKK.out _ _ HBC.out ?_
      clear HKK K
      iterate 2 (refine Go.Mix.mix_step rfl (fun K hK => ?_); have HKK := Go.Lib.hid hK; clear hK; go_simp; refine HKK.out _ _ ?_; clear HKK K)
      refine Go.Mix.mix_eff rfl (fun K hK => ?_)
      have HKK := Go.Lib.hid hK
      clear hK
      go_simp
      refine (HN2.out _).mono ?_; rintro e wb11 ⟨rfl, hx⟩
      have hb := HBC.out.trans (hx.mono HBC.out.size)
      clear HBC
      have HBC := Go.Lib.hid hb
      clear hx hb
      go_simp
      refine HKK.out _ _ HBC.out ?_
      clear HKK K
      iterate 20 (refine Go.Mix.mix_step rfl (fun K hK => ?_); have HKK := Go.Lib.hid hK; clear hK; go_simp; refine HKK.out _ _ ?_; clear HKK K)
      refine Go.Mix.mix_eff rfl (fun K hK => ?_)
      have HKK := Go.Lib.hid hK
      clear hK
      go_simp
      refine HKK.out _ _ HBC.out ?_
      clear HKK K
      iterate 4 (refine Go.Mix.mix_step rfl (fun K hK => ?_); have HKK := Go.Lib.hid hK; clear hK; go_simp; refine HKK.out _ _ ?_; clear HKK K)
      refine Go.Mix.mix_eff rfl (fun K hK => ?_)
      have HKK := Go.Lib.hid hK
      clear hK
      go_simp
      refine HKK.out _ _ HBC.out ?_
      clear HKK K
      iterate 3 (refine Go.Mix.mix_step rfl (fun K hK => ?_); have HKK := Go.Lib.hid hK; clear hK; go_simp; refine HKK.out _ _ ?_; clear HKK K)
      refine Go.Mix.mix_nil ?_
      go_wp2_with fail
      go_ret
      exact ⟨ret_bool HR.out.symm, H0.out.trans (HBC.out.mono H0.out.size)⟩

/-! ### in -/
set_option maxRecDepth 100000 in
set_option maxHeartbeats 4000000 in
theorem refIn_any (a : Option Addr) (cap : Nat) (l : List Rc.RR) (r : Rc.RR) (w : World) (hst : RRs w (.slice a l.length cap) l) (hl : ∀ x ∈ l, RROk x) (hr : RROk r) :
    Calls Tryd.prog 53 #[.slice a l.length cap, rrV r] w fun e w' => e = .returned (.bool (l.any fun x => Rc.sameRR x r)) ∧ Below w.heap.size w w' := by
  have hs := fun (x : Rc.RR) (hx : RROk x) w => refSameRR_any x r w hx hr
  have ha := World.alloc_heap_new w (.cells (rrC r) 23)
  have hbx : Below w.heap.size w (w.alloc (.cells (rrC r) 23)) := (Below.refl _ w).alloc (Nat.le_refl _) _
  have hcap := hst.cap
  obtain ⟨_, hc1, hc2⟩ := hcap
  unfold maxLen at hc2
  unfold rrC at ha hbx
  generalize hN : l.length = N at *
  have HS := Go.Lib.hid hs
  have HST := Go.Lib.hid hst
  have HOK := Go.Lib.hid hl
  have HN := Go.Lib.hid hN
  clear hs hst hl hN
  obtain ⟨rn, rty, rcl, rttl, rd⟩ := r
  go_enter Tryd.func53, Tryd.ntmps53
  go_wp2_with fail
  generalize w.alloc (.cells #[.string (mk rn), .int .i64 rty, .int .i64 rcl, .int .i64 rttl, .string (mk rd)] 23) = W at *
  have hlt1 := (Array.getElem?_eq_some_iff.1 ha).1
  have HA := Go.Lib.hid ha
  have HBX := Go.Lib.hid hbx
  clear ha hbx
  go_loopw [5] (fun i wr => ∃ k : Nat, i = .int .i64 k ∧ k ≤ N ∧ (∀ x ∈ l.take k, Rc.sameRR x ⟨rn, rty, rcl, rttl, rd⟩ = false) ∧ Below W.heap.size W wr) (fun i _ => N - (intOf i).toNat)
  case atStart => exact ⟨0, rfl, by omega, by simp, Below.refl _ _⟩
  case round =>
    obtain ⟨k, rfl, hk, hall, hbr⟩ := hrel
    have hbz := hbr.size
    have HALL := Go.Lib.hid hall
    have HB := Go.Lib.hid hbr
    clear hall hbr
    by_cases hlt : k < N
    · have HLT := Go.Lib.hid hlt
      have hst := (HST.out.below HBX.out (Nat.le_refl _)).below HB.out (by have := HBX.out.size; omega)
      rw [← HN.out] at hst
      obtain ⟨b, off, rfl, hbw, hcell⟩ := RRs.at hst (by rw [HN.out]; omega)
      have hat := hcell k (by rw [HN.out]; exact hlt)
      have hmem : l.getD k r0 ∈ l := by
        rw [List.getD_eq_getElem?_getD, List.getElem?_eq_getElem (by rw [HN.out]; exact hlt)]
        simp
      have hsn : l.take (k + 1) = l.take k ++ [l.getD k r0] := by
        rw [List.take_succ_eq_append_getElem (by rw [HN.out]; exact hlt)]
        simp [HN.out, hlt]
      have hxk := HOK.out _ hmem
      have hsx := HS.out (l.getD k r0) hxk
      have hrat : RRAt wr w.heap.size 0 ⟨rn, rty, rcl, rttl, rd⟩ := by
        have hg := cell_of_heap ((HB.out.block _ hlt1).trans HA.out)
        exact ⟨hg 0, hg 1, hg 2, hg 3, hg 4⟩
      have hlt2 : w.heap.size < wr.heap.size := by omega
      have HSX := Go.Lib.hid hsx
      have HSN := Go.Lib.hid hsn
      have HMEM := Go.Lib.hid hmem
      have HXK := Go.Lib.hid hxk
      clear hsx hsn hmem hxk
      clear hcell hst
      generalize l.getD k r0 = x at *
      obtain ⟨a0, a1, a2, a3, a4⟩ := hat
      obtain ⟨c0, c1, c2, c3, c4⟩ := hrat
      simp only [Nat.zero_add] at c1 c2 c3 c4
      obtain ⟨xn, xty, xcl, xttl, xd⟩ := x
      simp only at a0 a1 a2 a3 a4
      have A0 := BelowC.cell (W := wr) a0 hbw
      have A1 := BelowC.cell (W := wr) a1 hbw
      have A2 := BelowC.cell (W := wr) a2 hbw
      have A3 := BelowC.cell (W := wr) a3 hbw
      have A4 := BelowC.cell (W := wr) a4 hbw
      have C0 := BelowC.cell (W := wr) c0 hlt2
      have C1 := BelowC.cell (W := wr) c1 hlt2
      have C2 := BelowC.cell (W := wr) c2 hlt2
      have C3 := BelowC.cell (W := wr) c3 hlt2
      have C4 := BelowC.cell (W := wr) c4 hlt2
      have HBC := Go.Lib.hid (show Below wr.heap.size wr wr.drew from (Below.refl wr.heap.size wr).drew)
      clear a0 a1 a2 a3 a4 c0 c1 c2 c3 c4
      go_wp2_with fail
      refine Go.Mix.wp_region_mix (Es := [5]) (Below wr.heap.size wr) mixed (by kernel_rfl) (Below.refl _ _).drew (fun _ => ?_)
      iterate 5 (refine Go.Mix.mix_step rfl (fun K hK => ?_); have HKK := Go.Lib.hid hK; clear hK; go_simp; refine HKK.out _ _ ?_; clear HKK K)
      refine Go.Mix.mix_eff rfl (fun K hK => ?_)
      have HKK := Go.Lib.hid hK
      clear hK
      go_simp
      refine (HSX.out _).mono ?_; rintro e wb12 ⟨rfl, hx⟩
      have hb := HBC.out.trans (hx.mono HBC.out.size)
      clear HBC
      have HBC := Go.Lib.hid hb
      clear hx hb
      go_simp
      refine HKK.out _ _ HBC.out ?_
      clear HKK K
      refine Go.Mix.mix_nil ?_
      have hbn := HB.out.trans (HBC.out.mono HB.out.size)
      cases hsv : Rc.sameRR ⟨xn, xty, xcl, xttl, xd⟩ ⟨rn, rty, rcl, rttl, rd⟩ with
      | true =>
        have hres : l.any (fun x => Rc.sameRR x ⟨rn, rty, rcl, rttl, rd⟩) = true := List.any_eq_true.2 ⟨_, HMEM.out, hsv⟩
        have HRES := Go.Lib.hid hres
        have HBN := Go.Lib.hid hbn
        clear hres hbn
        clear hsv
        go_wp2_with fail
        go_ret
        exact ⟨ret_bool HRES.out.symm, HBX.out.trans (HBN.out.mono HBX.out.size)⟩
      | false =>
        have hall2 : ∀ y ∈ l.take (k + 1), Rc.sameRR y ⟨rn, rty, rcl, rttl, rd⟩ = false := fun y hy => by
          rw [HSN.out] at hy
          rcases List.mem_append.1 hy with h | h
          · exact HALL.out y h
          · simp at h; rw [h]; exact hsv
        have HALL2 := Go.Lib.hid hall2
        have HBN := Go.Lib.hid hbn
        clear hall2 hbn
        clear hsv
        go_wp2_with fail
        go_roundw
        case rel => exact ⟨k + 1, by go_num, HLT.out, HALL2.out, HBN.out⟩
        case measure => have := HLT.out; simp [intOf]; omega
    · obtain rfl : k = N := by omega
      have hres : l.any (fun x => Rc.sameRR x ⟨rn, rty, rcl, rttl, rd⟩) = false := by
        rw [List.any_eq_false]
        intro x hx
        have h := HALL.out x (by rw [← HN.out, List.take_length]; exact hx)
        simp [h]
      have HRES := Go.Lib.hid hres
      clear hres
      go_wp2_with fail
      go_ret
      exact ⟨ret_bool HRES.out.symm, HBX.out.trans (HB.out.mono HBX.out.size)⟩
end Go.Proofs.YthfpijacemkbbaaDoor

