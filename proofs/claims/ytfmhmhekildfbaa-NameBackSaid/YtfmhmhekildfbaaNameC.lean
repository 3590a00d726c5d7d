/- The contracts of name.order, slices.Compare, name.Less, name.Common, and of the reference's Made, Parent, Under, Less, Common. -/
import Derived.Test.YtfmhmhekildfbaaNameB
import Derived.Test.YtfmhmhekildfbaaShelf
import Derived.Deep.QuietTactic
import Derived.BigQuiet
namespace Go.Proofs.Ytfmhmhekildfbaa
open Go.RowKit

/-! ### a row that is turned round -/
theorem Row.setCells {g : Nat} : ∀ (vs : List Value) (o : Nat) (cs : List Value) (w : World), Row w g cs → o + vs.length ≤ cs.length → Row (w.setCells g o vs) g (cs.take o ++ vs ++ cs.drop (o + vs.length))
  | [], o, cs, w, h, _ => by simpa [World.setCells] using h
  | v :: vs, o, cs, w, h, hl => by
    simp only [List.length_cons] at hl
    have h1 := Row.setCells vs (o + 1) (cs.set o v) (w.setCell ⟨g, o, none⟩ v) (h.set o v) (by rw [List.length_set]; omega)
    have e : (cs.set o v).take (o + 1) ++ vs ++ (cs.set o v).drop (o + 1 + vs.length) = cs.take o ++ (v :: vs) ++ cs.drop (o + (vs.length + 1)) := by
      rw [List.take_succ_eq_append_getElem (by rw [List.length_set]; omega), List.getElem_set_self, List.take_set_of_le (Nat.le_refl _), List.drop_set_of_lt (by omega)]
      simp [Nat.add_comm, Nat.add_left_comm]
    rw [e] at h1
    exact h1

theorem below_setCells {B g : Nat} (hg : B ≤ g) : ∀ (vs : List Value) (o : Nat) (w0 w : World), Below B w0 w → Below B w0 (w.setCells g o vs)
  | [], _, _, _, h => h
  | v :: vs, o, w0, _, h => below_setCells hg vs (o + 1) w0 _ (h.setCell (p := ⟨g, o, none⟩) hg v)

theorem row_of_owns {w : World} {base e g n cap : Nat} {cs : List Value} (h : w.ownsRow base e 1 (.slice (some ⟨g, 0, none⟩) n cap) n cs) : Row w g cs ∧ base ≤ g ∧ n ≤ cap ∧ cap ≤ maxLen := by
  obtain ⟨hl, h2⟩ := h
  rcases h2 with ⟨h2, _⟩ | ⟨g', cap', cur, hv, hb, hg, hn, hm, hs, ht⟩
  · cases h2
  · simp only [Value.slice.injEq, Option.some.injEq, Addr.mk.injEq] at hv
    obtain ⟨⟨rfl, _⟩, _, rfl⟩ := hv
    simp only [Nat.mul_one] at hl hs ht
    exact ⟨⟨cur, e, 0, 0, hg, by rw [hl]; exact ht, by omega, .inr rfl⟩, hb, hn, hm⟩

theorem reverse_any {w : World} {base : Nat} {v : Value} {ls : List (List UInt8)} (hown : w.ownsRow base 9 1 v ls.length (encS ls)) (hb : ls.length ≤ 4611686018427387904) :
    Calls Try.prog 56 #[v] w fun e w' => e = .returned (.tuple #[]) ∧ Strs w' v ls.reverse ∧ Below base w w' := by
  by_cases h0 : ls.length = 0
  · have hl : ls = [] := List.eq_nil_of_length_eq_zero h0
    subst hl
    obtain ⟨a, cap, rfl, _⟩ : ∃ a cap, v = .slice a 0 cap ∧ True := by
      rcases hown.2 with ⟨rfl, _⟩ | ⟨g, cap, cur, rfl, _⟩
      · exact ⟨_, _, rfl, trivial⟩
      · exact ⟨_, _, rfl, trivial⟩
    refine (Try.slices_Reverse_string_empty a cap w).mono ?_
    rintro e w' ⟨rfl, rfl⟩
    exact ⟨rfl, strs_owned hown, Below.refl _ _⟩
  · obtain ⟨g, cap, rfl⟩ : ∃ g cap, v = .slice (some ⟨g, 0, none⟩) ls.length cap := by
      rcases hown.2 with ⟨_, h⟩ | ⟨g, cap, cur, rfl, _⟩
      · exact absurd h h0
      · exact ⟨_, _, rfl⟩
    obtain ⟨hrow, hbg, hn, hm⟩ := row_of_owns hown
    have hlen : (encS ls).length = ls.length := by simp [encS]
    refine (Try.slices_Reverse_string_cells g 0 ls.length cap (fun i => mk (ls.getD i [])) w (by omega) (fun i hi => ?_) (fun j hj => ?_)).mono ?_
    · rw [Nat.zero_add, hrow.cell (by rw [hlen]; exact hi)]
      simp [encS, hi]
    · rw [Nat.zero_add]
      exact hrow.free (by rw [hlen]; exact hj)
    · rintro e w' ⟨rfl, q, rfl⟩
      have hstr : (Go.Lib.strsOf (fun i => mk (ls.getD i [])) ls.length).reverse.map encStr = encS ls.reverse := by
        have e : Go.Lib.strsOf (fun i => mk (ls.getD i [])) ls.length = ls := by
          unfold Go.Lib.strsOf
          refine List.ext_getElem? fun i => ?_
          by_cases hi : i < ls.length
          · simp [hi, mk]
          · simp [hi]
        rw [e]
        rfl
      rw [hstr]
      have hd : Row (w.drewN q) g (encS ls) := hrow
      have h1 := Row.setCells (encS ls.reverse) 0 (encS ls) (w.drewN q) hd (by simp [encS])
      have h2 : (encS ls).take 0 ++ encS ls.reverse ++ (encS ls).drop (0 + (encS ls.reverse).length) = encS ls.reverse := by
        rw [List.take_zero, List.nil_append, List.drop_of_length_le (by simp [encS]), List.append_nil]
      rw [h2] at h1
      refine ⟨rfl, ?_, below_setCells hbg _ _ _ _ ⟨rfl, rfl, rfl, Nat.le_refl _, fun _ _ => rfl⟩⟩
      unfold Strs
      rw [List.length_reverse]
      exact h1.slc (by simp [encS]) hn hm

/-! ### name.order -/
set_option maxRecDepth 100000 in
set_option maxHeartbeats 1000000 in
theorem order_any (s : ByteArray) (w : World) (hs : s.size ≤ maxLen) :
    Calls Try.prog 51 #[.string s] w (RetStrs w (Nm.orderF (Nm.labs (bl s)))) := by
  have hl := labels_any s w hs
  have hle := labs_le (bl s)
  have hsm : ∀ l ∈ Nm.labs (bl s), l.length ≤ 63 := by
    rcases Nm.valid_cases (bl s) with ⟨_, h⟩ | ⟨_, _, h, _⟩
    · rw [h]; simp
    · exact fun l hl => (h l hl).2
  have HL := Go.Lib.hid hl
  have HSM := Go.Lib.hid hsm
  clear hl hs hsm
  generalize Nm.labs (bl s) = ls at *
  generalize hg : w.heap.size = g at *
  have HG := Go.Lib.hid hg
  clear hg
  go_enter Try.func51, Try.ntmps51
  go_wp2_with fail
  refine HL.out.mono ?_
  rintro e w1 ⟨v, rfl, hst, hb⟩
  obtain ⟨a, cap, rfl, _, _⟩ := hst.slice
  rw [HG.out] at hb
  have HST := Go.Lib.hid hst
  have HB := Go.Lib.hid hb
  have hgw : g ≤ w1.heap.size := by have := hb.size; rw [HG.out] at this; exact this
  clear hst hb
  generalize hn : ls.length = n at *
  have HN := Go.Lib.hid hn
  clear hn
  go_wp2_with fail
  go_loopw [2, 8] (fun v i wr => ∃ k : Nat, i = .int .i64 k ∧ k ≤ n ∧ wr.ownsRow w1.heap.size 9 1 v k (encS ((ls.take k).map Nm.foldB)) ∧ Below w1.heap.size w1 wr) (fun _ i _ => n - (intOf i).toNat)
  case atStart => exact ⟨0, rfl, by omega, World.ownsRow_nil _ _ _ _, Below.refl _ _⟩
  case round =>
    obtain ⟨k, rfl, hk, hown, hbr⟩ := hrel
    have HO := Go.Lib.hid hown
    have HBR := Go.Lib.hid hbr
    have hws := hbr.size
    clear hown hbr
    by_cases hlt : k < n
    · have hst := HST.out
      have hn0 : 0 < ls.length := by rw [HN.out]; omega
      rw [← HN.out] at hst
      obtain ⟨b, off, rfl, hbw, hcell⟩ := Strs.at hst hn0
      have hc := hcell k (by rw [HN.out]; exact hlt)
      have hc2 : wr.cell? ⟨b, off + k, none⟩ = some (.string (mk (ls.getD k []))) := by rw [HBR.out.cell (p := ⟨b, off + k, none⟩) hbw]; exact hc
      have hx : (ls.getD k []).length ≤ 63 := HSM.out _ (by rw [List.getD_eq_getElem?_getD, List.getElem?_eq_getElem (by rw [HN.out]; exact hlt)]; simp)
      have hstep : Hid ((ls.take (k + 1)).map Nm.foldB = (ls.take k).map Nm.foldB ++ [Nm.foldB (ls.getD k [])]) := Go.Lib.hid (by
        rw [List.take_succ_eq_append_getElem (by rw [HN.out]; exact hlt), List.map_append]
        simp [HN.out, hlt])
      clear hst hcell hc
      have hfold := fold_any (mk (ls.getD k [])) wr (by rw [size_mk]; unfold maxLen; omega)
      rw [bl_mk] at hfold
      have HF := Go.Lib.hid hfold
      clear hfold
      generalize ls.getD k [] = x at *
      go_wp2_with fail
      refine HF.out.mono ?_
      rintro e w2 ⟨rfl, hb2⟩
      have HB2 := Go.Lib.hid hb2
      have HO2 := Go.Lib.hid (HO.out.kept (w' := w2) (row := none) ⟨hb2.os, hb2.tape, hb2.output, hb2.size, fun k hk _ => hb2.block k hk⟩ (by cases Value.ownBlock _ <;> simp))
      have hws2 := hb2.size
      clear hb2
      go_wp2_with (at_builtin; refine wpList_app eiS (.tmp 12) (.tmp 15) rfl rfl w1.heap.size rfl rfl (HO2.out.alloc _) (slc_new _ 1 1 9 [.string (mk (Nm.foldB x))] rfl (by decide)) ?h1 ?h2 ?h3 ?h4 ?h5; rotate_right; intro v1 w3 hown1 hg1)
      case h1 => intro u hu; simp at hu; subst hu; rfl
      case h2 => unfold maxLen; omega
      case h3 => omega
      case h4 => simp; omega
      go_roundw
      case rel => exact ⟨k + 1, by go_num, by omega, by rw [hstep.out, encS_snoc]; exact hown1, below_app ((HBR.out.trans (HB2.out.mono hws)).alloc (by omega) _) (HO2.out.alloc _) hg1 (Nat.le_refl _) (by simp; omega)⟩
      case measure => simp [intOf]; omega
    · have hke : k = n := by omega
      have hall : Hid ((ls.take k).map Nm.foldB = ls.map Nm.foldB) := Go.Lib.hid (by rw [hke, ← HN.out, List.take_length])
      have hown2 : wr.ownsRow w1.heap.size 9 1 u2 (ls.map Nm.foldB).length (encS (ls.map Nm.foldB)) := by
        have := HO.out
        rw [hall.out, hke] at this
        rw [List.length_map, HN.out]
        exact this
      have hrev := reverse_any hown2 (by rw [List.length_map, HN.out]; omega)
      have HREV := Go.Lib.hid hrev
      clear hke hown2 hrev
      go_wp2_with fail
      refine HREV.out.mono ?_
      rintro e w2 ⟨rfl, hst2, hb2⟩
      go_wp2_with fail
      go_ret
      exact ⟨_, rfl, hst2, by rw [HG.out]; exact HB.out.trans ((HBR.out.trans hb2).mono hgw)⟩

theorem bytesLess_ltB : ∀ (a b : List UInt8), Op.bytesLess a b = Nm.ltB a b
  | [], [] => rfl
  | _ :: _, [] => rfl
  | [], _ :: _ => rfl
  | a :: x, b :: y => by simp only [Op.bytesLess, Nm.ltB, bytesLess_ltB x y]

set_option maxRecDepth 100000 in
theorem cmp_any (a b : List UInt8) (w : World) :
    Calls Try.prog 55 #[.string (mk a), .string (mk b)] w fun e w' => e = .returned (.int .i64 (Nm.cmpB a b)) ∧ w = w' := by
  have ha : (mk a).toList = a := by rw [toList_bl, bl_mk]
  have hb : (mk b).toList = b := by rw [toList_bl, bl_mk]
  have hl := bytesLess_ltB a b
  by_cases h1 : Nm.ltB a b = true
  · have hfin : Hid (Nm.cmpB a b = -1) := Go.Lib.hid (by unfold Nm.cmpB; simp [h1])
    have h2 : Op.bytesLess (mk a).toList (mk b).toList = true := by rw [ha, hb, hl]; exact h1
    clear hl h1
    have HA := Go.Lib.hid ha
    have HB := Go.Lib.hid hb
    clear ha hb
    go_enter Try.func55, Try.ntmps55
    go_wp2
    go_ret
    exact ⟨ret_int hfin.out.symm, rfl⟩
  · have h1' : Nm.ltB a b = false := by simpa using h1
    have h2 : Op.bytesLess (mk a).toList (mk b).toList = false := by rw [ha, hb, hl]; exact h1'
    by_cases he : a = b
    · have hfin : Hid (Nm.cmpB a b = 0) := Go.Lib.hid (Nm.cmpB_zero.2 he)
      have h3 : ((mk a).toList == (mk b).toList) = true := by rw [ha, hb, he]; simp
      clear hl h1 h1' he ha hb
      go_enter Try.func55, Try.ntmps55
      go_wp2
      go_ret
      exact ⟨ret_int hfin.out.symm, rfl⟩
    · have hfin : Hid (Nm.cmpB a b = 1) := Go.Lib.hid (by unfold Nm.cmpB; simp [h1', he])
      have h3 : ((mk a).toList == (mk b).toList) = false := by rw [ha, hb, beq_eq_false_iff_ne]; exact he
      clear hl h1 h1' he ha hb
      go_enter Try.func55, Try.ntmps55
      go_wp2
      go_ret
      exact ⟨ret_int hfin.out.symm, rfl⟩

set_option maxRecDepth 100000 in
set_option maxHeartbeats 1000000 in
theorem compare_any (x y : List (List UInt8)) (ax ay : Option Addr) (cx cy : Nat) (w : World) (hx : Strs w (.slice ax x.length cx) x) (hy : Strs w (.slice ay y.length cy) y) (hlx : x.length ≤ 4611686018427387904) (hly : y.length ≤ 4611686018427387904) :
    Calls Try.prog 50 #[.slice ax x.length cx, .slice ay y.length cy] w fun e w' => e = .returned (.int .i64 (Nm.cmpL x y)) ∧ w = w' := by
  have HX := Go.Lib.hid hx
  have HY := Go.Lib.hid hy
  clear hx hy
  generalize hn : x.length = n at *
  generalize hm : y.length = m at *
  have HN := Go.Lib.hid hn
  have HM := Go.Lib.hid hm
  clear hn hm
  go_enter Try.func50, Try.ntmps50
  go_wp2_with fail
  go_loop [11] (fun i => ∃ k : Nat, i = .int .i64 k ∧ k ≤ n ∧ k ≤ m ∧ x.take k = y.take k) (fun i => n - (intOf i).toNat)
  case atStart => exact ⟨0, rfl, by omega, by omega, by simp⟩
  case round =>
    obtain ⟨k, rfl, hk, hkm, heq⟩ := hrel
    have hdrop : Hid (Nm.cmpL x y = Nm.cmpL (x.drop k) (y.drop k)) := Go.Lib.hid (Nm.cmpL_drop heq (by rw [HN.out]; exact hk) (by rw [HM.out]; exact hkm))
    have HEQ := Go.Lib.hid heq
    clear heq
    by_cases hlt : k < n
    · have hstx := HX.out
      rw [← HN.out] at hstx
      obtain ⟨b, off, rfl, hbw, hcell⟩ := Strs.at hstx (by rw [HN.out]; omega)
      have hcx := hcell k (by rw [HN.out]; exact hlt)
      have hdx : x.drop k = x.getD k [] :: x.drop (k + 1) := by
        rw [List.drop_eq_getElem_cons (by rw [HN.out]; exact hlt)]; simp [HN.out, hlt]
      clear hstx hcell
      by_cases hltm : k < m
      · have hsty := HY.out
        rw [← HM.out] at hsty
        obtain ⟨b2, off2, rfl, hbw2, hcell2⟩ := Strs.at hsty (by rw [HM.out]; omega)
        have hcy := hcell2 k (by rw [HM.out]; exact hltm)
        have hdy : y.drop k = y.getD k [] :: y.drop (k + 1) := by
          rw [List.drop_eq_getElem_cons (by rw [HM.out]; exact hltm)]; simp [HM.out, hltm]
        have htx : x.take (k + 1) = x.take k ++ [x.getD k []] := by rw [List.take_succ_eq_append_getElem (by rw [HN.out]; exact hlt)]; simp [HN.out, hlt]
        have hty : y.take (k + 1) = y.take k ++ [y.getD k []] := by rw [List.take_succ_eq_append_getElem (by rw [HM.out]; exact hltm)]; simp [HM.out, hltm]
        have HDX := Go.Lib.hid hdx
        have HDY := Go.Lib.hid hdy
        have HTX := Go.Lib.hid htx
        have HTY := Go.Lib.hid hty
        clear hsty hcell2 hdx hdy htx hty
        generalize x.getD k [] = p at *
        generalize y.getD k [] = q at *
        by_cases hc0 : Nm.cmpB p q = 0
        · have hpq := Nm.cmpB_zero.1 hc0
          have HPQ := Go.Lib.hid hpq
          have HC0 := Go.Lib.hid hc0
          clear hc0 hpq
          go_wp2_with (go_at_call 55; refine (cmp_any _ _ _).mono ?_; rintro e w' ⟨rfl, rfl⟩; rw [HC0.out])
          go_round
          case rel => exact ⟨k + 1, by go_num, by omega, by omega, by rw [HTX.out, HTY.out, HEQ.out, HPQ.out]⟩
          case measure => simp [intOf]; omega
        · have hfin : Hid (Nm.cmpL x y = Nm.cmpB p q) := Go.Lib.hid (by rw [hdrop.out, HDX.out, HDY.out]; simp [Nm.cmpL, hc0])
          have hb0 : (Nm.cmpB p q == 0) = false := by rw [beq_eq_false_iff_ne]; exact hc0
          have HC0 := Go.Lib.hid hc0
          clear hc0
          generalize hcp : Nm.cmpB p q = cc at *
          have HCP := Go.Lib.hid hcp
          clear hcp
          go_wp2_with (go_at_call 55; refine (cmp_any _ _ _).mono ?_; rintro e w' ⟨rfl, rfl⟩; rw [HCP.out])
          go_ret
          exact ⟨ret_int hfin.out.symm, rfl⟩
      · have hfin : Hid (Nm.cmpL x y = 1) := Go.Lib.hid (by
          rw [hdrop.out, hdx, List.drop_of_length_le (l := y) (by rw [HM.out]; omega)]; rfl)
        clear hdx
        go_wp2_with fail
        go_ret
        exact ⟨ret_int hfin.out.symm, rfl⟩
    · have hxe : x.drop k = [] := List.drop_of_length_le (by rw [HN.out]; omega)
      by_cases hnm : n < m
      · have hfin : Hid (Nm.cmpL x y = -1) := Go.Lib.hid (by
          rw [hdrop.out, hxe, List.drop_eq_getElem_cons (by rw [HM.out]; omega)]; rfl)
        clear hxe
        go_wp2_with fail
        go_ret
        exact ⟨ret_int hfin.out.symm, rfl⟩
      · have hfin : Hid (Nm.cmpL x y = 0) := Go.Lib.hid (by
          rw [hdrop.out, hxe, List.drop_of_length_le (l := y) (by rw [HM.out]; omega)]; rfl)
        clear hxe
        go_wp2_with fail
        go_ret
        exact ⟨ret_int hfin.out.symm, rfl⟩
end Go.Proofs.Ytfmhmhekildfbaa

