/- The contract of name.Text: the text of a name. -/
import Derived.Test.YtfmhmhekildfbaaNameF
namespace Go.Proofs.Ytfmhmhekildfbaa
open Go.RowKit

theorem textL_snoc (ls : List (List UInt8)) (x : List UInt8) : Nm.textL (ls ++ [x]) = Nm.textL ls ++ x.flatMap Nm.signB ++ [46] := by
  simp [Nm.textL]
theorem signs_le (l : List UInt8) : (l.flatMap Nm.signB).length ≤ 4 * l.length := by
  induction l with
  | nil => simp
  | cons c l ih =>
    have := (Nm.signB_length c).1
    simp only [List.flatMap_cons, List.length_append, List.length_cons]
    omega
theorem textL_le (ls : List (List UInt8)) (h : Nm.GoodL ls) : (Nm.textL ls).length ≤ 253 * ls.length := by
  induction ls with
  | nil => simp [Nm.textL]
  | cons l ls ih =>
    obtain ⟨⟨_, h2⟩, h3⟩ := Nm.good_cons.1 h
    have := ih h3
    have h4 := signs_le l
    simp only [Nm.textL, List.flatMap_cons, List.length_append, List.length_cons, List.length_nil] at *
    omega
theorem getD_take_succ {α : Type} (l : List α) (d : α) {k : Nat} (h : k < l.length) : l.take (k + 1) = l.take k ++ [l.getD k d] := by
  rw [List.take_succ_eq_append_getElem h]
  simp [h]
theorem isB_new {B b : Nat} {l : List UInt8} {w : World} (h : IsB B b l w) : B ≤ w.heap.size := by
  obtain ⟨cs, hc⟩ := h.block
  have h1 := (Array.getElem?_eq_some_iff.1 hc).1
  rcases h with ⟨h2, _⟩ | ⟨h2, _⟩ <;> omega

set_option maxRecDepth 100000 in
set_option maxHeartbeats 2000000 in
theorem Text_any (s : ByteArray) (w : World) (hs : s.size ≤ maxLen) :
    Calls Try.prog 23 #[.string s] w fun e w' => e = .returned (.string (mk (Nm.textN (bl s)))) ∧ Below w.heap.size w w' := by
  by_cases hroot : bl s = [0]
  · have hfin : Hid (mk (Nm.textN (bl s)) = ⟨#[46]⟩) := Go.Lib.hid (by unfold Nm.textN; rw [if_pos hroot]; rfl)
    have h1 : (s.toList == [0]) = true := by rw [toList_bl, hroot]; rfl
    clear hroot hs
    go_enter Try.func23, Try.ntmps23
    go_wp2_with fail
    go_ret
    exact ⟨ret_str hfin.out.symm, Below.refl _ _⟩
  · have hfin : Hid (mk (Nm.textN (bl s)) = mk (Nm.textL (Nm.labs (bl s)))) := Go.Lib.hid (by unfold Nm.textN; rw [if_neg hroot])
    have h1 : (s.toList == [0]) = false := by rw [toList_bl, beq_eq_false_iff_ne]; exact hroot
    have hl := fun w => labels_own s w hs
    have hle := labs_le (bl s)
    have hgl : Nm.GoodL (Nm.labs (bl s)) := by
      rcases Nm.valid_cases (bl s) with ⟨_, h⟩ | ⟨_, _, h, _⟩
      · rw [h]; exact Nm.good_nil
      · exact h
    have h0 := isB_fresh w
    have HL := Go.Lib.hid hl
    have HGL := Go.Lib.hid hgl
    have HI := Go.Lib.hid h0
    clear hroot hs hl hgl h0
    generalize Nm.textN (bl s) = res at *
    generalize Nm.labs (bl s) = ls at *
    go_enter Try.func23, Try.ntmps23
    go_wp2_with fail
    refine (HL.out _).mono ?_
    rintro e w1 ⟨v, rfl, hown, hb⟩
    have hst := strs_owned hown
    obtain ⟨a, cap, rfl, _, _⟩ := hst.slice
    have hib := HI.out.below hb (Nat.le_refl _)
    have HIB := Go.Lib.hid hib
    have HB := Go.Lib.hid (((Below.refl w.heap.size w).alloc (Nat.le_refl _) (.cells #[.pointer none, .slice none 0 0] 61)).trans (hb.mono (by simp)))
    have HOWN := Go.Lib.hid hown
    have HSZ := Go.Lib.hid hb.size
    clear hst hib hown hb
    generalize hn : ls.length = n at *
    have HN := Go.Lib.hid hn
    clear hn
    go_wp2_with fail
    go_loopw [12] (fun i wr => ∃ k : Nat, i = .int .i64 k ∧ k ≤ n ∧ IsB w.heap.size w.heap.size (Nm.textL (ls.take k)) wr ∧ Below w.heap.size w wr ∧ Keeps w.heap.size w1 wr) (fun i _ => n - (intOf i).toNat)
    case atStart => exact ⟨0, rfl, by omega, HIB.out, HB.out, Keeps.refl _ _⟩
    case round =>
      obtain ⟨k, rfl, hk, hisb, hbr, hkr⟩ := hrel
      have HISB := Go.Lib.hid hisb
      have HBR := Go.Lib.hid hbr
      have HKR := Go.Lib.hid hkr
      clear hisb hbr hkr
      by_cases hlt : k < n
      · have hlk : k < ls.length := by rw [HN.out]; exact hlt
        have hst : Strs wr (.slice a ls.length cap) ls := by
          obtain ⟨cs, hcs⟩ := HIB.out.block
          have := HKR.out.owns HOWN.out (by decide) hcs (by decide)
          rw [← HN.out] at this
          exact strs_owned this
        obtain ⟨b, off, rfl, hbw, hcell⟩ := Strs.at hst (by omega)
        have hc2 := hcell k hlk
        have hstep := textL_snoc (ls.take k) (ls.getD k [])
        rw [← getD_take_succ ls [] hlk] at hstep
        have HSTEP := Go.Lib.hid hstep
        have hxl : (ls.getD k []).length ≤ 63 := (HGL.out _ (by rw [List.getD_eq_getElem?_getD, List.getElem?_eq_getElem hlk]; simp)).2
        have hgk : Nm.GoodL (ls.take k) := fun l hl => HGL.out l (List.mem_of_mem_take hl)
        have hbound := textL_le _ hgk
        have hle2 : (ls.take k).length ≤ 255 := by rw [List.length_take]; omega
        clear hst hcell hgk hstep hlk
        generalize ls.getD k [] = x at *
        generalize (ls.take k) = done at *
        generalize hdn : done.length = dn at *
        clear hdn
        generalize hdt : (Nm.textL done).length = dt at *
        have HDT := Go.Lib.hid hdt
        clear hdt
        generalize Nm.textL done = td at *
        go_wp2_with fail
        have hsx := size_mk x
        have HSX := Go.Lib.hid hsx
        clear hsx
        go_loopw [18] (fun i w3 => ∃ j : Nat, i = .int .i64 j ∧ j ≤ x.length ∧ IsB w.heap.size w.heap.size (td ++ (x.take j).flatMap Nm.signB) w3 ∧ Below w.heap.size w w3 ∧ Keeps w.heap.size w1 w3) (fun i _ => x.length - (intOf i).toNat)
        case atStart => exact ⟨0, rfl, by omega, by simpa using HISB.out, HBR.out, HKR.out⟩
        case round =>
          obtain ⟨j, rfl, hj, hisb3, hbr3, hkr3⟩ := hrel
          have HISB3 := Go.Lib.hid hisb3
          have HBR3 := Go.Lib.hid hbr3
          have HKR3 := Go.Lib.hid hkr3
          have hnew := isB_new hisb3
          clear hisb3 hbr3 hkr3
          have hsl := signs_le (x.take j)
          rw [List.length_take] at hsl
          by_cases hltj : j < x.length
          · have hjs : j < (mk x).size := by rw [HSX.out]; exact hltj
            have hts := getD_take_succ x 0 hltj
            have hgj : (mk x)[j] = x.getD j 0 := by
              rw [get_bl _ _ hjs]
              simp [bl_mk, hltj]
            have HTS := Go.Lib.hid hts
            clear hts
            generalize x.getD j 0 = c at *
            have hsg := fun w => sign_any c w
            have HSG := Go.Lib.hid hsg
            have hsgl := (Nm.signB_length c).1
            clear hsg
            go_wp2_with fail
            refine (HSG.out _).mono ?_
            rintro e w4 ⟨rfl, hb4⟩
            have hws := writeString_any w.heap.size w.heap.size _ (mk (Nm.signB c)) w4 (HISB3.out.below hb4 (Nat.le_refl _)) (by rw [List.length_append, HDT.out, size_mk]; omega) (Nat.le_trans hnew hb4.size)
            rw [bl_mk] at hws
            have HWS := Go.Lib.hid hws
            have HB4 := Go.Lib.hid hb4
            have HK4 := Go.Lib.hid (keeps_below w.heap.size hb4)
            clear hws hb4
            go_wp2_with fail
            refine HWS.out.mono ?_
            rintro e w5 ⟨rfl, hi5, hb5, hk5⟩
            have HI5 := Go.Lib.hid hi5
            have HB5 := Go.Lib.hid hb5
            have HK5 := Go.Lib.hid hk5
            clear hi5 hb5 hk5
            go_wp2_with fail
            go_roundw
            case rel => exact ⟨j + 1, by go_num, by omega, by rw [HTS.out, List.flatMap_append]; simpa using HI5.out, (HBR3.out.trans (HB4.out.mono hnew)).trans HB5.out, (HKR3.out.trans HK4.out).trans HK5.out⟩
            case measure => simp [intOf]; omega
          · have hje : j = x.length := by omega
            have hall : Hid (x.take j = x) := Go.Lib.hid (by rw [hje, List.take_length])
            have hi3 := HISB3.out
            rw [hall.out] at hi3 hsl
            have hwb := writeByte_any w.heap.size w.heap.size _ 46 _ hi3 (by rw [List.length_append, HDT.out]; omega) hnew
            have HWB := Go.Lib.hid hwb
            have hjs : ¬ ((j : Int) < ((mk x).size : Int)) := by rw [HSX.out]; omega
            clear hi3 hwb hje
            go_wp2_with fail
            refine HWB.out.mono ?_
            rintro e w5 ⟨rfl, hi5, hb5, hk5⟩
            have HI5 := Go.Lib.hid hi5
            have HB5 := Go.Lib.hid hb5
            have HK5 := Go.Lib.hid hk5
            clear hi5 hb5 hk5
            go_wp2_with fail
            go_roundw
            case rel => exact ⟨k + 1, by go_num, by omega, by rw [HSTEP.out]; exact HI5.out, HBR3.out.trans HB5.out, HKR3.out.trans HK5.out⟩
            case measure => simp [intOf]; omega
      · have hke : k = n := by omega
        have hall : Hid (ls.take k = ls) := Go.Lib.hid (by rw [hke, ← HN.out, List.take_length])
        have hi := HISB.out
        rw [hall.out] at hi
        have hstr := builderString_any w.heap.size w.heap.size _ wr hi (isB_new hi)
        have HSTR := Go.Lib.hid hstr
        clear hi hstr hke
        go_wp2_with fail
        refine HSTR.out.mono ?_
        rintro e w5 ⟨rfl, hb5⟩
        go_wp2_with fail
        go_ret
        exact ⟨ret_str hfin.out.symm, HBR.out.trans hb5⟩
end Go.Proofs.Ytfmhmhekildfbaa

