/- The contracts of the reference's Text, digit. -/
import Derived.Test.YtfmhmhekildfbaaRefD
namespace Go.Proofs.Ytfmhmhekildfbaa
open Go.RowKit

theorem cat_mk (a b : List UInt8) : mk a ++ mk b = mk (a ++ b) := by apply bl_inj; rw [bl_append, bl_mk, bl_mk, bl_mk]
theorem cat_lit (a b : List UInt8) : mk a ++ ⟨b.toArray⟩ = mk (a ++ b) := cat_mk a b

theorem nums3 (c : UInt8) : [Value.int IntKind.u8 (48 + (c.toNat : Int) / 100), Value.int IntKind.u8 (48 + (c.toNat : Int) / 10 % 10), Value.int IntKind.u8 (48 + (c.toNat : Int) % 10)] = [48 + c / 100, 48 + c / 10 % 10, 48 + c % 10].map fun b : UInt8 => Value.int .u8 b.toNat := by
  have := sign_nums c
  simpa using this

theorem digit_any (c : UInt8) (w : World) : Calls Try.prog 38 #[.int .u8 c.toNat] w fun e w' => e = .returned (.bool (Nm.dig c)) ∧ w = w' := by
  have hd : Hid (Nm.dig c = (decide (48 ≤ c.toNat) && decide (c.toNat ≤ 57))) := Go.Lib.hid rfl
  generalize Nm.dig c = res at *
  by_cases h1 : c.toNat < 48
  · have e1 : ¬ 48 ≤ (c.toNat : Int) := by omega
    go_enter Try.func38, Try.ntmps38
    go_wp2
    go_ret
    exact ⟨ret_bool (by rw [hd.out]; simp; omega), rfl⟩
  · have e1 : 48 ≤ (c.toNat : Int) := by omega
    by_cases h2 : c.toNat ≤ 57
    · have e2 : (c.toNat : Int) ≤ 57 := by omega
      go_enter Try.func38, Try.ntmps38
      go_wp2
      go_ret
      exact ⟨ret_bool (by rw [hd.out]; simp; omega), rfl⟩
    · have e2 : ¬ (c.toNat : Int) ≤ 57 := by omega
      go_enter Try.func38, Try.ntmps38
      go_wp2
      go_ret
      exact ⟨ret_bool (by rw [hd.out]; simp; omega), rfl⟩

set_option maxRecDepth 100000 in
set_option maxHeartbeats 4000000 in
theorem refText_any (s : ByteArray) (w : World) :
    Calls Try.prog 24 #[.string s] w fun e w' => e = .returned (.string (mk (Nm.textN (bl s)))) ∧ Below w.heap.size w w' := by
  have hl := refLabels_any s w
  obtain ⟨hg, hle⟩ := refLab_good (bl s)
  cases hv : Nm.valid (bl s) with
  | false =>
    have hfin : Hid (mk (Nm.textN (bl s)) = ⟨#[]⟩) := Go.Lib.hid (by
      unfold Nm.textN
      rw [if_neg (fun e => by rw [e] at hv; exact absurd hv (by decide)), Nm.labs_not hv]; rfl)
    have h2 := Nm.refLab_not hv
    have HL := Go.Lib.hid hl
    clear hl hg hv
    generalize Nm.refLab (bl s) = p at *
    obtain ⟨ls, ok⟩ := p
    obtain rfl : ok = false := h2
    go_enter Try.func24, Try.ntmps24
    go_wp2_with fail
    refine HL.out.mono ?_
    rintro e w1 ⟨v, rfl, hst, hb⟩
    obtain ⟨a, cap, rfl, _, _⟩ := hst.slice
    clear hst
    go_wp2_with fail
    go_ret
    exact ⟨ret_str hfin.out.symm, hb⟩
  | true =>
    have hr := Nm.refLab_labs hv
    rw [hr] at hl hg hle
    have hw := (Nm.labs_valid hv).1
    cases hls : Nm.labs (bl s) with
    | nil =>
      rw [hls] at hl hw
      have hfin : Hid (mk (Nm.textN (bl s)) = ⟨#[46]⟩) := Go.Lib.hid (by unfold Nm.textN; rw [if_pos (show bl s = [0] from hw)]; rfl)
      have HL := Go.Lib.hid hl
      clear hl hr hv hg hw hls
      go_enter Try.func24, Try.ntmps24
      go_wp2_with fail
      refine HL.out.mono ?_
      rintro e w1 ⟨v, rfl, hst, hb⟩
      obtain ⟨a, cap, rfl, _, _⟩ := hst.slice
      clear hst
      go_wp2_with fail
      go_ret
      exact ⟨ret_str hfin.out.symm, hb⟩
    | cons l0 ls0 =>
      have hfin : Hid (mk (Nm.textN (bl s)) = mk (Nm.textL (Nm.labs (bl s)))) := Go.Lib.hid (by
        unfold Nm.textN
        rw [if_neg (fun e => by rw [e] at hls; exact absurd hls (by simp [show Nm.labs [0] = [] from rfl]))])
      have hpos : 0 < (Nm.labs (bl s)).length := by rw [hls]; simp
      have HL := Go.Lib.hid hl
      have HGL := Go.Lib.hid hg
      clear hl hg hr hv hls hw
      simp only at hle
      generalize Nm.labs (bl s) = ls at *
      generalize Nm.textN (bl s) = res at *
      clear l0 ls0
      go_enter Try.func24, Try.ntmps24
      go_wp2_with fail
      refine HL.out.mono ?_
      rintro e w1 ⟨v, rfl, hst, hb⟩
      obtain ⟨a, cap, rfl, _, _⟩ := hst.slice
      have HST := Go.Lib.hid hst
      have HB := Go.Lib.hid hb
      clear hst hb
      generalize hn : ls.length = n at *
      have HN := Go.Lib.hid hn
      clear hn
      have e0 : ((n : Int) == 0) = false := by rw [beq_eq_false_iff_ne]; omega
      go_wp2_with fail
      go_loopw [5, 6] (fun t i wr => ∃ k : Nat, i = .int .i64 k ∧ k ≤ n ∧ t = .string (mk (Nm.textL (ls.take k))) ∧ Below w1.heap.size w1 wr) (fun _ i _ => n - (intOf i).toNat)
      case atStart => exact ⟨0, rfl, by omega, rfl, Below.refl _ _⟩
      case round =>
        obtain ⟨k, rfl, hk, rfl, hbr⟩ := hrel
        have HBR := Go.Lib.hid hbr
        clear hbr
        by_cases hlt : k < n
        · have hlk : k < ls.length := by rw [HN.out]; exact hlt
          have hst : Strs wr (.slice a ls.length cap) ls := by
            have := HST.out.below HBR.out (Nat.le_refl _)
            rw [← HN.out] at this
            exact this
          obtain ⟨b, off, rfl, hbw, hcell⟩ := Strs.at hst (by omega)
          have hc2 := hcell k hlk
          have hstep := textL_snoc (ls.take k) (ls.getD k [])
          rw [← getD_take_succ ls [] hlk] at hstep
          have HSTEP := Go.Lib.hid hstep
          have hxl : (ls.getD k []).length ≤ 63 := (HGL.out _ (by rw [List.getD_eq_getElem?_getD, List.getElem?_eq_getElem hlk]; simp)).2
          have hbound := textL_le (ls.take k) (fun l hl => HGL.out l (List.mem_of_mem_take hl))
          have hle2 : (ls.take k).length ≤ 255 := by rw [List.length_take]; omega
          have hbd : (Nm.textL (ls.take k)).length ≤ 64515 := by omega
          have HBW := Go.Lib.hid hbw
          clear hst hcell hstep hlk hbound hle2 hbw
          generalize ls.getD k [] = x at *
          generalize (Nm.textL (ls.take k)) = td at *
          have hsx := size_mk x
          go_wp2_with fail
          go_loopw [5, 7] (fun t i w3 => ∃ j : Nat, i = .int .i64 j ∧ j ≤ x.length ∧ t = .string (mk (td ++ (x.take j).flatMap Nm.signB)) ∧ Below wr.heap.size wr w3) (fun _ i _ => x.length - (intOf i).toNat)
          case atStart => exact ⟨0, rfl, by omega, by simp, Below.refl _ _⟩
          case round =>
            obtain ⟨j, rfl, hj, rfl, hbr3⟩ := hrel
            have HBR3 := Go.Lib.hid hbr3
            have hsz3 := hbr3.size
            have hc3 := (hbr3.cell (p := ⟨b, off + k, none⟩) HBW.out).trans hc2
            clear hbr3
            have hsl := signs_le (x.take j)
            rw [List.length_take] at hsl
            have hcl : (td ++ (x.take j).flatMap Nm.signB).length ≤ 70000 := by rw [List.length_append]; omega
            have hstp : j < x.length → td ++ (x.take (j + 1)).flatMap Nm.signB = td ++ (x.take j).flatMap Nm.signB ++ Nm.signB (x.getD j 0) := fun h => by
              rw [getD_take_succ x 0 h, List.flatMap_append]; simp
            have HSTP := Go.Lib.hid hstp
            have hall : j = x.length → td ++ (x.take j).flatMap Nm.signB = td ++ x.flatMap Nm.signB := fun h => by rw [h, List.take_length]
            have HALL := Go.Lib.hid hall
            clear hsl hstp hall
            by_cases hltj : j < x.length
            · have hjs : j < (mk x).size := by rw [hsx]; exact hltj
              have hgj := get_mk hjs
              have hstp := HSTP.out hltj
              have HSTP2 := Go.Lib.hid hstp
              clear hstp
              generalize x.getD j 0 = c at *
              generalize td ++ (x.take j).flatMap Nm.signB = cur at *
              have hsc := size_mk cur
              have q1 : ¬ 9223372036854775807 < cur.length + 1 := by omega
              have q2 : ¬ 9223372036854775807 < cur.length + 1 + 1 := by omega
              have q3 : ¬ 9223372036854775807 < cur.length + 1 + 3 := by omega
              have hcc := c.toNat_lt
              by_cases h1 : c.toNat = 46 ∨ c.toNat = 92
              · have hsg : Hid (cur ++ Nm.signB c = cur ++ [92] ++ [c]) := Go.Lib.hid (by unfold Nm.signB; rw [if_pos h1]; simp)
                have hcat1 : mk cur ++ ⟨#[92]⟩ = mk (cur ++ [92]) := cat_lit _ _
                have hs1 : (mk (cur ++ [92])).size = cur.length + 1 := by rw [size_mk]; simp
                have hcat2 : mk (cur ++ [92]) ++ mk [c] = mk (cur ++ [92] ++ [c]) := cat_mk _ _
                have hso := size_one c
                have hconv := run_conv_new wr 1 [.int .u8 c.toNat] [c] rfl rfl (by decide)
                by_cases h46 : c.toNat = 46
                · have e1 : ((c.toNat : Int) == 46) = true := by rw [h46]; rfl
                  clear h1 h46
                  go_wp2_with fail
                  go_roundw
                  case rel => exact ⟨j + 1, by go_num, by omega, by rw [HSTP2.out, hsg.out]; simp, HBR3.out.trans (((Below.refl _ _).alloc (Nat.le_refl _) _).mono hsz3)⟩
                  case measure => simp [intOf]; omega
                · have e1 : ((c.toNat : Int) == 46) = false := by rw [beq_eq_false_iff_ne]; omega
                  have e2 : ((c.toNat : Int) == 92) = true := by rw [h1.resolve_left h46]; rfl
                  clear h1 h46
                  go_wp2_with fail
                  go_roundw
                  case rel => exact ⟨j + 1, by go_num, by omega, by rw [HSTP2.out, hsg.out]; simp, HBR3.out.trans (((Below.refl _ _).alloc (Nat.le_refl _) _).mono hsz3)⟩
                  case measure => simp [intOf]; omega
              · have e1 : ((c.toNat : Int) == 46) = false := by rw [beq_eq_false_iff_ne]; omega
                have e2 : ((c.toNat : Int) == 92) = false := by rw [beq_eq_false_iff_ne]; omega
                by_cases h3 : c.toNat < 33 ∨ 126 < c.toNat
                · have hsg : Hid (cur ++ Nm.signB c = cur ++ [92] ++ [48 + c / 100, 48 + c / 10 % 10, 48 + c % 10]) := Go.Lib.hid (by unfold Nm.signB; rw [if_neg h1, if_pos h3]; simp)
                  have hcat1 : mk cur ++ ⟨#[92]⟩ = mk (cur ++ [92]) := cat_lit _ _
                  have hs1 : (mk (cur ++ [92])).size = cur.length + 1 := by rw [size_mk]; simp
                  have hcat2 := cat_mk (cur ++ [92]) [48 + c / 100, 48 + c / 10 % 10, 48 + c % 10]
                  have hso : (mk [48 + c / 100, 48 + c / 10 % 10, 48 + c % 10]).size = 3 := rfl
                  have hconv := run_conv_new wr 3 _ _ rfl (nums3 c) (by decide)
                  generalize [48 + c / 100, 48 + c / 10 % 10, 48 + c % 10] = tr at *
                  by_cases h4 : c.toNat < 33
                  · have e3 : (c.toNat : Int) < 33 := by omega
                    clear h1 h3
                    go_wp2_with fail
                    go_roundw
                    case rel => exact ⟨j + 1, by go_num, by omega, by rw [HSTP2.out, hsg.out]; simp, HBR3.out.trans (((Below.refl _ _).alloc (Nat.le_refl _) _).mono hsz3)⟩
                    case measure => simp [intOf]; omega
                  · have e3 : ¬ (c.toNat : Int) < 33 := by omega
                    have e4 : 126 < (c.toNat : Int) := by omega
                    clear h1 h3
                    go_wp2_with fail
                    go_roundw
                    case rel => exact ⟨j + 1, by go_num, by omega, by rw [HSTP2.out, hsg.out]; simp, HBR3.out.trans (((Below.refl _ _).alloc (Nat.le_refl _) _).mono hsz3)⟩
                    case measure => simp [intOf]; omega
                · have hsg : Hid (cur ++ Nm.signB c = cur ++ [c]) := Go.Lib.hid (by unfold Nm.signB; rw [if_neg h1, if_neg h3])
                  have hcat2 : mk cur ++ mk [c] = mk (cur ++ [c]) := cat_mk _ _
                  have hso := size_one c
                  have hconv := run_conv_new wr 1 [.int .u8 c.toNat] [c] rfl rfl (by decide)
                  have e3 : ¬ (c.toNat : Int) < 33 := by omega
                  have e4 : ¬ 126 < (c.toNat : Int) := by omega
                  clear h1 h3
                  go_wp2_with fail
                  go_roundw
                  case rel => exact ⟨j + 1, by go_num, by omega, by rw [HSTP2.out, hsg.out], HBR3.out.trans (((Below.refl _ _).alloc (Nat.le_refl _) _).mono hsz3)⟩
                  case measure => simp [intOf]; omega
            · have hje : j = x.length := by omega
              have hal := HALL.out hje
              rw [hal] at hcl ⊢
              have hn2 : ¬ ((j : Int) < (x.length : Int)) := by omega
              clear hal HSTP HALL
              generalize td ++ x.flatMap Nm.signB = cur at *
              clear hje
              have hcat1 : mk cur ++ ⟨#[46]⟩ = mk (cur ++ [46]) := cat_lit _ _
              have hsc := size_mk cur
              have q1 : ¬ 9223372036854775807 < cur.length + 1 := by omega
              go_wp2_with fail
              go_roundw
              case rel => exact ⟨k + 1, by go_num, by omega, by rw [HSTEP.out], HBR.out.trans (HBR3.out.mono HBR.out.size)⟩
              case measure => simp [intOf]; omega
        · obtain rfl : k = n := by omega
          have hall : Hid (ls.take k = ls) := Go.Lib.hid (by rw [← HN.out, List.take_length])
          go_wp2_with fail
          go_ret
          exact ⟨ret_str (by rw [hall.out, hfin.out]), HB.out.trans (HBR.out.mono HB.out.size)⟩
end Go.Proofs.Ytfmhmhekildfbaa

