/- The contracts of the reference's Made, Parent, Join, Under, Less, Common. -/
import Derived.Test.YtfmhmhekildfbaaNameI
import Derived.Deep.QuietTactic
import Derived.BigQuiet
namespace Go.Proofs.Ytfmhmhekildfbaa
open Go.RowKit

theorem run_conv_newd (w : World) (n : Nat) (cs : List Value) (l : List UInt8) (hn : cs.length = n) (h : cs = l.map fun b => .int .u8 b.toNat) (hm : n ≤ maxLen) :
    (convert 44 9 (.slice (some ⟨w.heap.size, 0, none⟩) n n)).run Try.prog (w.alloc (.cells cs.toArray 5)).drew = .ok (.string (mk l)) (w.alloc (.cells cs.toArray 5)).drew := by
  have hl : l.length = n := by rw [← hn, h]; simp
  refine run_conv_string ?_
  unfold Byts
  rw [hl, ← h]
  exact (slc_new w 1 n _ cs (by rw [hn]; simp) hm).drew
theorem wrap_u8 {n : Nat} (h : n ≤ 63) : IntKind.u8.wrap (n : Int) = ((UInt8.ofNat n).toNat : Int) := by
  rw [Nm.ofNat_toNat h, IntKind.wrap_u8]
  omega

set_option maxRecDepth 100000 in
set_option maxHeartbeats 2000000 in
theorem Made_any (a : Option Addr) (cap : Nat) (ls : List (List UInt8)) (w : World) (hst : Strs w (.slice a ls.length cap) ls) (hg : Nm.GoodL ls) (hn : ls.length ≤ 1099511627776) :
    Calls Try.prog 44 #[.slice a ls.length cap] w fun e w' => e = .returned (.string (mk (Nm.wire ls))) ∧ Below w.heap.size w w' := by
  have HST := Go.Lib.hid hst
  have HGL := Go.Lib.hid hg
  clear hst hg
  generalize hnn : ls.length = n at *
  have HN := Go.Lib.hid hnn
  clear hnn
  go_enter Try.func44, Try.ntmps44
  go_wp2_with fail
  go_loopw [3, 4] (fun s i wr => ∃ k : Nat, i = .int .i64 k ∧ k ≤ n ∧ s = .string (mk (Nm.pre (ls.take k))) ∧ Below w.heap.size w wr) (fun _ i _ => n - (intOf i).toNat)
  case atStart => exact ⟨0, rfl, by omega, rfl, Below.refl _ _⟩
  case round =>
    obtain ⟨k, rfl, hk, rfl, hbr⟩ := hrel
    have hpl := pre_le (ls := ls.take k) (fun l hl => HGL.out l (List.mem_of_mem_take hl))
    rw [List.length_take, HN.out] at hpl
    replace hpl : (Nm.pre (ls.take k)).length ≤ 70368744177664 := by omega
    have hsp := size_mk (Nm.pre (ls.take k))
    have HBR := Go.Lib.hid hbr
    have hws := hbr.size
    clear hbr
    by_cases hlt : k < n
    · have hlk : k < ls.length := by rw [HN.out]; exact hlt
      have hst : Strs wr (.slice a ls.length cap) ls := by
        have := HST.out.below HBR.out (Nat.le_refl _)
        rw [← HN.out] at this
        exact this
      obtain ⟨b, off, rfl, hbw, hcell⟩ := Strs.at hst (by omega)
      have hc2 := hcell k hlk
      have hstep := pre_snoc (ls.take k) (ls.getD k [])
      rw [← getD_take_succ ls [] hlk] at hstep
      have hxl := HGL.out (ls.getD k []) (by rw [List.getD_eq_getElem?_getD, List.getElem?_eq_getElem hlk]; simp)
      have hsx := size_mk (ls.getD k [])
      have HSTEP := Go.Lib.hid hstep
      have HBW := Go.Lib.hid hbw
      clear hst hcell hstep hlk hbw
      generalize ls.getD k [] = x at *
      generalize Nm.pre (ls.take k) = pk at *
      have hu8 := wrap_u8 hxl.2
      have hconv := run_conv_newd wr 1 [.int .u8 (UInt8.ofNat x.length).toNat] [UInt8.ofNat x.length] rfl rfl (by decide)
      have hs1 := size_one (UInt8.ofNat x.length)
      generalize UInt8.ofNat x.length = c at *
      have hcat1 : mk pk ++ mk [c] = mk (pk ++ [c]) := by apply bl_inj; rw [bl_append, bl_mk, bl_mk, bl_mk]
      have hcat2 : mk (pk ++ [c]) ++ mk x = mk (pk ++ [c] ++ x) := by apply bl_inj; rw [bl_append, bl_mk, bl_mk, bl_mk]
      have hsp2 : (mk (pk ++ [c])).size = pk.length + 1 := by rw [size_mk]; simp
      have q1 : ¬ 9223372036854775807 < pk.length + 1 := by omega
      have q2 : ¬ 9223372036854775807 < pk.length + 1 + x.length := by omega
      go_wp2_with fail
      refine Go.Mix.wp_region_mix (Es := [7, 8]) (Below wr.heap.size wr) mixed (by kernel_rfl) ((Below.refl _ _).drew) (fun _ => ?_)
      have hld : ∀ w3 : Subtype (Below wr.heap.size wr), w3.1.cell? ⟨b, off + k, none⟩ = some (.string (mk x)) := fun w3 => by
        rw [w3.2.cell (p := ⟨b, off + k, none⟩) HBW.out]; exact hc2
      iterate 7 (refine Go.Mix.mix_step rfl (fun K hK => ?_); go_simp; refine hK _ _ ?_; clear hK K)
      (refine Go.Mix.mix_eff rfl (fun K hK => ?_); go_simp; refine hK _ _ ((Below.refl _ wr).alloc (Nat.le_refl _) _).drew ?_; clear hK K)
      (refine Go.Mix.mix_eff rfl (fun K hK => ?_); go_simp; refine hK _ _ ((Below.refl _ wr).alloc (Nat.le_refl _) _).drew ?_; clear hK K)
      iterate 7 (refine Go.Mix.mix_step rfl (fun K hK => ?_); go_simp; refine hK _ _ ?_; clear hK K)
      refine Go.Mix.mix_nil ?_
      go_wp2_with fail
      go_roundw
      case rel => exact ⟨k + 1, by go_num, by omega, by rw [HSTEP.out]; simp, HBR.out.trans (((Below.refl _ wr).alloc (Nat.le_refl _) _).drew.mono hws)⟩
      case measure => simp [intOf]; omega
    · obtain rfl : k = n := by omega
      have hall : Hid (ls.take k = ls) := Go.Lib.hid (by rw [← HN.out, List.take_length])
      have hcat : mk (Nm.pre (ls.take k)) ++ ⟨#[0]⟩ = mk (Nm.wire (ls.take k)) := by apply bl_inj; rw [bl_append, bl_mk, bl_mk]; rfl
      have hs0 : (⟨#[0]⟩ : ByteArray).size = 1 := rfl
      have q1 : ¬ 9223372036854775807 < (Nm.pre (ls.take k)).length + 1 := by omega
      go_wp2_with fail
      go_ret
      exact ⟨ret_str (by rw [hall.out]), HBR.out⟩
theorem refLab_good (s : List UInt8) : Nm.GoodL (Nm.refLab s).1 ∧ (Nm.refLab s).1.length ≤ 255 := by
  unfold Nm.refLab
  split
  · exact ⟨Nm.good_nil, by simp⟩
  · rename_i h
    cases hu : Nm.unwire s with
    | none => exact ⟨Nm.good_nil, by simp⟩
    | some p =>
      obtain ⟨ls, t⟩ := p
      obtain ⟨h1, h2⟩ := Nm.unwire_eq.1 hu
      have h3 := Nm.wire_length_gt ls
      have h4 : s.length = (Nm.wire ls).length + t.length := by rw [h1, List.length_append]
      exact ⟨h2, by show ls.length ≤ 255; omega⟩

set_option maxRecDepth 100000 in
set_option maxHeartbeats 1000000 in
theorem refParent_any (s : ByteArray) (w : World) :
    Calls Try.prog 22 #[.string s] w fun e w' => e = .returned (.string (mk (Nm.parentN (bl s)))) ∧ Below w.heap.size w w' := by
  have hl := refLabels_any s w
  obtain ⟨hg, hle⟩ := refLab_good (bl s)
  cases hv : Nm.valid (bl s) with
  | false =>
    have hfin : Hid (mk (Nm.parentN (bl s)) = ⟨#[0]⟩) := Go.Lib.hid (by unfold Nm.parentN; rw [Nm.labs_not hv]; rfl)
    have h2 := Nm.refLab_not hv
    have HL := Go.Lib.hid hl
    clear hl hg hv
    generalize Nm.refLab (bl s) = p at *
    obtain ⟨ls, ok⟩ := p
    obtain rfl : ok = false := h2
    go_enter Try.func22, Try.ntmps22
    go_wp2_with fail
    refine HL.out.mono ?_
    rintro e w1 ⟨v, rfl, hst, hb⟩
    obtain ⟨a, cap, rfl, _, _⟩ := hst.slice
    clear hst
    go_wp2_with fail
    go_ret
    exact ⟨ret_str hfin.out.symm, hb⟩
  | true =>
    have hr := Nm.refLab_labs hv
    rw [hr] at hl hg hle
    have hfin : Hid (mk (Nm.parentN (bl s)) = mk (Nm.wire (Nm.labs (bl s)).tail)) := Go.Lib.hid rfl
    have HL := Go.Lib.hid hl
    have HG := Go.Lib.hid hg
    clear hl hg hr hv
    simp only at hle
    generalize Nm.labs (bl s) = ls at *
    cases ls with
    | nil =>
      go_enter Try.func22, Try.ntmps22
      go_wp2_with fail
      refine HL.out.mono ?_
      rintro e w1 ⟨v, rfl, hst, hb⟩
      obtain ⟨a, cap, rfl, _, _⟩ := hst.slice
      clear hst
      go_wp2_with fail
      go_ret
      exact ⟨ret_str hfin.out.symm, hb⟩
    | cons l ls =>
      go_enter Try.func22, Try.ntmps22
      go_wp2_with fail
      refine HL.out.mono ?_
      rintro e w1 ⟨v, rfl, hst, hb⟩
      obtain ⟨a, cap, rfl, hlc, _⟩ := hst.slice
      obtain ⟨b, off, rfl, hbw, _⟩ := Strs.at hst (by simp)
      rw [List.length_cons] at hlc
      have h0 : (((ls.length : Int) + 1) == 0) = false := by rw [beq_eq_false_iff_ne]; omega
      have h1 : (1 : Int) ≤ (ls.length : Int) + 1 := by omega
      have HST := Go.Lib.hid hst
      have HB := Go.Lib.hid hb
      clear hst hb
      have hsub : ∀ a' : Option Addr, (0 < ls.length → a' = some ⟨b, off + 1, none⟩) → (a' = none → cap - 1 = 0) → Strs w1 (.slice a' ls.length (cap - 1)) ls := fun a' h1 h2 => by
        have := Strs.sub HST.out rfl (i := 1) (j := ls.length + 1) (by omega) (Nat.le_refl _) (a' := a') (fun h => h1 (by omega)) h2
        simpa using this
      have HSUB := Go.Lib.hid hsub
      clear hsub
      have HGG := Go.Lib.hid (Nm.good_cons.1 HG.out).2
      go_wp2_with fail
      case inr =>
        refine (Made_any _ _ ls w1 (HSUB.out _ (fun _ => rfl) (fun h => by cases h)) HGG.out (by simp at hle; omega)).mono ?_
        rintro e w2 ⟨rfl, hb2⟩
        go_wp2_with fail
        go_ret
        exact ⟨ret_str hfin.out.symm, HB.out.trans (hb2.mono HB.out.size)⟩
      case inl =>
        have hc0 : cap - 1 = 0 := by omega
        have hh := HSUB.out (some ⟨b, off, none⟩) (fun h => absurd h (by omega)) (fun h => by cases h)
        rw [hc0] at hh
        refine (Made_any _ 0 ls w1 hh HGG.out (by simp at hle; omega)).mono ?_
        rintro e w2 ⟨rfl, hb2⟩
        go_wp2_with fail
        go_ret
        exact ⟨ret_str hfin.out.symm, HB.out.trans (hb2.mono HB.out.size)⟩

theorem refJoin_eq (ls : List (List UInt8)) (hg : Nm.GoodL ls) : (Nm.joinN ls) = if Nm.valid (Nm.wire ls) then some (Nm.wire ls) else none := by
  by_cases h : Nm.valid (Nm.wire ls) = true
  · rw [if_pos h]
    exact Nm.joinN_some.2 ⟨rfl, hg, (Nm.labs_valid h).2.2⟩
  · rw [if_neg h]
    cases hj : Nm.joinN ls with
    | none => rfl
    | some n =>
      obtain ⟨rfl, h2, h3⟩ := Nm.joinN_some.1 hj
      exact absurd (Nm.valid_wire h2 h3) h

/-- the reference's name that may be none -/
def refEnd (o : Option (List UInt8)) : Ending := .returned (.tuple #[.string (mk (o.getD [])), .bool o.isSome])
theorem refEnd_none {o : Option (List UInt8)} (h : o = none) : Ending.returned (.tuple #[.string ⟨#[]⟩, .bool false]) = refEnd o := by subst h; rfl
theorem refEnd_some {o : Option (List UInt8)} {n : List UInt8} (h : o = some n) : Ending.returned (.tuple #[.string (mk n), .bool true]) = refEnd o := by subst h; rfl

set_option maxRecDepth 100000 in
set_option maxHeartbeats 1000000 in
theorem refJoin_any (a : Option Addr) (cap : Nat) (ls : List (List UInt8)) (w : World) (hst : Strs w (.slice a ls.length cap) ls) (hn : ls.length ≤ 1099511627776) :
    Calls Try.prog 27 #[.slice a ls.length cap] w fun e w' => e = refEnd (Nm.joinN ls) ∧ Below w.heap.size w w' := by
  have HST := Go.Lib.hid hst
  clear hst
  have hmade := fun hg => Made_any a cap ls w HST.out hg hn
  have HMADE := Go.Lib.hid hmade
  clear hmade
  generalize hnn : ls.length = n at *
  have HN := Go.Lib.hid hnn
  clear hnn
  go_enter Try.func27, Try.ntmps27
  go_wp2_with fail
  go_loop [4] (fun i => ∃ k : Nat, i = .int .i64 k ∧ k ≤ n ∧ Nm.GoodL (ls.take k)) (fun i => n - (intOf i).toNat)
  case atStart => exact ⟨0, rfl, by omega, by rw [List.take_zero]; exact Nm.good_nil⟩
  case round =>
    obtain ⟨k, rfl, hk, hgood⟩ := hrel
    have HGOOD := Go.Lib.hid hgood
    clear hgood
    by_cases hlt : k < n
    · have hlk : k < ls.length := by rw [HN.out]; exact hlt
      have hst := HST.out
      rw [← HN.out] at hst
      obtain ⟨b, off, rfl, hbw, hcell⟩ := Strs.at hst (by omega)
      have hc2 := hcell k hlk
      have hbad : Hid ((ls.getD k []).length = 0 ∨ 63 < (ls.getD k []).length → Nm.joinN ls = none) := Go.Lib.hid (fun h => join_bad hlk h)
      have hstep : Hid (ls.take (k + 1) = ls.take k ++ [ls.getD k []]) := Go.Lib.hid (getD_take_succ ls [] hlk)
      have hsx := size_mk (ls.getD k [])
      clear hst hcell hlk hbw
      generalize ls.getD k [] = x at *
      by_cases hx0 : x.length = 0
      · have e1 : (x.length : Int) < 1 := by omega
        go_wp2_with fail
        go_ret2
        exact ⟨refEnd_none (hbad.out (.inl hx0)), Below.refl _ _⟩
      · have e1 : ¬ (x.length : Int) < 1 := by omega
        by_cases hx63 : 63 < x.length
        · have e2 : 63 < (x.length : Int) := by omega
          go_wp2_with fail
          go_ret2
          exact ⟨refEnd_none (hbad.out (.inr hx63)), Below.refl _ _⟩
        · have e2 : ¬ 63 < (x.length : Int) := by omega
          go_wp2_with fail
          go_round
          case rel => exact ⟨k + 1, by go_num, by omega, by rw [hstep.out]; exact Nm.good_append.2 ⟨HGOOD.out, Nm.good_cons.2 ⟨by omega, Nm.good_nil⟩⟩⟩
          case measure => simp [intOf]; omega
    · obtain rfl : k = n := by omega
      have hall : Hid (ls.take k = ls) := Go.Lib.hid (by rw [← HN.out, List.take_length])
      have hg : Nm.GoodL ls := by have := HGOOD.out; rw [hall.out] at this; exact this
      have hm := HMADE.out hg
      have hv := fun w => refValid_any (mk (Nm.wire ls)) w
      rw [bl_mk] at hv
      have hje := refJoin_eq ls hg
      have HM := Go.Lib.hid hm
      have HV := Go.Lib.hid hv
      have HJE := Go.Lib.hid hje
      clear hg hm hv hje
      generalize Nm.wire ls = m at *
      cases hvm : Nm.valid m with
      | false =>
        rw [hvm] at HV HJE
        clear hvm
        go_wp2_with fail
        refine HM.out.mono ?_
        rintro e w1 ⟨rfl, hb1⟩
        go_wp2_with fail
        refine (HV.out _).mono ?_
        rintro e w2 ⟨rfl, hb2⟩
        go_wp2_with fail
        go_ret2
        exact ⟨refEnd_none HJE.out, hb1.trans (hb2.mono hb1.size)⟩
      | true =>
        rw [hvm] at HV HJE
        clear hvm
        go_wp2_with fail
        refine HM.out.mono ?_
        rintro e w1 ⟨rfl, hb1⟩
        go_wp2_with fail
        refine (HV.out _).mono ?_
        rintro e w2 ⟨rfl, hb2⟩
        go_wp2_with fail
        go_ret2
        exact ⟨refEnd_some HJE.out, hb1.trans (hb2.mono hb1.size)⟩
end Go.Proofs.Ytfmhmhekildfbaa

