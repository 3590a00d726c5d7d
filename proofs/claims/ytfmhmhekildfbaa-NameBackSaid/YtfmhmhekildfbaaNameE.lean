/- The contracts of name.Join: what it returns of labels. -/
import Derived.Test.YtfmhmhekildfbaaNameD
namespace Go.Proofs.Ytfmhmhekildfbaa
open Go.RowKit

/-- what a name that may be none is returned as -/
def nameEnd (o : Option (List UInt8)) : Ending := .returned (.tuple #[.string (mk (o.getD [])), .int .i64 (if o.isSome then 0 else 2)])
theorem nameEnd_none {o : Option (List UInt8)} (h : o = none) : Ending.returned (.tuple #[.string ⟨#[]⟩, .int .i64 2]) = nameEnd o := by subst h; rfl
theorem nameEnd_some {o : Option (List UInt8)} {n : List UInt8} (h : o = some n) : Ending.returned (.tuple #[.string (mk n), .int .i64 0]) = nameEnd o := by subst h; rfl

theorem pre_snoc (ls : List (List UInt8)) (x : List UInt8) : Nm.pre (ls ++ [x]) = Nm.pre ls ++ [UInt8.ofNat x.length] ++ x := by
  rw [Nm.pre_append]; simp [Nm.pre]
theorem pre_le {ls : List (List UInt8)} (h : Nm.GoodL ls) : (Nm.pre ls).length ≤ 64 * ls.length := by
  induction ls with
  | nil => simp [Nm.pre]
  | cons l ls ih =>
    obtain ⟨⟨_, h2⟩, h3⟩ := Nm.good_cons.1 h
    have := ih h3
    simp [Nm.pre]
    omega
theorem join_bad {ls : List (List UInt8)} {k : Nat} (hk : k < ls.length) (h : (ls.getD k []).length = 0 ∨ 63 < (ls.getD k []).length) : Nm.joinN ls = none := by
  cases hj : Nm.joinN ls with
  | none => rfl
  | some n =>
    obtain ⟨_, h2, _⟩ := Nm.joinN_some.1 hj
    have hm : ls.getD k [] ∈ ls := by rw [List.getD_eq_getElem?_getD, List.getElem?_eq_getElem hk]; simp
    have := h2 _ hm
    omega

set_option maxRecDepth 100000 in
set_option maxHeartbeats 1000000 in
theorem Join_any (a : Option Addr) (cap : Nat) (ls : List (List UInt8)) (w : World) (hst : Strs w (.slice a ls.length cap) ls) (hn : ls.length ≤ 1099511627776) (hsz : ∀ l ∈ ls, l.length ≤ maxLen) :
    Calls Try.prog 26 #[.slice a ls.length cap] w fun e w' => e = nameEnd (Nm.joinN ls) ∧ Below w.heap.size w w' := by
  have HST := Go.Lib.hid hst
  have HSZ := Go.Lib.hid hsz
  clear hst hsz
  generalize hnn : ls.length = n at *
  have HN := Go.Lib.hid hnn
  clear hnn
  have h0 := isB_fresh w
  have HI := Go.Lib.hid h0
  clear h0
  go_enter Try.func26, Try.ntmps26
  go_wp2_with fail
  go_loopw [9] (fun i wr => ∃ k : Nat, i = .int .i64 k ∧ k ≤ n ∧ Nm.GoodL (ls.take k) ∧ IsB w.heap.size w.heap.size (Nm.pre (ls.take k)) wr ∧ Below w.heap.size w wr) (fun i _ => n - (intOf i).toNat)
  case atStart => exact ⟨0, rfl, by omega, by rw [List.take_zero]; exact Nm.good_nil, HI.out, (Below.refl _ _).alloc (Nat.le_refl _) _⟩
  case round =>
    obtain ⟨k, rfl, hk, hgood, hisb, hbr⟩ := hrel
    have hgw := hbr.size
    have HGOOD := Go.Lib.hid hgood
    have HISB := Go.Lib.hid hisb
    have HBR := Go.Lib.hid hbr
    have hpl := pre_le hgood
    rw [List.length_take, HN.out] at hpl
    clear hgood hisb hbr
    by_cases hlt : k < n
    · have hst := HST.out
      rw [← HN.out] at hst
      obtain ⟨b, off, rfl, hbw, hcell⟩ := Strs.at hst (by rw [HN.out]; omega)
      have hc := hcell k (by rw [HN.out]; exact hlt)
      have hc2 : wr.cell? ⟨b, off + k, none⟩ = some (.string (mk (ls.getD k []))) := by rw [HBR.out.cell (p := ⟨b, off + k, none⟩) hbw]; exact hc
      have hstep : Hid (ls.take (k + 1) = ls.take k ++ [ls.getD k []]) := Go.Lib.hid (by
        rw [List.take_succ_eq_append_getElem (by rw [HN.out]; exact hlt)]
        simp [HN.out, hlt])
      have hbad : Hid ((ls.getD k []).length = 0 ∨ 63 < (ls.getD k []).length → Nm.joinN ls = none) := Go.Lib.hid (fun h => join_bad (by rw [HN.out]; exact hlt) h)
      have hxm : (ls.getD k []).length ≤ maxLen := HSZ.out _ (by rw [List.getD_eq_getElem?_getD, List.getElem?_eq_getElem (by rw [HN.out]; exact hlt)]; simp)
      clear hst hcell hc
      generalize ls.getD k [] = x at *
      have hsx : Hid ((mk x).size = x.length) := Go.Lib.hid (size_mk x)
      by_cases hx0 : x.length = 0
      · have h1 : (((mk x).size : Int) == 0) = true := by rw [size_mk, hx0]; rfl
        go_wp2_with fail
        go_ret2
        exact ⟨nameEnd_none (hbad.out (.inl hx0)), HBR.out⟩
      · have h1 : (((mk x).size : Int) == 0) = false := by rw [size_mk, beq_eq_false_iff_ne]; omega
        by_cases hx63 : 63 < x.length
        · have h2 : (63 : Int) < ((mk x).size : Int) := by rw [size_mk]; omega
          go_wp2_with fail
          go_ret2
          exact ⟨nameEnd_none (hbad.out (.inr hx63)), HBR.out⟩
        · have h2 : ((mk x).size : Int) ≤ 63 := by rw [size_mk]; omega
          have hwb := writeByte_any w.heap.size w.heap.size (Nm.pre (ls.take k)) (UInt8.ofNat x.length) wr HISB.out (by omega) hgw
          have hcv : (UInt8.ofNat x.length).toNat = (mk x).size := by rw [size_mk]; exact Nm.ofNat_toNat (by omega)
          rw [hcv] at hwb
          have HWB := Go.Lib.hid hwb
          clear hwb hcv
          go_wp2_with fail
          refine HWB.out.mono ?_
          rintro e w1 ⟨rfl, hi1, hb1, _⟩
          have hws := writeString_any w.heap.size w.heap.size _ (mk x) w1 hi1 (by rw [List.length_append, size_mk]; simp; omega) (Nat.le_trans hgw hb1.size)
          rw [bl_mk] at hws
          have HWS := Go.Lib.hid hws
          have HB1 := Go.Lib.hid hb1
          clear hws hi1 hb1
          go_wp2_with fail
          refine HWS.out.mono ?_
          rintro e w2 ⟨rfl, hi2, hb2, _⟩
          have HI2 := Go.Lib.hid hi2
          have HB2 := Go.Lib.hid hb2
          clear hi2 hb2
          go_wp2_with fail
          go_roundw
          case rel => exact ⟨k + 1, by go_num, by omega, by rw [hstep.out]; exact Nm.good_append.2 ⟨HGOOD.out, Nm.good_cons.2 ⟨by omega, Nm.good_nil⟩⟩, by rw [hstep.out, pre_snoc]; exact HI2.out, (HBR.out.trans HB1.out).trans HB2.out⟩
          case measure => simp [intOf]; omega
    · have hke : k = n := by omega
      have hall : Hid (ls.take k = ls) := Go.Lib.hid (by rw [hke, ← HN.out, List.take_length])
      have hgood : Nm.GoodL ls := by have := HGOOD.out; rw [hall.out] at this; exact this
      have hisb := HISB.out
      rw [hall.out] at hisb hpl
      have hws := writeString_any w.heap.size w.heap.size _ ⟨#[0]⟩ wr hisb (by rw [show (⟨#[0]⟩ : ByteArray).size = 1 from rfl]; omega) hgw
      have hwi : Hid (Nm.pre ls ++ bl ⟨#[0]⟩ = Nm.wire ls) := Go.Lib.hid rfl
      rw [hwi.out] at hws
      have hlen : Hid ((Nm.wire ls).length = (Nm.pre ls).length + 1) := Go.Lib.hid (Nm.wire_len ls)
      have HWS := Go.Lib.hid hws
      have HG2 := Go.Lib.hid hgood
      clear hws hisb hgood
      go_wp2_with fail
      refine HWS.out.mono ?_
      rintro e w1 ⟨rfl, hi1, hb1, _⟩
      have hlenc := builderLen_any w.heap.size w.heap.size _ w1 hi1
      have hstr := builderString_any w.heap.size w.heap.size _ w1 hi1 (Nat.le_trans hgw hb1.size)
      have HLC := Go.Lib.hid hlenc
      have HSTR := Go.Lib.hid hstr
      have HB1 := Go.Lib.hid hb1
      clear hi1 hb1 hlenc hstr
      have hno : Hid (255 < (Nm.wire ls).length → Nm.joinN ls = none) := Go.Lib.hid (fun h => by
        cases hj : Nm.joinN ls with
        | none => rfl
        | some m =>
          obtain ⟨_, _, h3⟩ := Nm.joinN_some.1 hj
          omega)
      have hyes : Hid ((Nm.wire ls).length ≤ 255 → Nm.joinN ls = some (Nm.wire ls)) := Go.Lib.hid (fun h => Nm.joinN_some.2 ⟨rfl, HG2.out, h⟩)
      generalize Nm.wire ls = m at *
      generalize hml : m.length = mn at *
      have HML := Go.Lib.hid hml
      clear hml
      by_cases h255 : 255 < mn
      · go_wp2_with fail
        refine HLC.out.mono ?_
        rintro e w' ⟨rfl, rfl⟩
        go_wp2_with fail
        go_ret2
        exact ⟨nameEnd_none (hno.out h255), HBR.out.trans HB1.out⟩
      · go_wp2_with fail
        refine HLC.out.mono ?_
        rintro e w' ⟨rfl, rfl⟩
        go_wp2_with fail
        refine HSTR.out.mono ?_
        rintro e w2 ⟨rfl, hb2⟩
        go_wp2_with fail
        go_ret2
        exact ⟨nameEnd_some (hyes.out (by omega)), (HBR.out.trans HB1.out).trans hb2⟩
end Go.Proofs.Ytfmhmhekildfbaa

