/- Merged texts of the seat, in their order: RfA, RfB, RfC, RfD, RfE, RfG, RfH, RfI, RfJ, RfK, RfL. -/
import Derived.Test.YthfhmbooeemaaaaG4
import Derived.Test.YthfhmbooeemaaaaG5
import Derived.Test.YthfhmbooeemaaaaG7
import Derived.Test.YthfhmbooeemaaaaG8
import Derived.Test.YthfhmbooeemaaaaG9
import Derived.Deep.Cut
/- Message: the reference's two. -/
namespace Go.Proofs.Ythfhmbooeemaaaa
open Go.RowKit
set_option maxRecDepth 100000
set_option linter.unusedVariables false

def refTwo (zs : List UInt8) (k : Nat) : Int × Bool := if k + 2 ≤ zs.length then ((((zs.getD k 0).toNat * 256 + (zs.getD (k + 1) 0).toNat : Nat) : Int), true) else (0, false)
set_option maxHeartbeats 2000000 in
theorem refTwo_any (sa : Option Addr) (cap : Nat) (zs : List UInt8) (k : Nat) (w : World) (hz : Byts w (.slice sa zs.length cap) zs) (hk : k ≤ 1099511627776) (hl : zs.length ≤ 1099511627776) :
    Calls Try.prog 28 #[.slice sa zs.length cap, .int .i64 k] w fun e w' => e = .returned (.tuple #[.int .i64 (refTwo zs k).1, .bool (refTwo zs k).2]) ∧ Below w.heap.size w w' := by
  have mixed : Try.prog.follows .mixedOrders = true := by kernel_rfl
  have q0 : IntKind.i64.wrap ((zs.length : Int) - 2) = (zs.length : Int) - 2 := wrapi (by omega) (by omega)
  have p1 : (0 : Int) ≤ (k : Int) := by omega
  by_cases h : k + 2 ≤ zs.length
  · have hres : refTwo zs k = ((((zs.getD k 0).toNat * 256 + (zs.getD (k + 1) 0).toNat : Nat) : Int), true) := if_pos h
    rw [hres]
    obtain ⟨gb, off, rfl, hgw, hcell⟩ := Byts.at hz (by omega)
    have q3 : IntKind.i64.wrap ((k : Int) + 1) = (k : Int) + 1 := wrapi (by omega) (by omega)
    have p2 : (0 : Int) ≤ (k : Int) + 1 := by omega
    have p3 : (k : Int) < (zs.length : Int) := by omega
    have p4 : (k : Int) + 1 < (zs.length : Int) := by omega
    have p5 : ¬ ((zs.length : Int) - 2 < (k : Int)) := by omega
    have qn : ((k : Int) + 1).toNat = k + 1 := by omega
    have hor := or2 (zs.getD k 0) (zs.getD (k + 1) 0)
    have hlo := (zs.getD k 0).toNat_lt
    have hhi := (zs.getD (k + 1) 0).toNat_lt
    have Y0 := BelowC.cell (W := w) (hcell k (by omega)) hgw
    have Y1 := BelowC.cell (W := w) (hcell (k + 1) (by omega)) hgw
    have hne : Nonempty (Subtype (Below w.heap.size w)) := ⟨⟨w, Below.refl _ _⟩⟩
    generalize zs.getD k 0 = ya at *
    generalize zs.getD (k + 1) 0 = yb at *
    have q4 : IntKind.i64.wrap ((ya.toNat : Int) * 256) = (ya.toNat : Int) * 256 := wrapi (by omega) (by omega)
    have q5 : IntKind.i64.wrap (ya.toNat : Int) = (ya.toNat : Int) := wrapi (by omega) (by omega)
    have q6 : IntKind.i64.wrap (yb.toNat : Int) = (yb.toNat : Int) := wrapi (by omega) (by omega)
    generalize zs.length = N at *
    clear hz hcell hres
    go_enter Try.func28, Try.ntmps28
    go_wp2_with fail
    refine Go.Mix.wp_region_mixT (Es := []) 14 (Below w.heap.size w) mixed (by kernel_rfl) (Below.refl _ _).drew ?_
    iterate 14 (refine Go.Mix.mixT_step rfl (fun K hK => ?_); have HKK := Go.Lib.hid hK; clear hK; go_simp; refine HKK.out _ _ ?_; clear HKK K)
    refine Go.Mix.mixT_last rfl (fun K hK => ?_)
    have HKK := Go.Lib.hid hK
    clear hK
    go_simp
    refine HKK.out _ _ ?_
    clear HKK K hne Y0 Y1
    go_wp2_with fail
    go_ret2
    exact ⟨rfl, (Below.refl _ _).drew⟩
  · have hres : refTwo zs k = (0, false) := if_neg h
    rw [hres]
    have p5 : (zs.length : Int) - 2 < (k : Int) := by omega
    generalize zs.length = N at *
    clear hz hres
    go_enter Try.func28, Try.ntmps28
    go_wp2_with fail
    go_ret2
    exact ⟨rfl, Below.refl _ _⟩
end Go.Proofs.Ythfhmbooeemaaaa

/- Message: the reference's Get. -/
namespace Go.Proofs.Ythfhmbooeemaaaa
open Go.RowKit
set_option maxRecDepth 100000
set_option linter.unusedVariables false

def refGetEnd (w : World) (R : Option (List UInt8 × Int)) (e : Ending) (w' : World) : Prop := e = .returned (.tuple #[.string (mk (getR R).1), .int .i64 (getR R).2.1, .bool ((getR R).2.2 == 0)]) ∧ Below w.heap.size w w'
theorem cat_zero (a : List UInt8) : mk a ++ ⟨#[0]⟩ = mk (a ++ [0]) := cat_mkd a [0]
set_option maxHeartbeats 4000000 in
theorem refGet_any (gb off cap : Nat) (zs : List UInt8) (k0 : Nat) (w : World) (hz : Byts w (.slice (some ⟨gb, off, none⟩) zs.length cap) zs) (hk0 : k0 ≤ zs.length) (hl : zs.length ≤ 1099511627776) :
    Calls Try.prog 29 #[.slice (some ⟨gb, off, none⟩) zs.length cap, .int .i64 k0] w fun e w' => e = .returned (.tuple #[.string (mk (getN zs k0).1), .int .i64 (getN zs k0).2.1, .bool ((getN zs k0).2.2 == 0)]) ∧ Below w.heap.size w w' := by
  obtain ⟨R, hR⟩ : ∃ R, R = getF zs (k0 * (zs.length + 1) + (zs.length - k0) + 1) k0 k0 (-1) [] := ⟨_, rfl⟩
  have hRR : getN zs k0 = getR R := by rw [hR]; rfl
  rw [hRR]
  show Calls Try.prog _ _ _ (refGetEnd w R)
  have hcapN : zs.length ≤ cap := by
    obtain ⟨_, _, _, e, h2, _⟩ := hz
    cases e
    exact h2
  generalize hN : zs.length = N at *
  have HZ := Go.Lib.hid hz
  have HN := Go.Lib.hid hN
  have HR := Go.Lib.hid hR
  clear hz hN hR
  clear hRR
  go_enter Try.func29, Try.ntmps29
  go_wp2_with fail
  go_loopw [1, 7, 8, 9] (fun va vo ve vb wr => ∃ (f k bg : Nat) (e : Int) (out : List UInt8), va = .int .i64 k ∧ vb = .int .i64 bg ∧ ve = .int .i64 e ∧ vo = .string (mk out) ∧ R = getF zs f k bg e out ∧ bg * (N + 1) + (N - k) < f ∧ k ≤ N ∧ bg ≤ N ∧ -1 ≤ e ∧ e ≤ N ∧ out.length ≤ 400 ∧ Below w.heap.size w wr) (fun va _ _ vb _ => (intOf vb).toNat * (N + 1) + (N - (intOf va).toNat))
  case atStart => exact ⟨_, k0, k0, -1, [], rfl, rfl, rfl, rfl, HR.out, by omega, hk0, hk0, by omega, by omega, by simp, Below.refl _ _⟩
  case round =>
    obtain ⟨f, k, bg, e, out, rfl, rfl, rfl, rfl, hRf, hm, hk, hbg, he1, he2, hol, hb⟩ := hrel
    obtain ⟨f, rfl⟩ : ∃ f', f = f' + 1 := ⟨f - 1, by omega⟩
    have hge := hb.size
    have p0 : ¬ (k : Int) < 0 := by omega
    rw [getF, HN.out] at hRf
    by_cases hlt : k < N
    · rw [if_pos hlt] at hRf
      have hzr : Byts wr (.slice (some ⟨gb, off, none⟩) N cap) zs := HZ.out.below hb (Nat.le_refl _)
      obtain ⟨b, off2, hbo, hbw, hcell⟩ := Byts.at hzr (by rw [HN.out]; omega)
      simp only [Option.some.injEq, Addr.mk.injEq, and_true] at hbo
      obtain ⟨rfl, rfl⟩ := hbo
      have x0 := hcell k (by rw [HN.out]; exact hlt)
      have hc256 := (zs.getD k 0).toNat_lt
      have p1 : (0 : Int) ≤ (k : Int) := by omega
      have p2 : (k : Int) < (N : Int) := by omega
      have p2' : ¬ (N : Int) ≤ (k : Int) := by omega
      have q1 : IntKind.i64.wrap ((zs.getD k 0).toNat : Int) = ((zs.getD k 0).toNat : Int) := wrapi (by omega) (by omega)
      have q2 : IntKind.i64.wrap ((k : Int) + 1) = (k : Int) + 1 := wrapi (by omega) (by omega)
      have q3 : IntKind.i64.wrap ((k : Int) + 2) = (k : Int) + 2 := wrapi (by omega) (by omega)
      have so := size_mk out
      generalize hcc : zs.getD k 0 = c at *
      have HB := Go.Lib.hid hb
      have HRF := Go.Lib.hid hRf
      have HC := Go.Lib.hid hcell
      have HCC := Go.Lib.hid hcc
      have HZR := Go.Lib.hid hzr
      clear hb hRf hcell hcc hzr
      by_cases h0 : c.toNat = 0
      · have e1 : ((c.toNat : Int) == 0) = true := by rw [h0]; rfl
        have hstep := HRF.out
        rw [if_pos h0] at hstep
        have HST := Go.Lib.hid hstep
        have hcat := cat_zero out
        have so2 : (mk (out ++ [0])).size = out.length + 1 := by rw [size_mk, List.length_append]; rfl
        have so3 : ¬ 9223372036854775807 < out.length + 1 := by omega
        clear hstep HRF HC HCC hm hge
        by_cases he : e < 0
        · by_cases hlen : 255 < out.length + 1
          · have hR2 : Hid (R = none) := Go.Lib.hid (by rw [HST.out, if_pos hlen])
            have t1 : (255 : Int) < (out.length : Int) + 1 := by omega
            clear hlen
            go_wp2_with fail
            go_ret3
            exact ⟨by rw [hR2.out]; rfl, HB.out⟩
          · have hR2 : Hid (R = some (out ++ [0], (k : Int) + 1)) := Go.Lib.hid (by rw [HST.out, if_neg hlen, if_pos he])
            have t1 : ¬ (255 : Int) < (out.length : Int) + 1 := by omega
            clear hlen
            go_wp2_with fail
            go_ret3
            exact ⟨by rw [hR2.out]; rfl, HB.out⟩
        · by_cases hlen : 255 < out.length + 1
          · have hR2 : Hid (R = none) := Go.Lib.hid (by rw [HST.out, if_pos hlen])
            have t1 : (255 : Int) < (out.length : Int) + 1 := by omega
            clear hlen
            go_wp2_with fail
            go_ret3
            exact ⟨by rw [hR2.out]; rfl, HB.out⟩
          · have hR2 : Hid (R = some (out ++ [0], e)) := Go.Lib.hid (by rw [HST.out, if_neg hlen, if_neg he])
            have t1 : ¬ (255 : Int) < (out.length : Int) + 1 := by omega
            clear hlen
            go_wp2_with fail
            go_ret3
            exact ⟨by rw [hR2.out]; rfl, HB.out⟩
      · have e1 : ((c.toNat : Int) == 0) = false := by rw [beq_eq_false_iff_ne]; omega
        by_cases h63 : c.toNat ≤ 63
        · have t0 : ¬ (192 : Int) ≤ (c.toNat : Int) := by omega
          have t0' : ¬ (63 : Int) < (c.toNat : Int) := by omega
          have hstep := HRF.out
          rw [if_neg h0, if_pos h63] at hstep
          have HST := Go.Lib.hid hstep
          have q4 : IntKind.i64.wrap ((k : Int) + 1 + (c.toNat : Int)) = (k : Int) + 1 + c.toNat := wrapi (by omega) (by omega)
          have q5 : IntKind.i64.wrap ((N : Int) - (k : Int)) = (N : Int) - k := wrapi (by omega) (by omega)
          have q6 : IntKind.i64.wrap ((N : Int) - (k : Int) - 1) = (N : Int) - k - 1 := wrapi (by omega) (by omega)
          clear hstep HRF HC
          by_cases hA : N < k + 1 + c.toNat
          · have hR2 : Hid (R = none) := Go.Lib.hid (by rw [HST.out, if_pos (.inl hA)])
            have t1 : (N : Int) - k - 1 < (c.toNat : Int) := by omega
            clear hA hm hge
            go_wp2_with fail
            go_ret3
            exact ⟨by rw [hR2.out]; rfl, HB.out⟩
          · have t1 : ¬ (N : Int) - k - 1 < (c.toNat : Int) := by omega
            by_cases hlen : 255 < out.length
            · have hR2 : Hid (R = none) := Go.Lib.hid (by rw [HST.out, if_pos (.inr hlen)])
              have t2 : (255 : Int) < (out.length : Int) := by omega
              clear hA hm hge hlen
              go_wp2_with fail
              go_ret3
              exact ⟨by rw [hR2.out]; rfl, HB.out⟩
            · have t2 : ¬ (255 : Int) < (out.length : Int) := by omega
              have hR2 := HST.out
              rw [if_neg (by omega)] at hR2
              have HR2 := Go.Lib.hid hR2
              clear hR2
              clear HST
              have hl1 : ((zs.drop k).take (1 + c.toNat)).length = 1 + c.toNat := by rw [List.length_take, List.length_drop, HN.out]; omega
              have t3 : (k : Int) ≤ (k : Int) + 1 + (c.toNat : Int) := by omega
              have t4 : (k : Int) + 1 + (c.toNat : Int) ≤ (cap : Int) := by omega
              have t5 : (0 : Int) ≤ (k : Int) + 1 + (c.toNat : Int) := by omega
              have t6 : ((k : Int) + 1 + (c.toNat : Int)).toNat = k + 1 + c.toNat := by omega
              have t7 : ((k : Int) + 1 + (c.toNat : Int) - (k : Int)).toNat = 1 + c.toNat := by omega
              have t8 : ¬ cap = k := by omega
              have t9 : k + 1 + c.toNat - k = 1 + c.toNat := by omega
              have hsub : Byts wr (.slice (some ⟨gb, off + k, none⟩) (1 + c.toNat) (cap - k)) ((zs.drop k).take (1 + c.toNat)) := by
                have := Byts.sub HZR.out HN.out (i := k) (j := k + 1 + c.toNat) (by omega) (by omega) (a' := some ⟨gb, off + k, none⟩) (fun _ => rfl) (fun h => by cases h)
                rwa [show k + 1 + c.toNat - k = 1 + c.toNat by omega] at this
              have hconv : (convert 22 9 (.slice (some ⟨gb, off + k, none⟩) (1 + c.toNat) (cap - k))).run Try.prog wr = .ok (.string (mk ((zs.drop k).take (1 + c.toNat)))) wr := run_conv_string hsub
              have hcat := cat_mkd out ((zs.drop k).take (1 + c.toNat))
              have so4 : (mk ((zs.drop k).take (1 + c.toNat))).size = 1 + c.toNat := by rw [size_mk, hl1]
              have so5 : ¬ 9223372036854775807 < out.length + (1 + c.toNat) := by omega
              have hol2 : (out ++ (zs.drop k).take (1 + c.toNat)).length ≤ 400 := by rw [List.length_append, hl1]; omega
              have HOL2 := Go.Lib.hid hol2
              clear hol2
              clear hl1 hsub
              generalize (zs.drop k).take (1 + c.toNat) = ys at *
              go_wp2_with fail
              go_roundw
              case rel => exact ⟨f, k + 1 + c.toNat, bg, e, _, by go_num, rfl, rfl, rfl, HR2.out, by omega, by omega, hbg, he1, he2, HOL2.out, HB.out⟩
              case measure => simp [intOf]; omega
        · by_cases hA : c.toNat < 192
          · have hstep := HRF.out
            rw [if_neg h0, if_neg h63, if_pos (.inl hA)] at hstep
            have hR2 : Hid (R = none) := Go.Lib.hid hstep
            have t0 : ¬ (192 : Int) ≤ (c.toNat : Int) := by omega
            have t0' : (63 : Int) < (c.toNat : Int) := by omega
            clear hA hm hge hstep h63
            go_wp2_with fail
            go_ret3
            exact ⟨by rw [hR2.out]; rfl, HB.out⟩
          · have t0 : (192 : Int) ≤ (c.toNat : Int) := by omega
            have hstep := HRF.out
            rw [if_neg h0, if_neg h63] at hstep
            have HST := Go.Lib.hid hstep
            clear hstep HRF
            by_cases hlen : N ≤ k + 1
            · have hR2 : Hid (R = none) := Go.Lib.hid (by rw [HST.out, if_pos (.inr hlen)])
              have t2 : (N : Int) ≤ (k : Int) + 1 := by omega
              clear hA hm hge hlen
              go_wp2_with fail
              go_ret3
              exact ⟨by rw [hR2.out]; rfl, HB.out⟩
            · have t2 : ¬ (N : Int) ≤ (k : Int) + 1 := by omega
              have hR2 := HST.out
              rw [if_neg (by omega)] at hR2
              have x1 := HC.out (k + 1) (by rw [HN.out]; omega)
              have hd256 := (zs.getD (k + 1) 0).toNat_lt
              generalize zs.getD (k + 1) 0 = d at *
              generalize hT : (c.toNat - 192) * 256 + d.toNat = T at *
              have hT' : ((c.toNat : Int) - 192) * 256 + (d.toNat : Int) = (T : Int) := by omega
              have q4 : IntKind.i64.wrap ((c.toNat : Int) - 192) = (c.toNat : Int) - 192 := wrapi (by omega) (by omega)
              have q5 : IntKind.i64.wrap (((c.toNat : Int) - 192) * 256) = ((c.toNat : Int) - 192) * 256 := wrapi (by omega) (by omega)
              have q6 : IntKind.i64.wrap (d.toNat : Int) = (d.toNat : Int) := wrapi (by omega) (by omega)
              have q7 : IntKind.i64.wrap (T : Int) = (T : Int) := wrapi (by omega) (by omega)
              have p3 : (0 : Int) ≤ (k : Int) + 1 := by omega
              have p4 : (k : Int) + 1 < (N : Int) := by omega
              have p5 : ((k : Int) + 1).toNat = k + 1 := by omega
              have HR2 := Go.Lib.hid hR2
              have HT := Go.Lib.hid hT
              clear hR2 hT
              clear HST
              by_cases hbt : bg ≤ T
              · have hR3 : Hid (R = none) := Go.Lib.hid (by rw [HR2.out, if_pos hbt])
                have t3 : (bg : Int) ≤ (T : Int) := by omega
                clear hA hlen hm hge hbt
                by_cases he : e < 0
                · go_wp2_with fail
                  go_ret3
                  exact ⟨by rw [hR3.out]; rfl, HB.out⟩
                · go_wp2_with fail
                  go_ret3
                  exact ⟨by rw [hR3.out]; rfl, HB.out⟩
              · have t3 : ¬ (bg : Int) ≤ (T : Int) := by omega
                have hR3 := HR2.out
                rw [if_neg hbt] at hR3
                have hmul : T * (N + 1) + (N + 1) ≤ bg * (N + 1) := by
                  have := Nat.mul_le_mul_right (N + 1) (show T + 1 ≤ bg by omega)
                  rw [Nat.add_mul, Nat.one_mul] at this
                  exact this
                by_cases he : e < 0
                · rw [if_pos he] at hR3
                  have HR3 := Go.Lib.hid hR3
                  have HMUL := Go.Lib.hid hmul
                  clear hR3 hmul
                  clear hA hlen hbt
                  go_wp2_with fail
                  go_roundw
                  case rel => exact ⟨f, T, T, (k : Int) + 2, out, rfl, rfl, rfl, rfl, HR3.out, by have := HMUL.out; omega, by omega, by omega, by omega, by omega, hol, HB.out⟩
                  case measure => have := HMUL.out; simp [intOf]; omega
                · rw [if_neg he] at hR3
                  have HR3 := Go.Lib.hid hR3
                  have HMUL := Go.Lib.hid hmul
                  clear hR3 hmul
                  clear hA hlen hbt
                  go_wp2_with fail
                  go_roundw
                  case rel => exact ⟨f, T, T, e, out, rfl, rfl, rfl, rfl, HR3.out, by have := HMUL.out; omega, by omega, by omega, by omega, by omega, hol, HB.out⟩
                  case measure => have := HMUL.out; simp [intOf]; omega
    · rw [if_neg hlt] at hRf
      have t1 : (N : Int) ≤ (k : Int) := by omega
      have HB := Go.Lib.hid hb
      have HRF := Go.Lib.hid hRf
      clear hb hRf
      clear hm hge
      go_wp2_with fail
      go_ret3
      exact ⟨by rw [HRF.out]; rfl, HB.out⟩
end Go.Proofs.Ythfhmbooeemaaaa

/- Message: the reference's data of a record. -/
namespace Go.Proofs.Ythfhmbooeemaaaa
open Go.RowKit
set_option maxRecDepth 100000
set_option linter.unusedVariables false

/-- so many names, none of which ends behind a place -/
def refNames (zs : List UInt8) (top : Nat) : Nat → List UInt8 → Nat → Option (List UInt8 × Nat)
  | 0, s, k => some (s, k)
  | i + 1, s, k => if (getN zs k).2.2 ≠ 0 ∨ (top : Int) < (getN zs k).2.1 then none else refNames zs top i (s ++ (getN zs k).1) (getN zs k).2.1.toNat
def refDataN (zs : List UInt8) (k n : Nat) (t : Int) : Option (List UInt8) := match Rc.shape t with
  | none => some ((zs.drop k).take n)
  | some (a, m, b) => if n < a then none else match refNames zs (k + n) m ((zs.drop k).take a) (k + a) with
    | none => none
    | some (s, e) => if e + b = k + n then some (s ++ (zs.drop e).take (k + n - e)) else none
def shp (t : Int) : Nat × Nat × Nat := (Rc.shape t).getD (0, 0, 0)
theorem refNames_le (zs : List UInt8) (top : Nat) : ∀ (i : Nat) (s : List UInt8) (k : Nat) (x : List UInt8 × Nat), k ≤ top → refNames zs top i s k = some x → x.2 ≤ top ∧ x.1.length ≤ s.length + 255 * i
  | 0, s, k, x, h, e => by
    simp only [refNames, Option.some.injEq] at e
    subst e
    exact ⟨h, by simp⟩
  | i + 1, s, k, x, h, e => by
    rw [refNames] at e
    split at e
    · cases e
    · rename_i hc
      have hn : (getN zs k).1.length ≤ 255 := by
        have := rdName_len zs k false
        unfold rdName at this
        simp only [Bool.false_eq_true, if_false] at this
        by_cases h0 : (getN zs k).2.2 = 0
        · rw [if_pos h0] at this; exact this
        · exact absurd (.inl h0) hc
      obtain ⟨h1, h2⟩ := refNames_le zs top i _ _ x (by omega) e
      rw [List.length_append] at h2
      exact ⟨h1, by omega⟩
def optS (x : Option (List UInt8)) : Value := match x with
  | none => .tuple #[.string (mk []), .bool false]
  | some s => .tuple #[.string (mk s), .bool true]
set_option maxHeartbeats 4000000 in
theorem refMData_any (gb off cap : Nat) (zs : List UInt8) (k n : Nat) (t : Int) (w : World) (hz : Byts w (.slice (some ⟨gb, off, none⟩) zs.length cap) zs) (hk : k + n ≤ zs.length) (hl : zs.length ≤ 1099511627776) :
    Calls Try.prog 31 #[.slice (some ⟨gb, off, none⟩) zs.length cap, .int .i64 k, .int .i64 n, .int .i64 t] w fun e w' => e = .returned (optS (refDataN zs k n t)) ∧ Below w.heap.size w w' := by
  have hcapN : zs.length ≤ cap := by
    obtain ⟨_, _, _, e, h2, _⟩ := hz
    cases e
    exact h2
  have hsub : ∀ W i m' a', Byts W (.slice (some ⟨gb, off, none⟩) zs.length cap) zs → i + m' ≤ zs.length → (0 < m' → a' = some ⟨gb, off + i, none⟩) → (a' = none → cap - i = 0) → Byts W (.slice a' m' (cap - i)) ((zs.drop i).take m') := fun W i m' a' h h0 h1 h2 => by
    have := Byts.sub h rfl (i := i) (j := i + m') (by omega) (by omega) (a' := a') (fun h => h1 (by omega)) h2
    rwa [Nat.add_sub_cancel_left] at this
  have hconv : ∀ W i m', Byts W (.slice (some ⟨gb, off, none⟩) zs.length cap) zs → i + m' ≤ zs.length → (convert 22 9 (.slice (if cap = i then some ⟨gb, off, none⟩ else some ⟨gb, off + i, none⟩) m' (cap - i))).run Try.prog W = .ok (.string (mk ((zs.drop i).take m'))) W := fun W i m' h h0 =>
    run_conv_string (hsub W i m' _ h h0 (fun h => if_neg (by omega)) (fun h => by split at h <;> cases h))
  have hlen : ∀ i m', i + m' ≤ zs.length → ((zs.drop i).take m').length = m' := fun i m' h => by rw [List.length_take, List.length_drop]; omega
  obtain ⟨a, m, b, hs⟩ : ∃ a m b, shp t = (a, m, b) := ⟨_, _, _, rfl⟩
  have habm : a ≤ 6 ∧ m ≤ 2 ∧ b ≤ 20 := by
    unfold shp at hs
    cases h : Rc.shape t with
    | none => rw [h] at hs; simp at hs; omega
    | some x => obtain ⟨x1, x2, x3⟩ := x; rw [h] at hs; simp at hs; have := shape_le h; omega
  obtain ⟨ha6, hm2, hb20⟩ := habm
  obtain ⟨F, hF⟩ : ∃ F, F = refDataN zs k n t := ⟨_, rfl⟩
  rw [← hF]
  have HZ := Go.Lib.hid hz
  have HSUB := Go.Lib.hid hsub
  have HCONV := Go.Lib.hid hconv
  have HF := Go.Lib.hid hF
  have HS := Go.Lib.hid hs
  have HLEN := Go.Lib.hid hlen
  clear hz hsub hconv hF hs hlen
  go_enter Try.func31, Try.ntmps31
  go_upto_region 2 with fail
  iterate 7 (first | go_values | go_step | go_back)
  go_cut [10, 11, 12] from 19 (fun v10 v11 v12 wx => v10 = .int .i64 (a : Int) ∧ v11 = .int .i64 (m : Int) ∧ v12 = .int .i64 (b : Int) ∧ wx = w)
  case first =>
    by_cases h : t = 2 ∨ t = 5 ∨ t = 12 ∨ t = 15 ∨ t = 33 ∨ t = 6
    · rcases h with rfl | rfl | rfl | rfl | rfl | rfl
      all_goals
        have hs2 := HS.out
        simp only [shp, Rc.shape] at hs2
        simp at hs2
        obtain ⟨rfl, rfl, rfl⟩ := hs2
        go_wp2_with fail
        go_meet
        case rel => exact ⟨rfl, rfl, rfl, rfl⟩
    · have e1 : (t == 2) = false := by rw [beq_eq_false_iff_ne]; omega
      have e2 : (t == 5) = false := by rw [beq_eq_false_iff_ne]; omega
      have e3 : (t == 12) = false := by rw [beq_eq_false_iff_ne]; omega
      have e4 : (t == 15) = false := by rw [beq_eq_false_iff_ne]; omega
      have e5 : (t == 33) = false := by rw [beq_eq_false_iff_ne]; omega
      have e6 : (t == 6) = false := by rw [beq_eq_false_iff_ne]; omega
      have hs2 := HS.out
      unfold shp Rc.shape at hs2
      rw [if_neg (by omega), if_neg (by omega), if_neg (by omega), if_neg (by omega)] at hs2
      simp at hs2
      obtain ⟨rfl, rfl, rfl⟩ := hs2
      clear h
      go_wp2_with fail
      go_meet
      case rel => exact ⟨rfl, rfl, rfl, rfl⟩
  case rest =>
  obtain ⟨rfl, rfl, rfl, hwc⟩ := hcut
  have hwc2 := hwc.symm
  clear hwc
  subst hwc2
  have hzr := HZ.out
  have q1 : IntKind.i64.wrap ((k : Int) + (n : Int)) = (k : Int) + n := wrapi (by omega) (by omega)
  have p1 : (0 : Int) ≤ (k : Int) := by omega
  have p5 : (0 : Int) ≤ (k : Int) + (n : Int) := by omega
  cases hsh : Rc.shape t with
  | none =>
    have hF2 : F = some ((zs.drop k).take n) := by rw [HF.out]; unfold refDataN; rw [hsh]
    have hs2 := HS.out
    unfold shp at hs2
    rw [hsh] at hs2
    simp at hs2
    obtain ⟨rfl, rfl, rfl⟩ := hs2
    have hcv := HCONV.out w k n hzr (by omega)
    have p2 : (k : Int) ≤ (k : Int) + (n : Int) := by omega
    have p3 : (k : Int) + (n : Int) ≤ (cap : Int) := by omega
    have p4 : ((k : Int) + (n : Int)).toNat = k + n := by omega
    have HF2 := Go.Lib.hid hF2
    clear hF2
    clear hsh hzr HCONV HSUB
    generalize zs.length = N at *
    go_wp2_with fail
    all_goals
      go_ret2
      exact ⟨by rw [HF2.out]; rfl, Below.refl _ _⟩
  | some x =>
    obtain ⟨a', m', b'⟩ := x
    have hs2 := HS.out
    unfold shp at hs2
    rw [hsh] at hs2
    simp at hs2
    obtain ⟨rfl, rfl, rfl⟩ := hs2
    have hm1 : 1 ≤ m' := by
      unfold Rc.shape at hsh
      repeat' split at hsh
      all_goals first | (cases hsh; done) | (simp only [Option.some.injEq, Prod.mk.injEq] at hsh; omega)
    have hF2 : F = if n < a' then none else match refNames zs (k + n) m' ((zs.drop k).take a') (k + a') with | none => none | some (s, e) => if e + b' = k + n then some (s ++ (zs.drop e).take (k + n - e)) else none := by rw [HF.out]; unfold refDataN; rw [hsh]
    have em : ((m' : Int) == 0) = false := by rw [beq_eq_false_iff_ne]; omega
    have HSH := Go.Lib.hid hsh
    clear hsh HF HS
    by_cases hna : n < a'
    · rw [if_pos hna] at hF2
      have t1 : (n : Int) < (a' : Int) := by omega
      have HF2 := Go.Lib.hid hF2
      clear hF2
      clear hna HSH
      go_wp2_with fail
      go_ret2
      exact ⟨by rw [HF2.out]; rfl, Below.refl _ _⟩
    · rw [if_neg hna] at hF2
      have t1 : ¬ (n : Int) < (a' : Int) := by omega
      have hcv := HCONV.out w k a' hzr (by omega)
      have q2 : IntKind.i64.wrap ((k : Int) + (a' : Int)) = (k : Int) + a' := wrapi (by omega) (by omega)
      have p2 : (k : Int) ≤ (k : Int) + (a' : Int) := by omega
      have p3 : (k : Int) + (a' : Int) ≤ (cap : Int) := by omega
      have p4 : ((k : Int) + (a' : Int)).toNat = k + a' := by omega
      have p6 : (0 : Int) ≤ (k : Int) + (a' : Int) := by omega
      have hln := HLEN.out k a' (by omega)
      have HF2 := Go.Lib.hid hF2
      clear hF2
      clear HSH
      go_upto_region 17 with fail
      go_cut [13] from 42 (fun v13 wx => v13 = .string (mk ((zs.drop k).take a')) ∧ wx = w)
      case first =>
        by_cases hck : cap = k
        · subst hck
          simp only [if_true, Nat.sub_self] at hcv
          go_wp2_with fail
          go_meet
          case rel => exact ⟨rfl, rfl⟩
        · rw [if_neg hck] at hcv
          go_wp2_with fail
          go_meet
          case rel => exact ⟨rfl, rfl⟩
      case rest =>
      obtain ⟨rfl, hwc⟩ := hcut
      have hwc2 := hwc.symm
      clear hwc
      subst hwc2
      go_wp2_with fail
      go_loopw [13, 14, 15] (fun v13 v14 i wr => ∃ (j : Nat) (s : List UInt8) (e : Nat), i = .int .i64 j ∧ v13 = .string (mk s) ∧ v14 = .int .i64 e ∧ j ≤ m' ∧ e ≤ k + n ∧ s.length ≤ zs.length + 255 * j ∧ refNames zs (k + n) m' ((zs.drop k).take a') (k + a') = refNames zs (k + n) (m' - j) s e ∧ Below w.heap.size w wr) (fun _ _ i _ => m' - (intOf i).toNat)
      case atStart => exact ⟨0, (zs.drop k).take a', k + a', rfl, rfl, by go_num, Nat.zero_le _, by omega, by rw [hln]; omega, rfl, Below.refl _ _⟩
      case round =>
        clear hcv p2 p3 p4 p6 q2 hln hzr
        obtain ⟨j, s, e, rfl, rfl, rfl, hj, he, hsl, hrest, hb⟩ := hrel
        have hzr : Byts wr (.slice (some ⟨gb, off, none⟩) zs.length cap) zs := HZ.out.below hb (Nat.le_refl _)
        have so := size_mk s
        by_cases hlt : j < m'
        · have t2 : (j : Int) < (m' : Int) := by omega
          have q3 : IntKind.i64.wrap ((j : Int) + 1) = (j : Int) + 1 := wrapi (by omega) (by omega)
          have hget := refGet_any gb off cap zs e wr hzr (by omega) hl
          have hend := getN_end (zs := zs) (k := e)
          have herr := getN_err zs e
          have hnl := rdName_len zs e false
          unfold rdName at hnl
          simp only [Bool.false_eq_true, if_false] at hnl
          rw [show m' - j = (m' - (j + 1)) + 1 by omega, refNames] at hrest
          generalize getN zs e = g at *
          obtain ⟨gn, ge, gf⟩ := g
          simp only at hend herr hnl hrest hget
          rcases herr with rfl | rfl
          · obtain ⟨h0, h1⟩ := hend rfl
            obtain ⟨q, rfl⟩ : ∃ q : Nat, ge = (q : Int) := ⟨ge.toNat, by omega⟩
            simp only [if_true] at hnl
            have hg0 : ((0 : Int) == 0) = true := rfl
            rw [hg0] at hget
            by_cases hq : (k : Int) + (n : Int) < (q : Int)
            · rw [if_pos (.inr (by omega))] at hrest
              have hF3 : F = none := by rw [HF2.out, hrest]
              have HGET := Go.Lib.hid hget
              have HF3 := Go.Lib.hid hF3
              have HB := Go.Lib.hid hb
              clear hget hF3 hb
              clear hrest hzr hend
              go_wp2_with fail
              refine HGET.out.mono ?_; rintro ee w1 ⟨rfl, hx⟩
              have HX := Go.Lib.hid hx
              clear hx
              go_wp2_with fail
              go_ret2
              exact ⟨by rw [HF3.out]; rfl, HB.out.trans (HX.out.mono HB.out.size)⟩
            · rw [if_neg (by rintro (h | h); exact h rfl; exact hq (by omega))] at hrest
              have hcat := cat_mkd s gn
              have so2 := size_mk gn
              have so3 : ¬ 9223372036854775807 < s.length + gn.length := by omega
              have hsl2 : (s ++ gn).length ≤ zs.length + 255 * (j + 1) := by rw [List.length_append]; omega
              have HGET := Go.Lib.hid hget
              have HREST := Go.Lib.hid hrest
              have HB := Go.Lib.hid hb
              have HSL2 := Go.Lib.hid hsl2
              clear hget hrest hb hsl2
              clear hzr hend
              go_wp2_with fail
              refine HGET.out.mono ?_; rintro ee w1 ⟨rfl, hx⟩
              have hb2 := HB.out.trans (hx.mono HB.out.size)
              have HB2 := Go.Lib.hid hb2
              clear hb2
              clear hx
              go_wp2_with fail
              go_roundw
              case rel => exact ⟨j + 1, s ++ gn, q, by go_num, rfl, rfl, by omega, by omega, HSL2.out, by rw [HREST.out]; simp, HB2.out⟩
              case measure => simp [intOf]; omega
          · rw [if_pos (.inl (by simp))] at hrest
            have hF3 : F = none := by rw [HF2.out, hrest]
            have hg0 : ((2 : Int) == 0) = false := rfl
            rw [hg0] at hget
            have HGET := Go.Lib.hid hget
            have HF3 := Go.Lib.hid hF3
            have HB := Go.Lib.hid hb
            clear hget hF3 hb
            clear hrest hzr hend
            go_wp2_with fail
            refine HGET.out.mono ?_; rintro ee w1 ⟨rfl, hx⟩
            have HX := Go.Lib.hid hx
            clear hx
            go_wp2_with fail
            go_ret2
            exact ⟨by rw [HF3.out]; rfl, HB.out.trans (HX.out.mono HB.out.size)⟩
        · have t2 : ¬ (j : Int) < (m' : Int) := by omega
          obtain rfl : j = m' := by omega
          rw [Nat.sub_self, refNames] at hrest
          have hF3 := HF2.out
          rw [hrest] at hF3
          simp only at hF3
          have q4 : IntKind.i64.wrap ((e : Int) + (b' : Int)) = (e : Int) + b' := wrapi (by omega) (by omega)
          by_cases hfin : e + b' = k + n
          · rw [if_pos hfin] at hF3
            have t3 : ((e : Int) + (b' : Int) != (k : Int) + (n : Int)) = false := by simp; omega
            have hcv := HCONV.out wr e (k + n - e) hzr (by omega)
            have p2 : (e : Int) ≤ (k : Int) + (n : Int) := by omega
            have p3 : (k : Int) + (n : Int) ≤ (cap : Int) := by omega
            have p4 : ((k : Int) + (n : Int)).toNat = k + n := by omega
            have p6 : (0 : Int) ≤ (e : Int) := by omega
            have hcat := cat_mkd s ((zs.drop e).take (k + n - e))
            have so2 : (mk ((zs.drop e).take (k + n - e))).size = k + n - e := by rw [size_mk]; exact HLEN.out e (k + n - e) (by omega)
            have so3 : ¬ 9223372036854775807 < s.length + (k + n - e) := by omega
            have HF3 := Go.Lib.hid hF3
            have HB := Go.Lib.hid hb
            clear hF3 hb
            clear hrest hzr hfin
            go_wp2_with fail
            all_goals
              go_ret2
              exact ⟨by rw [HF3.out]; rfl, HB.out⟩
          · rw [if_neg hfin] at hF3
            have t3 : ((e : Int) + (b' : Int) != (k : Int) + (n : Int)) = true := by simp; omega
            have HF3 := Go.Lib.hid hF3
            have HB := Go.Lib.hid hb
            clear hF3 hb
            clear hrest hzr hfin
            go_wp2_with fail
            go_ret2
            exact ⟨by rw [HF3.out]; rfl, HB.out⟩
end Go.Proofs.Ythfhmbooeemaaaa

/- Message: the reference's reading and the program's: a name's end lies behind its start; a record's data; a question; a record. Lists alone. -/
namespace Go.Proofs.Ythfhmbooeemaaaa
open Go.RowKit
set_option maxRecDepth 100000
set_option linter.unusedVariables false

theorem getF_gt (zs : List UInt8) : ∀ (f k bg : Nat) (e : Int) (out n : List UInt8) (e2 : Int), getF zs f k bg e out = some (n, e2) → (e < 0 → (k : Int) < e2) ∧ (0 ≤ e → e2 = e)
  | 0, _, _, _, _, _, _, h => by simp [getF] at h
  | f + 1, k, bg, e, out, n, e2, h => by
    rw [getF] at h
    split at h
    · split at h
      · split at h
        · cases h
        · simp only [Option.some.injEq, Prod.mk.injEq] at h
          obtain ⟨_, rfl⟩ := h
          constructor
          · intro h0; rw [if_pos h0]; omega
          · intro h0; rw [if_neg (by omega)]
      · split at h
        · split at h
          · cases h
          · obtain ⟨h1, h2⟩ := getF_gt zs f _ _ _ _ _ _ h
            exact ⟨fun h0 => by have := h1 h0; omega, h2⟩
        · split at h
          · cases h
          · split at h
            · cases h
            · obtain ⟨h1, h2⟩ := getF_gt zs f _ _ _ _ _ _ h
              constructor
              · intro h0
                rw [if_pos h0] at h2
                have := h2 (by omega)
                omega
              · intro h0
                rw [if_neg (by omega)] at h2
                exact h2 h0
    · cases h
theorem getN_gt {zs : List UInt8} {k : Nat} (h : (getN zs k).2.2 = 0) : (k : Int) < (getN zs k).2.1 := by
  unfold getN at *
  cases hg : getF zs (k * (zs.length + 1) + (zs.length - k) + 1) k k (-1) [] with
  | none => rw [hg] at h; simp [getR] at h
  | some p =>
    obtain ⟨n, e⟩ := p
    exact (getF_gt zs _ _ _ _ _ _ _ hg).1 (by omega)
theorem rdName_get {zs : List UInt8} {k : Nat} : rdName zs k false = if (getN zs k).2.2 = 0 then ((getN zs k).1, (getN zs k).2.1.toNat, false) else ([], k, true) := by
  unfold rdName
  simp only [Bool.false_eq_true, if_false]
theorem rdNames_ge (zs : List UInt8) : ∀ (i : Nat) (out : List UInt8) (k : Nat) (bad : Bool), (rdNames zs i out k bad).2.2 = false → bad = false ∧ k ≤ (rdNames zs i out k bad).2.1
  | 0, _, _, _, h => ⟨h, Nat.le_refl _⟩
  | i + 1, out, k, bad, h => by
    rw [rdNames] at h ⊢
    obtain ⟨h1, h2⟩ := rdNames_ge zs i _ _ _ h
    obtain ⟨_, rfl⟩ := rdName_ok h1
    refine ⟨rfl, ?_⟩
    rw [rdName_get] at h1 h2 ⊢
    by_cases h0 : (getN zs k).2.2 = 0
    · have := getN_gt h0
      rw [if_pos h0] at h2 ⊢
      simp only at h2 ⊢
      omega
    · rw [if_neg h0] at h1
      cases h1
theorem rdNames_bad (zs : List UInt8) (i : Nat) (out : List UInt8) (k : Nat) : (rdNames zs i out k true).2.2 = true := by
  cases h : (rdNames zs i out k true).2.2 with
  | true => rfl
  | false => exact absurd (rdNames_ge zs i out k true h).1 (by decide)
theorem names_ref (zs : List UInt8) (top : Nat) : ∀ (i : Nat) (s : List UInt8) (k : Nat),
    (∀ x, refNames zs top i s k = some x → rdNames zs i s k false = (x.1, x.2, false)) ∧ (refNames zs top i s k = none → (rdNames zs i s k false).2.2 = true ∨ top < (rdNames zs i s k false).2.1)
  | 0, s, k => ⟨fun x h => by simp only [refNames, Option.some.injEq] at h; subst h; rfl, fun h => by simp [refNames] at h⟩
  | i + 1, s, k => by
    rw [refNames, rdNames, rdName_get]
    by_cases h0 : (getN zs k).2.2 = 0
    · rw [if_pos h0]
      simp only
      by_cases ht : (top : Int) < (getN zs k).2.1
      · rw [if_pos (.inr ht)]
        refine ⟨fun x h => (by cases h), fun _ => ?_⟩
        cases hb : (rdNames zs i (s ++ (getN zs k).1) (getN zs k).2.1.toNat false).2.2 with
        | true => exact .inl rfl
        | false => exact .inr (by have := (rdNames_ge zs i _ _ _ hb).2; omega)
      · rw [if_neg (by intro h; rcases h with h | h; exact h h0; exact ht h)]
        exact names_ref zs top i _ _
    · rw [if_neg h0, if_pos (.inl h0)]
      exact ⟨fun x h => (by cases h), fun _ => .inl (rdNames_bad zs i _ _)⟩
theorem rdBytes_in {zs : List UInt8} {k n : Nat} (h : k + n ≤ zs.length) : rdBytes zs k false n = ((zs.drop k).take n, k + n, false) := by
  unfold rdBytes
  rw [lack_in h]
  simp
theorem rdBytes_out {zs : List UInt8} {k n : Nat} {bad : Bool} (h : bad = true ∨ zs.length < k + n) : rdBytes zs k bad n = ([], k, true) := by
  unfold rdBytes
  have : lackB zs.length k bad n = true := by
    unfold lackB
    rcases h with h | h
    · rw [h]; rfl
    · simp; omega
  rw [this]
  rfl
theorem parts_fin {zs : List UInt8} {N : List UInt8 × Nat × Bool} {b : Nat} (h : (rdBytes zs N.2.1 N.2.2 b).2.2 = false) : N.2.2 = false ∧ (rdBytes zs N.2.1 N.2.2 b).2.1 = N.2.1 + b ∧ N.2.1 + b ≤ zs.length := by
  cases hb : N.2.2 with
  | true => rw [hb, rdBytes_out (.inl rfl)] at h; cases h
  | false =>
    rw [hb] at h
    by_cases h1 : N.2.1 + b ≤ zs.length
    · rw [rdBytes_in h1]; exact ⟨rfl, rfl, h1⟩
    · rw [rdBytes_out (.inr (by omega))] at h; cases h
/-- a record's data: the same, or none -/
theorem data_ref {zs : List UInt8} {t : Int} {n k : Nat} (hk : k + n ≤ zs.length) : (∀ d, refDataN zs k n t = some d → rdData zs t n k false = (d, k + n, false)) ∧ (refDataN zs k n t = none → (rdData zs t n k false).2.2 = true) := by
  unfold rdData
  rw [lack_in hk]
  simp only [Bool.false_eq_true, if_false]
  unfold rdDataIn refDataN
  cases hs : Rc.shape t with
  | none =>
    simp only
    rw [rdBytes_in hk]
    refine ⟨fun d h => ?_, fun h => by cases h⟩
    simp only [Option.some.injEq] at h
    subst h
    simp
  | some q =>
    obtain ⟨a, m, b⟩ := q
    simp only
    unfold rdParts
    have hge : (rdNames zs m (rdBytes zs k false a).1 (rdBytes zs k false a).2.1 (rdBytes zs k false a).2.2).2.2 = false → k + a ≤ (rdNames zs m (rdBytes zs k false a).1 (rdBytes zs k false a).2.1 (rdBytes zs k false a).2.2).2.1 := fun h => by
      obtain ⟨h1, h2⟩ := rdNames_ge _ _ _ _ _ h
      by_cases hka : k + a ≤ zs.length
      · rw [rdBytes_in hka] at h2 ⊢
        exact h2
      · rw [rdBytes_out (.inr (by omega))] at h1
        cases h1
    by_cases hna : n < a
    · rw [if_pos hna]
      refine ⟨fun d h => (by cases h), fun _ => ?_⟩
      refine Classical.byContradiction fun hc => ?_
      simp only [Bool.not_eq_true, Bool.or_eq_false_iff, Bool.not_eq_false', decide_eq_true_eq] at hc
      obtain ⟨c1, c2⟩ := hc
      obtain ⟨d1, d2, d3⟩ := parts_fin c1
      have h4 := hge d1
      rw [c2] at d2
      omega
    · rw [if_neg hna]
      have hka : k + a ≤ zs.length := by omega
      simp only [rdBytes_in hka]
      obtain ⟨n1, n2⟩ := names_ref zs (k + n) m ((zs.drop k).take a) (k + a)
      cases hr : refNames zs (k + n) m ((zs.drop k).take a) (k + a) with
      | none =>
        refine ⟨fun d h => (by cases h), fun _ => ?_⟩
        have h2 := n2 hr
        refine Classical.byContradiction fun hc => ?_
        simp only [Bool.not_eq_true, Bool.or_eq_false_iff, Bool.not_eq_false', decide_eq_true_eq] at hc
        obtain ⟨c1, c2⟩ := hc
        obtain ⟨d1, d2, d3⟩ := parts_fin c1
        rw [c2] at d2
        rcases h2 with h | h
        · rw [d1] at h; cases h
        · omega
      | some x =>
        obtain ⟨s, e⟩ := x
        rw [n1 _ hr]
        simp only
        have hle := (refNames_le zs (k + n) m _ _ _ (by omega) hr).1
        simp only at hle
        by_cases he : e + b = k + n
        · rw [if_pos he, rdBytes_in (by omega)]
          refine ⟨fun d h => ?_, fun h => by cases h⟩
          simp only [Option.some.injEq] at h
          subst h
          rw [show k + n - e = b by omega, he]
          simp
        · rw [if_neg he]
          refine ⟨fun d h => (by cases h), fun _ => ?_⟩
          by_cases hb : e + b ≤ zs.length
          · rw [rdBytes_in hb, decide_eq_false (by simpa using he)]
            rfl
          · rw [rdBytes_out (.inr (by omega))]
            rfl
theorem rdTwo_ref {zs : List UInt8} {k : Nat} : rdTwo zs k false = if k + 2 ≤ zs.length then ((refTwo zs k).1, k + 2, false) else (0, k, true) := by
  unfold rdTwo refTwo
  by_cases h : k + 2 ≤ zs.length
  · have : lackB zs.length k false 2 = false := by unfold lackB; simp; omega
    rw [this, if_pos h, if_pos h]
    rfl
  · have : lackB zs.length k false 2 = true := by unfold lackB; simp; omega
    rw [this, if_neg h]
    rfl
theorem rdTwo_bad {zs : List UInt8} {k : Nat} : rdTwo zs k true = (0, k, true) := by
  unfold rdTwo lackB
  rfl
theorem refTwo_ok {zs : List UInt8} {k : Nat} : (refTwo zs k).2 = decide (k + 2 ≤ zs.length) := by
  unfold refTwo
  by_cases h : k + 2 ≤ zs.length
  · rw [if_pos h, decide_eq_true h]
  · rw [if_neg h, decide_eq_false h]
/-- a question: the same, or none -/
theorem q_ref {zs : List UInt8} {k : Nat} : rdQ zs k false = if (getN zs k).2.2 = 0 ∧ (getN zs k).2.1.toNat + 4 ≤ zs.length then (((getN zs k).1, (refTwo zs (getN zs k).2.1.toNat).1, (refTwo zs ((getN zs k).2.1.toNat + 2)).1), (getN zs k).2.1.toNat + 4, false) else rdQ zs k false := by
  split
  · rename_i h
    obtain ⟨h0, h1⟩ := h
    unfold rdQ
    simp only [rdName_get, if_pos h0, rdTwo_ref, if_pos (show (getN zs k).2.1.toNat + 2 ≤ zs.length by omega), if_pos (show (getN zs k).2.1.toNat + 2 + 2 ≤ zs.length by omega)]
  · rfl
theorem q_ref_no {zs : List UInt8} {k : Nat} (h : ¬ ((getN zs k).2.2 = 0 ∧ (getN zs k).2.1.toNat + 4 ≤ zs.length)) : (rdQ zs k false).2.2 = true := by
  unfold rdQ
  simp only [rdName_get]
  by_cases h0 : (getN zs k).2.2 = 0
  · simp only [if_pos h0, rdTwo_ref]
    by_cases h1 : (getN zs k).2.1.toNat + 2 ≤ zs.length
    · simp only [if_pos h1, rdTwo_ref]
      rw [if_neg (by intro h2; exact h ⟨h0, by omega⟩)]
    · simp only [if_neg h1, rdTwo_bad]
  · simp only [if_neg h0, rdTwo_bad]
end Go.Proofs.Ythfhmbooeemaaaa

/- Message: the reference's records and sections, and the program's. Lists alone. -/
namespace Go.Proofs.Ythfhmbooeemaaaa
open Go.RowKit
set_option maxRecDepth 100000
set_option linter.unusedVariables false

/-- where a record's name ends -/
def xN (zs : List UInt8) (k : Nat) : Nat := (getN zs k).2.1.toNat
/-- a record's head and data stand there -/
def recOk (zs : List UInt8) (k : Nat) : Prop := (getN zs k).2.2 = 0 ∧ xN zs k + 10 ≤ zs.length ∧ xN zs k + 10 + n2 zs (xN zs k + 8) ≤ zs.length
instance (zs : List UInt8) (k : Nat) : Decidable (recOk zs k) := by unfold recOk; infer_instance
def tN (zs : List UInt8) (k : Nat) : Int := (n2 zs (xN zs k) : Int)
def cN (zs : List UInt8) (k : Nat) : Int := (n2 zs (xN zs k + 2) : Int)
def lN (zs : List UInt8) (k : Nat) : Int := (n2 zs (xN zs k + 4) : Int) * 65536 + (n2 zs (xN zs k + 6) : Int)
def eN (zs : List UInt8) (k : Nat) : Nat := xN zs k + 10 + n2 zs (xN zs k + 8)
def tl (x : Int) : Int := if 2147483648 ≤ x then 0 else x
theorem refTwo_n2 {zs : List UInt8} {k : Nat} (h : k + 2 ≤ zs.length) : refTwo zs k = ((n2 zs k : Int), true) := by
  unfold refTwo n2
  rw [if_pos h]
theorem rec_ref {zs : List UInt8} {k : Nat} (h : recOk zs k) : rdRec zs k false = (⟨(getN zs k).1, tN zs k, cN zs k, tl (lN zs k), (rdData zs (tN zs k) (n2 zs (xN zs k + 8)) (xN zs k + 10) false).1⟩, (rdData zs (tN zs k) (n2 zs (xN zs k + 8)) (xN zs k + 10) false).2.1, (rdData zs (tN zs k) (n2 zs (xN zs k + 8)) (xN zs k + 10) false).2.2) := by
  obtain ⟨h0, h1, h2⟩ := h
  unfold rdRec tN cN lN tl xN at *
  simp only [rdName_get, if_pos h0]
  rw [rdTwo_in (show (getN zs k).2.1.toNat + 2 ≤ zs.length by omega)]
  simp only
  rw [rdTwo_in (show (getN zs k).2.1.toNat + 2 + 2 ≤ zs.length by omega)]
  simp only
  rw [rdTwo_in (show (getN zs k).2.1.toNat + 2 + 2 + 2 ≤ zs.length by omega)]
  simp only
  rw [rdTwo_in (show (getN zs k).2.1.toNat + 2 + 2 + 2 + 2 ≤ zs.length by omega)]
  simp only
  rw [rdTwo_in (show (getN zs k).2.1.toNat + 2 + 2 + 2 + 2 + 2 ≤ zs.length by omega)]
  simp only [Nat.add_assoc, Nat.reduceAdd, Int.toNat_natCast]
theorem rdData_bad {zs : List UInt8} {t : Int} {n k : Nat} : (rdData zs t n k true).2.2 = true := by
  cases h : (rdData zs t n k true).2.2 with
  | true => rfl
  | false => exact absurd (rdData_ok h) (by decide)
theorem rec_no {zs : List UInt8} {k : Nat} (h : ¬ recOk zs k) : (rdRec zs k false).2.2 = true := by
  refine Classical.byContradiction fun hc => ?_
  rw [Bool.not_eq_true] at hc
  apply h
  unfold rdRec at hc
  simp only at hc
  have g := rdData_ok hc
  have key : ∀ {j : Nat} {b : Bool}, (rdTwo zs j b).2.2 = false → b = false ∧ j + 2 ≤ zs.length ∧ rdTwo zs j b = ((n2 zs j : Int), j + 2, false) := fun {j b} hb => by
    obtain ⟨rfl, _⟩ := rdTwo_ok hb
    have hj : j + 2 ≤ zs.length := by
      refine Classical.byContradiction fun hj => ?_
      rw [rdTwo_ref, if_neg hj] at hb
      cases hb
    exact ⟨rfl, hj, rdTwo_in hj⟩
  obtain ⟨g1, g2, g3⟩ := key g
  obtain ⟨f1, f2, f3⟩ := key g1
  obtain ⟨e1, e2, e3⟩ := key f1
  obtain ⟨d1, d2, d3⟩ := key e1
  obtain ⟨c1, c2, c3⟩ := key d1
  have h0 : (getN zs k).2.2 = 0 := by
    refine Classical.byContradiction fun h0 => ?_
    rw [rdName_get, if_neg h0] at c1
    cases c1
  have hA : rdName zs k false = ((getN zs k).1, xN zs k, false) := by rw [rdName_get, if_pos h0]; rfl
  rw [hA] at c2 c3
  simp only at c2 c3
  rw [hA] at d2 d3
  simp only at d2 d3
  rw [c3] at d2 d3
  simp only at d2 d3
  rw [hA] at e2 e3
  simp only at e2 e3
  rw [c3] at e2 e3
  simp only at e2 e3
  rw [d3] at e2 e3
  simp only at e2 e3
  rw [hA] at f2 f3
  simp only at f2 f3
  rw [c3] at f2 f3
  simp only at f2 f3
  rw [d3] at f2 f3
  simp only at f2 f3
  rw [e3] at f2 f3
  simp only at f2 f3
  rw [hA] at g2 g3 hc
  simp only at g2 g3 hc
  rw [c3] at g2 g3 hc
  simp only at g2 g3 hc
  rw [d3] at g2 g3 hc
  simp only at g2 g3 hc
  rw [e3] at g2 g3 hc
  simp only at g2 g3 hc
  rw [f3] at g2 g3 hc
  simp only at g2 g3 hc
  rw [g3] at hc
  simp only [Nat.add_assoc, Nat.reduceAdd, Int.toNat_natCast] at hc
  refine ⟨h0, by omega, ?_⟩
  unfold rdData at hc
  by_cases hl : xN zs k + 10 + n2 zs (xN zs k + 8) ≤ zs.length
  · exact hl
  · exfalso
    have : lackB zs.length (xN zs k + 10) false (n2 zs (xN zs k + 8) : Int) = true := by
      unfold lackB
      simp
      omega
    rw [this] at hc
    cases hc
/-- once wrong, always wrong -/
theorem rdSec_bad (zs : List UInt8) : ∀ (i : Nat) (l o : List Rc.RR) (k : Nat), (rdSec zs i l o k true).2.2.2 = true := fun i l o k => by
  cases h : (rdSec zs i l o k true).2.2.2 with
  | true => rfl
  | false => exact absurd (sec_ok zs i l o k true h).1 (by decide)
theorem rdSec_grows (zs : List UInt8) : ∀ (i : Nat) (l o : List Rc.RR) (k : Nat) (bad : Bool), (rdSec zs i l o k bad).2.2.2 = true ∨ o <+: (rdSec zs i l o k bad).2.1
  | 0, l, o, k, bad => .inr (List.prefix_refl _)
  | i + 1, l, o, k, bad => by
    rw [rdSec]
    split
    · exact .inl rfl
    · split
      · rcases rdSec_grows zs i l (o ++ [(rdRec zs k bad).1]) (rdRec zs k bad).2.1 false with h | h
        · exact .inl h
        · exact .inr ((List.prefix_append _ _).trans h)
      · exact rdSec_grows zs i _ o _ _
/-- the reference's state in a section: its records, what EDNS said, and where it is -/
abbrev RSt := List Rc.RR × Bool × Int × Nat
def recN (zs : List UInt8) (k : Nat) (d : List UInt8) : Rc.RR := ⟨(getN zs k).1, tN zs k, cN zs k, tl (lN zs k), d⟩
def stepR (zs : List UInt8) (i : Nat) (s : RSt) : Option RSt :=
  if recOk zs s.2.2.2 then
    if tN zs s.2.2.2 = 41 then
      if i ≠ 2 ∨ (getN zs s.2.2.2).1 ≠ [0] ∨ s.2.1 = true then none else some (s.1, true, cN zs s.2.2.2, eN zs s.2.2.2)
    else match refDataN zs (xN zs s.2.2.2 + 10) (n2 zs (xN zs s.2.2.2 + 8)) (tN zs s.2.2.2) with
      | none => none
      | some d => if checkB (recN zs s.2.2.2 d) = true ∧ s.1.length < 64 then some (s.1 ++ [recN zs s.2.2.2 d], s.2.1, s.2.2.1, eN zs s.2.2.2) else none
  else none
def runR (zs : List UInt8) (i : Nat) : Nat → RSt → Option RSt
  | 0, s => some s
  | j + 1, s => (stepR zs i s).bind (runR zs i j)
/-- what EDNS's records say, and what the reference keeps of them -/
def Says (i : Nat) (o : List Rc.RR) (E : Bool) (Z : Int) : Prop := (o = [] ∧ E = false ∧ Z = 0) ∨ (i = 2 ∧ ∃ x, o = [x] ∧ x.name = [0] ∧ E = true ∧ Z = x.cl)
/-- what makes a section wrong -/
def SecBad (i : Nat) (F : List Rc.RR × List Rc.RR × Nat × Bool) : Prop := F.2.2.2 = true ∨ (i ≠ 2 ∧ 0 < F.2.1.length) ∨ (i = 2 ∧ (1 < F.2.1.length ∨ ∃ x ∈ F.2.1, x.name ≠ [0]))
theorem sec_ref (zs : List UInt8) (i : Nat) : ∀ (j : Nat) (l o : List Rc.RR) (E : Bool) (Z : Int) (k : Nat), Says i o E Z →
    match runR zs i j (l, E, Z, k) with
    | some s => ∃ o', rdSec zs j l o k false = (s.1, o', s.2.2.2, false) ∧ Says i o' s.2.1 s.2.2.1
    | none => SecBad i (rdSec zs j l o k false)
  | 0, l, o, E, Z, k, h => ⟨o, rfl, h⟩
  | j + 1, l, o, E, Z, k, h => by
    rw [runR, rdSec]
    unfold stepR
    by_cases hr : recOk zs k
    · simp only [if_pos hr]
      obtain ⟨n1, n2'⟩ := data_ref (t := tN zs k) hr.2.2
      rw [rec_ref hr]
      by_cases ht : tN zs k = 41
      · have hd : refDataN zs (xN zs k + 10) (n2 zs (xN zs k + 8)) (tN zs k) = some ((zs.drop (xN zs k + 10)).take (n2 zs (xN zs k + 8))) := by rw [ht]; rfl
        rw [n1 _ hd]
        simp only [if_pos ht, Bool.false_eq_true, if_false]
        by_cases hb : i ≠ 2 ∨ (getN zs k).1 ≠ [0] ∨ E = true
        · simp only [if_pos hb, Option.bind_none]
          rcases rdSec_grows zs j l (o ++ [⟨(getN zs k).1, tN zs k, cN zs k, tl (lN zs k), (zs.drop (xN zs k + 10)).take (n2 zs (xN zs k + 8))⟩]) (xN zs k + 10 + n2 zs (xN zs k + 8)) false with hg | hg
          · exact .inl hg
          · have hlen := hg.length_le
            rw [List.length_append] at hlen
            simp only [List.length_singleton] at hlen
            by_cases hi : i = 2
            · refine .inr (.inr ⟨hi, ?_⟩)
              rcases hb with hb | hb | hb
              · exact absurd hi hb
              · exact .inr ⟨_, hg.subset (List.mem_append_right _ (List.mem_singleton.2 rfl)), hb⟩
              · left
                rcases h with ⟨_, h, _⟩ | ⟨_, x, ho, _⟩
                · rw [hb] at h; cases h
                · have ho2 : o.length = 1 := by rw [ho]; rfl
                  omega
            · exact .inr (.inl ⟨hi, by omega⟩)
        · simp only [if_neg hb, Option.bind_some]
          have hi : i = 2 := Classical.byContradiction fun hh => hb (.inl hh)
          have hn : (getN zs k).1 = [0] := Classical.byContradiction fun hh => hb (.inr (.inl hh))
          have hE : E = false := by cases E; rfl; exact absurd (.inr (.inr rfl)) hb
          have ho : o = [] := by
            rcases h with ⟨h, _⟩ | ⟨_, x, _, _, h, _⟩
            · exact h
            · rw [hE] at h; cases h
          exact sec_ref zs i j l _ true (cN zs k) _ (.inr ⟨hi, _, by rw [ho]; rfl, hn, rfl, rfl⟩)
      · simp only [if_neg ht]
        cases hd : refDataN zs (xN zs k + 10) (n2 zs (xN zs k + 8)) (tN zs k) with
        | none =>
          simp only [n2' hd, if_true, Option.bind_none]
          exact .inl rfl
        | some d =>
          rw [n1 _ hd]
          simp only [Bool.false_eq_true, if_false]
          by_cases hc : checkB (recN zs k d) = true ∧ l.length < 64
          · simp only [if_pos hc, Option.bind_some]
            have e1 : (!checkB (⟨(getN zs k).1, tN zs k, cN zs k, tl (lN zs k), d⟩ : Rc.RR) || decide (64 < l.length + 1)) = false := by
              have : checkB (⟨(getN zs k).1, tN zs k, cN zs k, tl (lN zs k), d⟩ : Rc.RR) = true := hc.1
              rw [this, decide_eq_false (by omega)]
              rfl
            rw [e1]
            exact sec_ref zs i j _ o E Z _ h
          · simp only [if_neg hc, Option.bind_none]
            have e1 : (!checkB (⟨(getN zs k).1, tN zs k, cN zs k, tl (lN zs k), d⟩ : Rc.RR) || decide (64 < l.length + 1)) = true := by
              cases hck : checkB (⟨(getN zs k).1, tN zs k, cN zs k, tl (lN zs k), d⟩ : Rc.RR) with
              | false => rfl
              | true => rw [decide_eq_true (by have : ¬ l.length < 64 := fun hl => hc ⟨hck, hl⟩; omega)]; rfl
            rw [e1]
            exact .inl (rdSec_bad zs j _ _ _)
    · simp only [if_neg hr, Option.bind_none]
      rw [if_pos (rec_no hr)]
      exact .inl rfl
end Go.Proofs.Ythfhmbooeemaaaa

/- Message: the reference's reading of a whole message is the program's. Lists alone. -/
namespace Go.Proofs.Ythfhmbooeemaaaa
open Go.RowKit
set_option maxRecDepth 100000
set_option linter.unusedVariables false

/-- a question stands there -/
def qsOk (zs : List UInt8) (k : Nat) : Prop := (getN zs k).2.2 = 0 ∧ xN zs k + 4 ≤ zs.length
instance (zs : List UInt8) (k : Nat) : Decidable (qsOk zs k) := by unfold qsOk; infer_instance
def stepQ (zs : List UInt8) (s : List Qn × Nat) : Option (List Qn × Nat) :=
  if qsOk zs s.2 then some (s.1 ++ [⟨(getN zs s.2).1, tN zs s.2, cN zs s.2⟩], xN zs s.2 + 4) else none
def runQ (zs : List UInt8) : Nat → List Qn × Nat → Option (List Qn × Nat)
  | 0, s => some s
  | j + 1, s => (stepQ zs s).bind (runQ zs j)
theorem rdQs_bad (zs : List UInt8) (i : Nat) (l : List Qn) (k : Nat) : (rdQs zs i l k true).2.2 = true := by
  cases h : (rdQs zs i l k true).2.2 with
  | true => rfl
  | false => exact absurd (qs_ok zs i l k true h).1 (by decide)
theorem qs_ref (zs : List UInt8) : ∀ (j : Nat) (l : List Qn) (k : Nat),
    match runQ zs j (l, k) with
    | some s => rdQs zs j l k false = (s.1, s.2, false)
    | none => (rdQs zs j l k false).2.2 = true
  | 0, l, k => rfl
  | j + 1, l, k => by
    rw [runQ, rdQs]
    unfold stepQ
    by_cases h : qsOk zs k
    · simp only [if_pos h, Option.bind_some]
      have e : rdQ zs k false = (((getN zs k).1, tN zs k, cN zs k), xN zs k + 4, false) := by
        have h2 := h.2
        rw [q_ref, if_pos (show (getN zs k).2.2 = 0 ∧ (getN zs k).2.1.toNat + 4 ≤ zs.length from h)]
        unfold tN cN xN at *
        rw [refTwo_n2 (show (getN zs k).2.1.toNat + 2 ≤ zs.length by omega), refTwo_n2 (show (getN zs k).2.1.toNat + 2 + 2 ≤ zs.length by omega)]
      rw [e]
      exact qs_ref zs j _ _
    · simp only [if_neg h, Option.bind_none]
      rw [show (rdQ zs k false).2.2 = true from q_ref_no h]
      exact rdQs_bad zs j _ _
/-- what the reference tells of bytes -/
def refDec (zs : List UInt8) : Msg × Bool × Bool :=
  if zs.length < 12 then (mZ, false, false)
  else if 4096 < zs.length ∨ (bits .and .i64 (n2 zs 2) 112 != 0) = true then (headM (n2 zs 0) (n2 zs 2), true, false)
  else if 4 < n2 zs 4 then (headM (n2 zs 0) (n2 zs 2), true, false)
  else match runQ zs (n2 zs 4) ([], 12) with
    | none => (headM (n2 zs 0) (n2 zs 2), true, false)
    | some q => match runR zs 0 (n2 zs 6) ([], false, 0, q.2) with
      | none => (headM (n2 zs 0) (n2 zs 2), true, false)
      | some a => match runR zs 1 (n2 zs 8) ([], a.2.1, a.2.2.1, a.2.2.2) with
        | none => (headM (n2 zs 0) (n2 zs 2), true, false)
        | some s => match runR zs 2 (n2 zs 10) ([], s.2.1, s.2.2.1, s.2.2.2) with
          | none => (headM (n2 zs 0) (n2 zs 2), true, false)
          | some d => if d.2.2.2 = zs.length then (bdM (headM (n2 zs 0) (n2 zs 2)) q.1 a.1 s.1 d.1 d.2.1 d.2.2.1, true, true) else (headM (n2 zs 0) (n2 zs 2), true, false)
theorem optF_or (o : List Rc.RR) (b : Bool) : (optF o b).2.2 = (b || o.any fun x => decide (x.name ≠ [0])) := by
  have h : ∀ (o : List Rc.RR) (s : Bool × Int × Bool), (o.foldl (fun s x => (true, x.cl, s.2.2 || decide (x.name ≠ [0]))) s).2.2 = (s.2.2 || o.any fun x => decide (x.name ≠ [0])) := fun o => by
    induction o with
    | nil => intro s; simp
    | cons x o ih => intro s; rw [List.foldl_cons, ih, List.any_cons, Bool.or_assoc]
  exact h o _
theorem dec_fail {zs : List UInt8} (h : ¬ zs.length < 12) (hb : (dcX zs).2.2 = true) : ((decN zs).1, (decN zs).2.1, (decN zs).2.2 == 0) = (headM (n2 zs 0) (n2 zs 2), true, false) := by
  unfold decN
  rw [if_neg h, if_pos hb]
  rfl
theorem body_bad {zs : List UInt8} (h4 : ¬ 4 < n2 zs 4) (hf : ((bits .and .i64 (n2 zs 2) 112 != 0) || decide (4096 < zs.length)) = false) : dcX zs = (let A := bdA zs (n2 zs 4) (n2 zs 6) 12; let S := bdS zs (n2 zs 4) (n2 zs 6) (n2 zs 8) 12; let D := bdD zs (n2 zs 4) (n2 zs 6) (n2 zs 8) (n2 zs 10) 12; let O := optF D.2.1 (bdB zs.length A S D); (bdM (headM (n2 zs 0) (n2 zs 2)) (bdQ zs (n2 zs 4) 12).1 A.1 S.1 D.1 O.1 O.2.1, D.2.2.1, O.2.2)) := by
  unfold dcX rdBody
  rw [hf, decide_eq_false h4]
  rfl
theorem ref_dec (zs : List UInt8) : refDec zs = ((decN zs).1, (decN zs).2.1, (decN zs).2.2 == 0) := by
  unfold refDec
  by_cases h12 : zs.length < 12
  · rw [if_pos h12]
    unfold decN
    rw [if_pos h12]
    rfl
  · rw [if_neg h12]
    by_cases hf : 4096 < zs.length ∨ (bits .and .i64 (n2 zs 2) 112 != 0) = true
    · rw [if_pos hf, dec_fail h12]
      unfold dcX rdBody
      have hc : (((bits .and .i64 (n2 zs 2) 112 != 0) || decide (4096 < zs.length)) || decide (4 < n2 zs 4)) = true := by
        rcases hf with h | h
        · rw [decide_eq_true h, Bool.or_true, Bool.true_or]
        · rw [h, Bool.true_or, Bool.true_or]
      rw [if_pos hc]
    · rw [if_neg hf]
      by_cases h4 : 4 < n2 zs 4
      · rw [if_pos h4, dec_fail h12]
        unfold dcX rdBody
        rw [if_pos (by rw [decide_eq_true h4, Bool.or_true])]
      · rw [if_neg h4]
        have hff : ((bits .and .i64 (n2 zs 2) 112 != 0) || decide (4096 < zs.length)) = false := by
          rw [decide_eq_false (fun h => hf (.inl h)), Bool.or_false]
          cases hb : (bits .and .i64 (n2 zs 2) 112 != 0) with
          | false => rfl
          | true => exact absurd (.inr hb) hf
        have hX := body_bad h4 hff
        simp only at hX
        have hAb : (bdQ zs (n2 zs 4) 12).2.2 = true → (bdA zs (n2 zs 4) (n2 zs 6) 12).2.2.2 = true := fun h => by unfold bdA; rw [h]; exact rdSec_bad zs _ _ _ _
        have hSb : (bdA zs (n2 zs 4) (n2 zs 6) 12).2.2.2 = true → (bdS zs (n2 zs 4) (n2 zs 6) (n2 zs 8) 12).2.2.2 = true := fun h => by unfold bdS; rw [h]; exact rdSec_bad zs _ _ _ _
        have hDb : (bdS zs (n2 zs 4) (n2 zs 6) (n2 zs 8) 12).2.2.2 = true → (bdD zs (n2 zs 4) (n2 zs 6) (n2 zs 8) (n2 zs 10) 12).2.2.2 = true := fun h => by unfold bdD; rw [h]; exact rdSec_bad zs _ _ _ _
        have hfin : (bdD zs (n2 zs 4) (n2 zs 6) (n2 zs 8) (n2 zs 10) 12).2.2.2 = true → (dcX zs).2.2 = true := fun h => by
          rw [hX]
          show (optF _ _).2.2 = true
          rw [optF_or]
          unfold bdB
          rw [h]
          rfl
        have hB := fun h => dec_fail (zs := zs) h12 h
        have hq := qs_ref zs (n2 zs 4) [] 12
        cases hQ : runQ zs (n2 zs 4) ([], 12) with
        | none =>
          rw [hQ] at hq
          exact (hB (hfin (hDb (hSb (hAb hq))))).symm
        | some q =>
          obtain ⟨ql, k1⟩ := q
          rw [hQ] at hq
          simp only at hq ⊢
          have eQ : bdQ zs (n2 zs 4) 12 = (ql, k1, false) := hq
          have ha := sec_ref zs 0 (n2 zs 6) [] [] false 0 k1 (.inl ⟨rfl, rfl, rfl⟩)
          have eA0 : bdA zs (n2 zs 4) (n2 zs 6) 12 = rdSec zs (n2 zs 6) [] [] k1 false := by unfold bdA; rw [eQ]
          cases hA : runR zs 0 (n2 zs 6) ([], false, 0, k1) with
          | none =>
            rw [hA] at ha
            simp only at ha ⊢
            rw [← eA0] at ha
            refine (hB ?_).symm
            rcases ha with h | ⟨_, h⟩ | ⟨h, _⟩
            · exact hfin (hDb (hSb h))
            · rw [hX]
              show (optF _ _).2.2 = true
              rw [optF_or]
              unfold bdB
              rw [decide_eq_true (show 0 < (bdA zs (n2 zs 4) (n2 zs 6) 12).2.1.length + (bdS zs (n2 zs 4) (n2 zs 6) (n2 zs 8) 12).2.1.length by omega)]
              simp
            · cases h
          | some a =>
            obtain ⟨al, aE, aZ, k2⟩ := a
            rw [hA] at ha
            simp only at ha ⊢
            obtain ⟨oa, ha, hsa⟩ := ha
            rw [← eA0] at ha
            obtain ⟨rfl, rfl, rfl⟩ : oa = [] ∧ aE = false ∧ aZ = 0 := by
              rcases hsa with h | ⟨h, _⟩
              · exact h
              · cases h
            have hs := sec_ref zs 1 (n2 zs 8) [] [] false 0 k2 (.inl ⟨rfl, rfl, rfl⟩)
            have eS0 : bdS zs (n2 zs 4) (n2 zs 6) (n2 zs 8) 12 = rdSec zs (n2 zs 8) [] [] k2 false := by unfold bdS; rw [ha]
            cases hS : runR zs 1 (n2 zs 8) ([], false, 0, k2) with
            | none =>
              rw [hS] at hs
              simp only at hs ⊢
              rw [← eS0] at hs
              refine (hB ?_).symm
              rcases hs with h | ⟨_, h⟩ | ⟨h, _⟩
              · exact hfin (hDb h)
              · rw [hX]
                show (optF _ _).2.2 = true
                rw [optF_or]
                unfold bdB
                rw [decide_eq_true (show 0 < (bdA zs (n2 zs 4) (n2 zs 6) 12).2.1.length + (bdS zs (n2 zs 4) (n2 zs 6) (n2 zs 8) 12).2.1.length by omega)]
                simp
              · cases h
            | some s =>
              obtain ⟨sl, sE, sZ, k3⟩ := s
              rw [hS] at hs
              simp only at hs ⊢
              obtain ⟨os, hs, hss⟩ := hs
              rw [← eS0] at hs
              obtain ⟨rfl, rfl, rfl⟩ : os = [] ∧ sE = false ∧ sZ = 0 := by
                rcases hss with h | ⟨h, _⟩
                · exact h
                · cases h
              have hd := sec_ref zs 2 (n2 zs 10) [] [] false 0 k3 (.inl ⟨rfl, rfl, rfl⟩)
              have eD0 : bdD zs (n2 zs 4) (n2 zs 6) (n2 zs 8) (n2 zs 10) 12 = rdSec zs (n2 zs 10) [] [] k3 false := by unfold bdD; rw [hs]
              cases hD : runR zs 2 (n2 zs 10) ([], false, 0, k3) with
              | none =>
                rw [hD] at hd
                simp only at hd ⊢
                rw [← eD0] at hd
                refine (hB ?_).symm
                rcases hd with h | ⟨h, _⟩ | ⟨_, h | ⟨x, hx, hn⟩⟩
                · exact hfin h
                · exact absurd rfl h
                · rw [hX]
                  show (optF _ _).2.2 = true
                  rw [optF_or]
                  unfold bdB
                  rw [decide_eq_true h]
                  simp
                · rw [hX]
                  show (optF _ _).2.2 = true
                  rw [optF_or]
                  have : ((bdD zs (n2 zs 4) (n2 zs 6) (n2 zs 8) (n2 zs 10) 12).2.1.any fun x => decide (x.name ≠ [0])) = true := List.any_eq_true.2 ⟨x, hx, decide_eq_true hn⟩
                  rw [this, Bool.or_true]
              | some d =>
                obtain ⟨dl, dE, dZ, k4⟩ := d
                rw [hD] at hd
                simp only at hd ⊢
                obtain ⟨od, hd, hsd⟩ := hd
                rw [← eD0] at hd
                have hO : ∀ b, optF od b = (dE, dZ, b) := fun b => by
                  rcases hsd with ⟨rfl, rfl, rfl⟩ | ⟨_, x, rfl, hn, rfl, rfl⟩
                  · rfl
                  · show (true, x.cl, b || decide (x.name ≠ [0])) = _
                    rw [hn]
                    simp
                have hol : od.length ≤ 1 := by
                  rcases hsd with ⟨rfl, _⟩ | ⟨_, x, rfl, _⟩
                  · exact Nat.zero_le _
                  · exact Nat.le_refl _
                have hbb : bdB zs.length (bdA zs (n2 zs 4) (n2 zs 6) 12) (bdS zs (n2 zs 4) (n2 zs 6) (n2 zs 8) 12) (bdD zs (n2 zs 4) (n2 zs 6) (n2 zs 8) (n2 zs 10) 12) = !decide (k4 = zs.length) := by
                  rw [ha, hs, hd]
                  unfold bdB
                  simp only [List.length_nil]
                  rw [decide_eq_false (show ¬ 1 < od.length by omega)]
                  rfl
                rw [hbb, ha, hs, hd, eQ] at hX
                simp only [hO] at hX
                by_cases hk : k4 = zs.length
                · rw [if_pos hk]
                  rw [decide_eq_true hk] at hX
                  unfold decN
                  rw [if_neg h12, if_neg (by rw [hX]; simp), hX]
                  rfl
                · rw [if_neg hk]
                  refine (hB ?_).symm
                  rw [hX, decide_eq_false hk]
                  rfl
end Go.Proofs.Ythfhmbooeemaaaa

/- Message: the reference's Decode: its first bytes. -/
namespace Go.Proofs.Ythfhmbooeemaaaa
open Go.RowKit
set_option maxRecDepth 100000
set_option linter.unusedVariables false

def RefEnd (w : World) (F : Msg × Bool × Bool) (e : Ending) (w' : World) : Prop :=
  ∃ q a s d, e = .returned (.tuple #[MV F.1 q a s d, .bool F.2.1, .bool F.2.2]) ∧ MsgL w' F.1 q a s d ∧ Below w.heap.size w w'
theorem flag7 (f : Nat) (h : f < 65536) : (bits .and .i64 ((f : Int) / 16) 7 != 0) = (bits .and .i64 (f : Int) 112 != 0) := by
  have e1 : bits .and .i64 (f : Int) 112 = ((f / 16 % 8 * 16 : Nat) : Int) := by rw [← (chk_facts f h).2.1]; exact bits_and f 112 (by omega) (by decide)
  have e2 : bits .and .i64 ((f : Int) / 16) 7 = ((f / 16 % 8 : Nat) : Int) := by
    have : bits .and .i64 (((f / 16 : Nat)) : Int) (7 : Nat) = ((f / 16 &&& 7 : Nat) : Int) := bits_and (f / 16) 7 (by omega) (by decide)
    rw [show f / 16 &&& 7 = f / 16 % 8 from Nat.and_two_pow_sub_one_eq_mod (f / 16) 3] at this
    exact_mod_cast this
  rw [e1, e2]
  by_cases hz : f / 16 % 8 = 0
  · rw [hz]
  · have h1 : (((f / 16 % 8 : Nat) : Int) != 0) = true := by simp only [bne_iff_ne]; omega
    have h2 : (((f / 16 % 8 * 16 : Nat) : Int) != 0) = true := by simp only [bne_iff_ne]; omega
    rw [h1, h2]
set_option maxHeartbeats 2000000 in
theorem refDecode_short (sa : Option Addr) (cap : Nat) (zs : List UInt8) (w : World) (hn : zs.length < 12) :
    Calls Try.prog 13 #[.slice sa zs.length cap] w (RefEnd w (refDec zs)) := by
  have hF : refDec zs = (mZ, false, false) := by unfold refDec; rw [if_pos hn]
  rw [hF]
  have t1 : (zs.length : Int) < 12 := by omega
  generalize zs.length = N at *
  have hb := (Below.refl w.heap.size w).alloc (Nat.le_refl _) (.cells (MC mZ nilS nilS nilS nilS) 27)
  have hX := heap_alloc_new w (.cells (MC mZ nilS nilS nilS nilS) 27)
  obtain ⟨X, hXe⟩ : ∃ X, w.alloc (.cells #[.int .i64 0, .bool false, .int .i64 0, .bool false, .bool false, .bool false, .bool false, .int .i64 0, .slice none 0 0, .slice none 0 0, .slice none 0 0, .slice none 0 0, .bool false, .int .i64 0] 27) = X := ⟨_, rfl⟩
  rw [show w.alloc (.cells (MC mZ nilS nilS nilS nilS) 27) = X from hXe] at hb hX
  obtain ⟨fs, hu⟩ := undMsg
  have hone := msg_one mZ (q := nilS) (a := nilS) (s := nilS) (d := nilS) ⟨rfl, rfl, rfl, rfl⟩
  have HX := Go.Lib.hid hX
  have HB := Go.Lib.hid hb
  have HU := Go.Lib.hid hu
  clear hX hb hu
  clear hF hn
  go_enter Try.func13, Try.ntmps13
  go_wp2_with (refine wpList_store_row rfl 27 (.tmp 2) (.tmp 40) rfl w.heap.size (MC mZ nilS nilS nilS nilS) rfl rfl _ _ HX.out infoMsg rfl hone ?_)
  refine ret_m3 (m := mZ) rfl rfl rfl rfl rfl (setRow_heap _ _ _ _ _ _ HX.out) ⟨nilS, nilS, nilS, nilS, rfl, ⟨SlC.nil _ _, SlC.nil _ _, SlC.nil _ _, SlC.nil _ _⟩, below_setRow HB.out (Nat.le_refl _) _⟩
set_option maxHeartbeats 4000000 in
theorem refDecode_flags (sa : Option Addr) (cap : Nat) (zs : List UInt8) (w : World) (hz : Byts w (.slice sa zs.length cap) zs) (hn : 12 ≤ zs.length) (hl : zs.length ≤ 1099511627776) (hf : 4096 < zs.length ∨ (bits .and .i64 (n2 zs 2) 112 != 0) = true) :
    Calls Try.prog 13 #[.slice sa zs.length cap] w (RefEnd w (refDec zs)) := by
  have mixed : Try.prog.follows .mixedOrders = true := by kernel_rfl
  have hF : refDec zs = (headM (n2 zs 0) (n2 zs 2), true, false) := by unfold refDec; rw [if_neg (by omega), if_pos hf]
  rw [hF]
  have t1 : ¬ (zs.length : Int) < 12 := by omega
  obtain ⟨gb, off, rfl, hgw, hcell⟩ := Byts.at hz (by omega)
  obtain ⟨X, hXe⟩ : ∃ X, w.alloc (.cells #[.int .i64 0, .bool false, .int .i64 0, .bool false, .bool false, .bool false, .bool false, .int .i64 0, .slice none 0 0, .slice none 0 0, .slice none 0 0, .slice none 0 0, .bool false, .int .i64 0] 27) = X := ⟨_, rfl⟩
  have gX : X.heap[w.heap.size]? = some (.cells (MC mZ nilS nilS nilS nilS) 27 (0, 0)) := by rw [← hXe]; exact heap_alloc_new _ _
  have hbX : Below w.heap.size w X := by rw [← hXe]; exact (Below.refl _ w).alloc (Nat.le_refl _) _
  have hgX : gb < X.heap.size := Nat.lt_of_lt_of_le hgw hbX.size
  have Y : ∀ j, j < 12 → ∀ x : Subtype (Below X.heap.size X), x.1.cell? ⟨gb, off + j, none⟩ = some (.int .u8 ((zs.getD j 0).toNat : Int)) := fun j hj => BelowC.cell (W := X) ((hbX.cell (p := ⟨gb, off + j, none⟩) hgw).trans (hcell j (by omega))) hgX
  have Y0 : ∀ x : Subtype (Below X.heap.size X), x.1.cell? ⟨gb, off, none⟩ = some (.int .u8 ((zs.getD 0 0).toNat : Int)) := Y 0 (by omega)
  have Y1 := Y 1 (by omega)
  have Y2 := Y 2 (by omega)
  have Y3 := Y 3 (by omega)
  have o0 := or2 (zs.getD 0 0) (zs.getD 1 0)
  have o2 := or2 (zs.getD 2 0) (zs.getD 3 0)
  have l0 := (zs.getD 0 0).toNat_lt
  have l1 := (zs.getD 1 0).toNat_lt
  have l2 := (zs.getD 2 0).toNat_lt
  have l3 := (zs.getD 3 0).toNat_lt
  have hn0 : n2 zs 0 = (zs.getD 0 0).toNat * 256 + (zs.getD 1 0).toNat := rfl
  have hn2 : n2 zs 2 = (zs.getD 2 0).toNat * 256 + (zs.getD 3 0).toNat := rfl
  have p0 : 0 < zs.length := by omega
  have p1 : (1 : Int) < (zs.length : Int) := by omega
  have p2 : (2 : Int) < (zs.length : Int) := by omega
  have p3 : (3 : Int) < (zs.length : Int) := by omega
  have hne : Nonempty (Subtype (Below X.heap.size X)) := ⟨⟨X, Below.refl _ _⟩⟩
  generalize zs.getD 0 0 = a0 at *
  generalize zs.getD 1 0 = a1 at *
  generalize zs.getD 2 0 = a2 at *
  generalize zs.getD 3 0 = a3 at *
  have q4 : IntKind.i64.wrap ((a0.toNat : Int) * 256) = (a0.toNat : Int) * 256 := wrapi (by omega) (by omega)
  have q5 : IntKind.i64.wrap (a0.toNat : Int) = (a0.toNat : Int) := wrapi (by omega) (by omega)
  have q6 : IntKind.i64.wrap (a1.toNat : Int) = (a1.toNat : Int) := wrapi (by omega) (by omega)
  have r4 : IntKind.i64.wrap ((a2.toNat : Int) * 256) = (a2.toNat : Int) * 256 := wrapi (by omega) (by omega)
  have r5 : IntKind.i64.wrap (a2.toNat : Int) = (a2.toNat : Int) := wrapi (by omega) (by omega)
  have r6 : IntKind.i64.wrap (a3.toNat : Int) = (a3.toNat : Int) := wrapi (by omega) (by omega)
  rw [← hn0] at o0
  rw [← hn2] at o2
  have b0 := n2_le zs 0
  have b2 := n2_le zs 2
  clear hn0 hn2
  generalize n2 zs 0 = i0 at *
  generalize n2 zs 2 = f0 at *
  have GX := Go.Lib.hid gX
  have HBX := Go.Lib.hid hbX
  have HZ := Go.Lib.hid hz
  have HFB := Go.Lib.hid hf
  clear gX hbX hz hf
  clear Y hcell hF
  go_enter Try.func13, Try.ntmps13
  go_wp2_with fail
  refine Go.Mix.wp_region_mixT (Es := []) 10 (Below X.heap.size X) mixed (by kernel_rfl) (Below.refl _ _).drew ?_
  iterate 10 (refine Go.Mix.mixT_step rfl (fun K hK => ?_); have HKK := Go.Lib.hid hK; clear hK; go_simp; refine HKK.out _ _ ?_; clear HKK K)
  refine Go.Mix.mixT_last rfl (fun K hK => ?_)
  have HKK := Go.Lib.hid hK
  clear hK
  go_simp
  refine HKK.out _ _ ?_
  clear HKK K
  go_wp2_with fail
  refine Go.Mix.wp_region_mixT (Es := [35]) 36 (Below X.heap.size X) mixed (by kernel_rfl) (Below.refl _ _).drew.drew ?_
  iterate 35 (refine Go.Mix.mixT_step rfl (fun K hK => ?_); have HKK := Go.Lib.hid hK; clear hK; go_simp; refine HKK.out _ _ ?_; clear HKK K)
  refine Go.Mix.mixT_eff rfl (fun K hK => ?_)
  have HKK := Go.Lib.hid hK
  clear hK
  go_simp
  refine HKK.out _ _ (((Below.refl _ _).drew.drew).alloc (by simp) _) ?_
  clear HKK K
  refine Go.Mix.mixT_last rfl (fun K hK => ?_)
  have HKK := Go.Lib.hid hK
  clear hK
  go_simp
  refine HKK.out _ _ ?_
  clear HKK K
  obtain ⟨HM, hHM⟩ : ∃ m, m = headM (i0 : Int) (f0 : Int) := ⟨_, rfl⟩
  obtain ⟨V, hV⟩ : ∃ V, (X.alloc (.cells (MC (headM (i0 : Int) (f0 : Int)) nilS nilS nilS nilS) 27)).drew.drew = V := ⟨_, rfl⟩
  show Exit.then _ _ _ _ (X.alloc (.cells (MC (headM (i0 : Int) (f0 : Int)) nilS nilS nilS nilS) 27)).drew.drew
  rw [hV]
  rw [← hHM] at hV ⊢
  have gV : V.heap[X.heap.size]? = some (.cells (MC HM nilS nilS nilS nilS) 27 (0, 0)) := by rw [← hV]; exact heap_alloc_new _ _
  have hbV : Below X.heap.size X V := by rw [← hV]; exact ((Below.refl _ X).alloc (Nat.le_refl _) _).drew.drew
  have gz : V.heap[w.heap.size]? = some (.cells (MC mZ nilS nilS nilS nilS) 27 (0, 0)) := (hbV.block _ (Array.getElem?_eq_some_iff.1 GX.out).1).trans GX.out
  have hone := msg_one HM (q := nilS) (a := nilS) (s := nilS) (d := nilS) ⟨rfl, rfl, rfl, rfl⟩
  obtain ⟨fs, hu⟩ := undMsg
  obtain ⟨O, hO⟩ : ∃ O, V.alloc (.cells (MC HM nilS nilS nilS nilS) 27) = O := ⟨_, rfl⟩
  have gO : O.heap[V.heap.size]? = some (.cells (MC HM nilS nilS nilS nilS) 27 (0, 0)) := by rw [← hO]; exact heap_alloc_new _ _
  have hbO : Below V.heap.size V O := by rw [← hO]; exact (Below.refl _ V).alloc (Nat.le_refl _) _
  have gzO := (hbO.block _ (Array.getElem?_eq_some_iff.1 gz).1).trans gz
  have hbb := HBX.out.trans ((hbV.trans (hbO.mono hbV.size)).mono HBX.out.size)
  have hcs : (4096 : Int) < (zs.length : Int) ∨ (¬ (4096 : Int) < (zs.length : Int) ∧ (bits .and .i64 ((f0 : Int) / 16) 7 != 0) = true) := by
    rcases HFB.out with h | h
    · exact .inl (by omega)
    · by_cases h4 : (4096 : Int) < (zs.length : Int)
      · exact .inl h4
      · exact .inr ⟨h4, by rw [flag7 f0 (by omega)]; exact h⟩
  have GV := Go.Lib.hid gV
  have HBV := Go.Lib.hid hbV
  have GZ := Go.Lib.hid gz
  have HU := Go.Lib.hid hu
  have GO := Go.Lib.hid gO
  have GZO := Go.Lib.hid gzO
  have HBB := Go.Lib.hid hbb
  have HHM := Go.Lib.hid hHM
  clear gV hbV gz hu gO gzO hbb hHM
  clear hV hXe Y0 Y1 Y2 Y3 hbO
  simp only [MC] at hO
  obtain ⟨k7, hk7⟩ : ∃ k, bits .and .i64 ((f0 : Int) / 16) 7 = k := ⟨_, rfl⟩
  rw [hk7] at hcs
  rcases hcs with u1 | ⟨u1, u2⟩
  all_goals
    go_wp2_with (first | (refine wpList_load_rowG rfl 27 (.tmp 6) rfl X.heap.size rfl _ _ (0, 0) _ GV.out HU.out rfl infoMsg ?_) | (refine wpList_load_rowG rfl 27 (.tmp 7) rfl V.heap.size rfl _ _ (0, 0) _ GO.out HU.out rfl infoMsg ?_) | (refine wpList_store_row rfl 27 (.tmp 2) (.tmp 96) rfl w.heap.size (MC HM nilS nilS nilS nilS) rfl rfl _ _ GZO.out infoMsg rfl hone ?_))
    rw [← HHM.out]
    refine ret_m3 (m := HM) rfl rfl rfl rfl rfl (setRow_heap _ _ _ _ _ _ GZO.out) ⟨nilS, nilS, nilS, nilS, rfl, ?_, below_setRow HBB.out (Nat.le_refl _) _⟩
    rw [HHM.out]
    exact ⟨SlC.nil _ _, SlC.nil _ _, SlC.nil _ _, SlC.nil _ _⟩
end Go.Proofs.Ythfhmbooeemaaaa

/- Message: the reference's Decode: too many questions. -/
namespace Go.Proofs.Ythfhmbooeemaaaa
open Go.RowKit
set_option maxRecDepth 100000
set_option linter.unusedVariables false

set_option maxHeartbeats 4000000 in
theorem refDecode_many (sa : Option Addr) (cap : Nat) (zs : List UInt8) (w : World) (hz : Byts w (.slice sa zs.length cap) zs) (hn : 12 ≤ zs.length) (hl : zs.length ≤ 1099511627776) (hf : ¬ (4096 < zs.length ∨ (bits .and .i64 (n2 zs 2) 112 != 0) = true)) (h4 : 4 < n2 zs 4) :
    Calls Try.prog 13 #[.slice sa zs.length cap] w (RefEnd w (refDec zs)) := by
  have mixed : Try.prog.follows .mixedOrders = true := by kernel_rfl
  have hF : refDec zs = (headM (n2 zs 0) (n2 zs 2), true, false) := by unfold refDec; rw [if_neg (by omega), if_neg hf, if_pos h4]
  rw [hF]
  have t1 : ¬ (zs.length : Int) < 12 := by omega
  obtain ⟨gb, off, rfl, hgw, hcell⟩ := Byts.at hz (by omega)
  obtain ⟨X, hXe⟩ : ∃ X, w.alloc (.cells #[.int .i64 0, .bool false, .int .i64 0, .bool false, .bool false, .bool false, .bool false, .int .i64 0, .slice none 0 0, .slice none 0 0, .slice none 0 0, .slice none 0 0, .bool false, .int .i64 0] 27) = X := ⟨_, rfl⟩
  have gX : X.heap[w.heap.size]? = some (.cells (MC mZ nilS nilS nilS nilS) 27 (0, 0)) := by rw [← hXe]; exact heap_alloc_new _ _
  have hbX : Below w.heap.size w X := by rw [← hXe]; exact (Below.refl _ w).alloc (Nat.le_refl _) _
  have hgX : gb < X.heap.size := Nat.lt_of_lt_of_le hgw hbX.size
  have Y : ∀ j, j < 12 → ∀ x : Subtype (Below X.heap.size X), x.1.cell? ⟨gb, off + j, none⟩ = some (.int .u8 ((zs.getD j 0).toNat : Int)) := fun j hj => BelowC.cell (W := X) ((hbX.cell (p := ⟨gb, off + j, none⟩) hgw).trans (hcell j (by omega))) hgX
  have Y0 : ∀ x : Subtype (Below X.heap.size X), x.1.cell? ⟨gb, off, none⟩ = some (.int .u8 ((zs.getD 0 0).toNat : Int)) := Y 0 (by omega)
  have Y1 := Y 1 (by omega)
  have Y2 := Y 2 (by omega)
  have Y3 := Y 3 (by omega)
  have o0 := or2 (zs.getD 0 0) (zs.getD 1 0)
  have o2 := or2 (zs.getD 2 0) (zs.getD 3 0)
  have l0 := (zs.getD 0 0).toNat_lt
  have l1 := (zs.getD 1 0).toNat_lt
  have l2 := (zs.getD 2 0).toNat_lt
  have l3 := (zs.getD 3 0).toNat_lt
  have hn0 : n2 zs 0 = (zs.getD 0 0).toNat * 256 + (zs.getD 1 0).toNat := rfl
  have hn2 : n2 zs 2 = (zs.getD 2 0).toNat * 256 + (zs.getD 3 0).toNat := rfl
  have p0 : 0 < zs.length := by omega
  have p1 : (1 : Int) < (zs.length : Int) := by omega
  have p2 : (2 : Int) < (zs.length : Int) := by omega
  have p3 : (3 : Int) < (zs.length : Int) := by omega
  have hne : Nonempty (Subtype (Below X.heap.size X)) := ⟨⟨X, Below.refl _ _⟩⟩
  generalize zs.getD 0 0 = a0 at *
  generalize zs.getD 1 0 = a1 at *
  generalize zs.getD 2 0 = a2 at *
  generalize zs.getD 3 0 = a3 at *
  have q4 : IntKind.i64.wrap ((a0.toNat : Int) * 256) = (a0.toNat : Int) * 256 := wrapi (by omega) (by omega)
  have q5 : IntKind.i64.wrap (a0.toNat : Int) = (a0.toNat : Int) := wrapi (by omega) (by omega)
  have q6 : IntKind.i64.wrap (a1.toNat : Int) = (a1.toNat : Int) := wrapi (by omega) (by omega)
  have r4 : IntKind.i64.wrap ((a2.toNat : Int) * 256) = (a2.toNat : Int) * 256 := wrapi (by omega) (by omega)
  have r5 : IntKind.i64.wrap (a2.toNat : Int) = (a2.toNat : Int) := wrapi (by omega) (by omega)
  have r6 : IntKind.i64.wrap (a3.toNat : Int) = (a3.toNat : Int) := wrapi (by omega) (by omega)
  rw [← hn0] at o0
  rw [← hn2] at o2
  have b0 := n2_le zs 0
  have b2 := n2_le zs 2
  clear hn0 hn2
  generalize n2 zs 0 = i0 at *
  generalize n2 zs 2 = f0 at *
  have GX := Go.Lib.hid gX
  have HBX := Go.Lib.hid hbX
  have HZ := Go.Lib.hid hz
  have HFB := Go.Lib.hid hf
  clear gX hbX hz hf
  clear Y hcell hF
  go_enter Try.func13, Try.ntmps13
  go_wp2_with fail
  refine Go.Mix.wp_region_mixT (Es := []) 10 (Below X.heap.size X) mixed (by kernel_rfl) (Below.refl _ _).drew ?_
  iterate 10 (refine Go.Mix.mixT_step rfl (fun K hK => ?_); have HKK := Go.Lib.hid hK; clear hK; go_simp; refine HKK.out _ _ ?_; clear HKK K)
  refine Go.Mix.mixT_last rfl (fun K hK => ?_)
  have HKK := Go.Lib.hid hK
  clear hK
  go_simp
  refine HKK.out _ _ ?_
  clear HKK K
  go_wp2_with fail
  refine Go.Mix.wp_region_mixT (Es := [35]) 36 (Below X.heap.size X) mixed (by kernel_rfl) (Below.refl _ _).drew.drew ?_
  iterate 35 (refine Go.Mix.mixT_step rfl (fun K hK => ?_); have HKK := Go.Lib.hid hK; clear hK; go_simp; refine HKK.out _ _ ?_; clear HKK K)
  refine Go.Mix.mixT_eff rfl (fun K hK => ?_)
  have HKK := Go.Lib.hid hK
  clear hK
  go_simp
  refine HKK.out _ _ (((Below.refl _ _).drew.drew).alloc (by simp) _) ?_
  clear HKK K
  refine Go.Mix.mixT_last rfl (fun K hK => ?_)
  have HKK := Go.Lib.hid hK
  clear hK
  go_simp
  refine HKK.out _ _ ?_
  clear HKK K
  obtain ⟨HM, hHM⟩ : ∃ m, m = headM (i0 : Int) (f0 : Int) := ⟨_, rfl⟩
  obtain ⟨V, hV⟩ : ∃ V, (X.alloc (.cells (MC (headM (i0 : Int) (f0 : Int)) nilS nilS nilS nilS) 27)).drew.drew = V := ⟨_, rfl⟩
  show Exit.then _ _ _ _ (X.alloc (.cells (MC (headM (i0 : Int) (f0 : Int)) nilS nilS nilS nilS) 27)).drew.drew
  rw [hV]
  rw [← hHM] at hV ⊢
  have gV : V.heap[X.heap.size]? = some (.cells (MC HM nilS nilS nilS nilS) 27 (0, 0)) := by rw [← hV]; exact heap_alloc_new _ _
  have hbV : Below X.heap.size X V := by rw [← hV]; exact ((Below.refl _ X).alloc (Nat.le_refl _) _).drew.drew
  have gz : V.heap[w.heap.size]? = some (.cells (MC mZ nilS nilS nilS nilS) 27 (0, 0)) := (hbV.block _ (Array.getElem?_eq_some_iff.1 GX.out).1).trans GX.out
  have hone := msg_one HM (q := nilS) (a := nilS) (s := nilS) (d := nilS) ⟨rfl, rfl, rfl, rfl⟩
  obtain ⟨fs, hu⟩ := undMsg
  obtain ⟨O, hO⟩ : ∃ O, V.alloc (.cells (MC HM nilS nilS nilS nilS) 27) = O := ⟨_, rfl⟩
  have gO : O.heap[V.heap.size]? = some (.cells (MC HM nilS nilS nilS nilS) 27 (0, 0)) := by rw [← hO]; exact heap_alloc_new _ _
  have hbO : Below V.heap.size V O := by rw [← hO]; exact (Below.refl _ V).alloc (Nat.le_refl _) _
  have gzO := (hbO.block _ (Array.getElem?_eq_some_iff.1 gz).1).trans gz
  have hbb := HBX.out.trans ((hbV.trans (hbO.mono hbV.size)).mono HBX.out.size)
  have u1 : ¬ (4096 : Int) < (zs.length : Int) := fun h => HFB.out (.inl (by omega))
  have u2 : (bits .and .i64 ((f0 : Int) / 16) 7 != 0) = false := by
    rw [flag7 f0 (by omega)]
    cases hb : (bits .and .i64 (f0 : Int) 112 != 0) with
    | false => rfl
    | true => exact absurd (.inr hb) HFB.out
  have htw := refTwo_any (some ⟨gb, off, none⟩) cap zs 4 O (HZ.out.below hbb (Nat.le_refl _)) (by decide) hl
  rw [refTwo_n2 (show 4 + 2 ≤ zs.length by omega)] at htw
  have u3 : (4 : Int) < ((n2 zs 4 : Nat) : Int) := by omega
  generalize n2 zs 4 = c0 at *
  have GV := Go.Lib.hid gV
  have HBV := Go.Lib.hid hbV
  have GZ := Go.Lib.hid gz
  have HU := Go.Lib.hid hu
  have GO := Go.Lib.hid gO
  have GZO := Go.Lib.hid gzO
  have HBB := Go.Lib.hid hbb
  have HHM := Go.Lib.hid hHM
  have HTW := Go.Lib.hid htw
  clear gV hbV gz hu gO gzO hbb hHM htw
  clear hV hXe Y0 Y1 Y2 Y3 hbO h4
  simp only [MC] at hO
  obtain ⟨k7, hk7⟩ : ∃ k, bits .and .i64 ((f0 : Int) / 16) 7 = k := ⟨_, rfl⟩
  rw [hk7] at u2
  go_wp2_with (first | (refine wpList_load_rowG rfl 27 (.tmp 6) rfl X.heap.size rfl _ _ (0, 0) _ GV.out HU.out rfl infoMsg ?_))
  refine HTW.out.mono ?_; rintro e O2 ⟨rfl, hx2⟩
  have gO2 := (hx2.block _ (Array.getElem?_eq_some_iff.1 GO.out).1).trans GO.out
  have gz2 := (hx2.block _ (Array.getElem?_eq_some_iff.1 GZO.out).1).trans GZO.out
  have hb2 := HBB.out.trans (hx2.mono HBB.out.size)
  have GO2 := Go.Lib.hid gO2
  have GZ2 := Go.Lib.hid gz2
  have HB2 := Go.Lib.hid hb2
  clear gO2 gz2 hb2
  clear hx2 hO
  go_wp2_with (first | (refine wpList_load_rowG rfl 27 (.tmp 7) rfl V.heap.size rfl _ _ (0, 0) _ GO2.out HU.out rfl infoMsg ?_) | (refine wpList_store_row rfl 27 (.tmp 2) (.tmp 104) rfl w.heap.size (MC HM nilS nilS nilS nilS) rfl rfl _ _ GZ2.out infoMsg rfl hone ?_))
  rw [← HHM.out]
  refine ret_m3 (m := HM) rfl rfl rfl rfl rfl (setRow_heap _ _ _ _ _ _ GZ2.out) ⟨nilS, nilS, nilS, nilS, rfl, ?_, below_setRow HB2.out (Nat.le_refl _) _⟩
  rw [HHM.out]
  exact ⟨SlC.nil _ _, SlC.nil _ _, SlC.nil _ _, SlC.nil _ _⟩
end Go.Proofs.Ythfhmbooeemaaaa

/- Message: the reference's Decode: its boxes while the questions are read. -/
namespace Go.Proofs.Ythfhmbooeemaaaa
open Go.RowKit
set_option maxRecDepth 100000
set_option linter.unusedVariables false

theorem own_below {w w' : World} {base e sz n : Nat} {v : Value} {xs : List Value} (h : w.ownsRow base e sz v n xs) (hb : Below w.heap.size w w') : w'.ownsRow base e sz v n xs := by
  refine ⟨h.1, ?_⟩
  rcases h.2 with h2 | ⟨g, cap, cur, h1, h2, h3, h4⟩
  · exact .inl h2
  · exact .inr ⟨g, cap, cur, h1, h2, (hb.block _ (Array.getElem?_eq_some_iff.1 h3).1).trans h3, h4⟩
/-- the result's box, the message's, the head's; the questions so far -/
structure DQ (w : World) (b6 b7 : Nat) (HM : Msg) (l : List Qn) (qv : Value) (wr : World) : Prop where
  hb : Below w.heap.size w wr
  r2 : wr.heap[w.heap.size]? = some (.cells (MC mZ nilS nilS nilS nilS) 27 (0, 0))
  r6 : wr.heap[b6]? = some (.cells (MC HM qv nilS nilS nilS) 27 (0, 0))
  r7 : wr.heap[b7]? = some (.cells (MC HM nilS nilS nilS nilS) 27 (0, 0))
  own : wr.ownsRow (b7 + 1) 47 3 qv l.length (encQn l)
theorem DQ.below {w : World} {b6 b7 : Nat} {HM : Msg} {l : List Qn} {qv : Value} {wr wr' : World} (h : DQ w b6 b7 HM l qv wr) (hx : Below wr.heap.size wr wr') : DQ w b6 b7 HM l qv wr' := by
  have f : ∀ {j : Nat} {o : Obj}, wr.heap[j]? = some o → wr'.heap[j]? = some o := fun hj => (hx.block _ (Array.getElem?_eq_some_iff.1 hj).1).trans hj
  exact ⟨h.hb.trans (hx.mono h.hb.size), f h.r2, f h.r6, f h.r7, own_below h.own hx⟩
theorem DQ_app {w : World} {b6 b7 : Nat} {HM : Msg} {l : List Qn} {qv v1 : Value} {q : Qn} {wr W1 : World} (h : DQ w b6 b7 HM l qv wr) (h6 : w.heap.size < b6) (h7 : b6 < b7) (hg : wr.grownBy W1 qv.ownBlock)
    (hown : W1.ownsRow (b7 + 1) 47 3 v1 (l.length + 1) (encQn l ++ [.string (mk q.name), .int .i64 q.ty, .int .i64 q.cl])) :
    W1.heap[b6]? = some (.cells (MC HM qv nilS nilS nilS) 27 (0, 0)) ∧ DQ w b6 b7 HM (l ++ [q]) v1 (W1.setCell ⟨b6, 8, none⟩ v1) := by
  have f : ∀ {j : Nat} {o : Obj}, j ≤ b7 → wr.heap[j]? = some o → W1.heap[j]? = some o := fun {j o} hj ho => (hg.block j (Array.getElem?_eq_some_iff.1 ho).1 (fun e => by have := (h.own.lt j e.symm).1; omega)).trans ho
  have hr1 := f (by omega) h.r6
  have hb1 : Below w.heap.size w W1 := h.hb.grown hg h.hb.size (fun g e => by have := (h.own.lt g e).1; omega)
  refine ⟨hr1, hb1.setCell (p := ⟨b6, 8, none⟩) (by show w.heap.size ≤ b6; omega) _, (heap_set_other hr1 (by omega)).trans (f (by omega) h.r2), heap_set hr1, (heap_set_other hr1 (by omega)).trans (f (Nat.le_refl _) h.r7), ?_⟩
  have : encQn (l ++ [q]) = encQn l ++ [.string (mk q.name), .int .i64 q.ty, .int .i64 q.cl] := by
    unfold encQn
    rw [List.flatMap_append]
    rfl
  rw [this, List.length_append]
  exact World.ownsRow.setCellOther hown hr1 (by decide) _ _
/-- where a name ends, as the reference has it -/
theorem getN_nat (zs : List UInt8) (k : Nat) : (getN zs k).2.1 = ((xN zs k : Nat) : Int) := by
  unfold xN
  rcases getN_err zs k with h | h
  · have := (getN_end h).1
    omega
  · have : (getN zs k).2.1 = 0 := by
      unfold getN at *
      cases hg : getF zs (k * (zs.length + 1) + (zs.length - k) + 1) k k (-1) [] with
      | none => rfl
      | some p => obtain ⟨n, e⟩ := p; rw [hg] at h; simp [getR] at h
    rw [this]
    rfl
theorem xN_le (zs : List UInt8) (k : Nat) : xN zs k ≤ zs.length := by
  unfold xN
  rcases getN_err zs k with h | h
  · have := getN_end h
    omega
  · have : (getN zs k).2.1 = 0 := by
      unfold getN at *
      cases hg : getF zs (k * (zs.length + 1) + (zs.length - k) + 1) k k (-1) [] with
      | none => rfl
      | some p => obtain ⟨n, e⟩ := p; rw [hg] at h; simp [getR] at h
    rw [this]
    exact Nat.zero_le _
end Go.Proofs.Ythfhmbooeemaaaa

/- Message: the reference's Decode: a question that is none. -/
namespace Go.Proofs.Ythfhmbooeemaaaa
open Go.RowKit
set_option maxRecDepth 100000
set_option linter.unusedVariables false

set_option maxHeartbeats 8000000 in
theorem refDecode_noq (sa : Option Addr) (cap : Nat) (zs : List UInt8) (w : World) (hz : Byts w (.slice sa zs.length cap) zs) (hn : 12 ≤ zs.length) (hl : zs.length ≤ 1099511627776) (hf : ¬ (4096 < zs.length ∨ (bits .and .i64 (n2 zs 2) 112 != 0) = true)) (h4 : ¬ 4 < n2 zs 4) (hrun : runQ zs (n2 zs 4) ([], 12) = none) :
    Calls Try.prog 13 #[.slice sa zs.length cap] w (RefEnd w (refDec zs)) := by
  have mixed : Try.prog.follows .mixedOrders = true := by kernel_rfl
  have hF : refDec zs = (headM (n2 zs 0) (n2 zs 2), true, false) := by unfold refDec; rw [if_neg (by omega), if_neg hf, if_neg h4, hrun]
  rw [hF]
  have t1 : ¬ (zs.length : Int) < 12 := by omega
  obtain ⟨gb, off, rfl, hgw, hcell⟩ := Byts.at hz (by omega)
  obtain ⟨X, hXe⟩ : ∃ X, w.alloc (.cells #[.int .i64 0, .bool false, .int .i64 0, .bool false, .bool false, .bool false, .bool false, .int .i64 0, .slice none 0 0, .slice none 0 0, .slice none 0 0, .slice none 0 0, .bool false, .int .i64 0] 27) = X := ⟨_, rfl⟩
  have gX : X.heap[w.heap.size]? = some (.cells (MC mZ nilS nilS nilS nilS) 27 (0, 0)) := by rw [← hXe]; exact heap_alloc_new _ _
  have hbX : Below w.heap.size w X := by rw [← hXe]; exact (Below.refl _ w).alloc (Nat.le_refl _) _
  have hgX : gb < X.heap.size := Nat.lt_of_lt_of_le hgw hbX.size
  have Y : ∀ j, j < 12 → ∀ x : Subtype (Below X.heap.size X), x.1.cell? ⟨gb, off + j, none⟩ = some (.int .u8 ((zs.getD j 0).toNat : Int)) := fun j hj => BelowC.cell (W := X) ((hbX.cell (p := ⟨gb, off + j, none⟩) hgw).trans (hcell j (by omega))) hgX
  have Y0 : ∀ x : Subtype (Below X.heap.size X), x.1.cell? ⟨gb, off, none⟩ = some (.int .u8 ((zs.getD 0 0).toNat : Int)) := Y 0 (by omega)
  have Y1 := Y 1 (by omega)
  have Y2 := Y 2 (by omega)
  have Y3 := Y 3 (by omega)
  have o0 := or2 (zs.getD 0 0) (zs.getD 1 0)
  have o2 := or2 (zs.getD 2 0) (zs.getD 3 0)
  have l0 := (zs.getD 0 0).toNat_lt
  have l1 := (zs.getD 1 0).toNat_lt
  have l2 := (zs.getD 2 0).toNat_lt
  have l3 := (zs.getD 3 0).toNat_lt
  have hn0 : n2 zs 0 = (zs.getD 0 0).toNat * 256 + (zs.getD 1 0).toNat := rfl
  have hn2 : n2 zs 2 = (zs.getD 2 0).toNat * 256 + (zs.getD 3 0).toNat := rfl
  have p0 : 0 < zs.length := by omega
  have p1 : (1 : Int) < (zs.length : Int) := by omega
  have p2 : (2 : Int) < (zs.length : Int) := by omega
  have p3 : (3 : Int) < (zs.length : Int) := by omega
  have hne : Nonempty (Subtype (Below X.heap.size X)) := ⟨⟨X, Below.refl _ _⟩⟩
  generalize zs.getD 0 0 = a0 at *
  generalize zs.getD 1 0 = a1 at *
  generalize zs.getD 2 0 = a2 at *
  generalize zs.getD 3 0 = a3 at *
  have q4 : IntKind.i64.wrap ((a0.toNat : Int) * 256) = (a0.toNat : Int) * 256 := wrapi (by omega) (by omega)
  have q5 : IntKind.i64.wrap (a0.toNat : Int) = (a0.toNat : Int) := wrapi (by omega) (by omega)
  have q6 : IntKind.i64.wrap (a1.toNat : Int) = (a1.toNat : Int) := wrapi (by omega) (by omega)
  have r4 : IntKind.i64.wrap ((a2.toNat : Int) * 256) = (a2.toNat : Int) * 256 := wrapi (by omega) (by omega)
  have r5 : IntKind.i64.wrap (a2.toNat : Int) = (a2.toNat : Int) := wrapi (by omega) (by omega)
  have r6 : IntKind.i64.wrap (a3.toNat : Int) = (a3.toNat : Int) := wrapi (by omega) (by omega)
  rw [← hn0] at o0
  rw [← hn2] at o2
  have b0 := n2_le zs 0
  have b2 := n2_le zs 2
  clear hn0 hn2
  generalize n2 zs 0 = i0 at *
  generalize n2 zs 2 = f0 at *
  have GX := Go.Lib.hid gX
  have HBX := Go.Lib.hid hbX
  have HZ := Go.Lib.hid hz
  have HFB := Go.Lib.hid hf
  clear gX hbX hz hf
  clear Y hcell hF
  go_enter Try.func13, Try.ntmps13
  go_wp2_with fail
  refine Go.Mix.wp_region_mixT (Es := []) 10 (Below X.heap.size X) mixed (by kernel_rfl) (Below.refl _ _).drew ?_
  iterate 10 (refine Go.Mix.mixT_step rfl (fun K hK => ?_); have HKK := Go.Lib.hid hK; clear hK; go_simp; refine HKK.out _ _ ?_; clear HKK K)
  refine Go.Mix.mixT_last rfl (fun K hK => ?_)
  have HKK := Go.Lib.hid hK
  clear hK
  go_simp
  refine HKK.out _ _ ?_
  clear HKK K
  go_wp2_with fail
  refine Go.Mix.wp_region_mixT (Es := [35]) 36 (Below X.heap.size X) mixed (by kernel_rfl) (Below.refl _ _).drew.drew ?_
  iterate 35 (refine Go.Mix.mixT_step rfl (fun K hK => ?_); have HKK := Go.Lib.hid hK; clear hK; go_simp; refine HKK.out _ _ ?_; clear HKK K)
  refine Go.Mix.mixT_eff rfl (fun K hK => ?_)
  have HKK := Go.Lib.hid hK
  clear hK
  go_simp
  refine HKK.out _ _ (((Below.refl _ _).drew.drew).alloc (by simp) _) ?_
  clear HKK K
  refine Go.Mix.mixT_last rfl (fun K hK => ?_)
  have HKK := Go.Lib.hid hK
  clear hK
  go_simp
  refine HKK.out _ _ ?_
  clear HKK K
  obtain ⟨HM, hHM⟩ : ∃ m, m = headM (i0 : Int) (f0 : Int) := ⟨_, rfl⟩
  obtain ⟨V, hV⟩ : ∃ V, (X.alloc (.cells (MC (headM (i0 : Int) (f0 : Int)) nilS nilS nilS nilS) 27)).drew.drew = V := ⟨_, rfl⟩
  show Exit.then _ _ _ _ (X.alloc (.cells (MC (headM (i0 : Int) (f0 : Int)) nilS nilS nilS nilS) 27)).drew.drew
  rw [hV]
  rw [← hHM] at hV ⊢
  have gV : V.heap[X.heap.size]? = some (.cells (MC HM nilS nilS nilS nilS) 27 (0, 0)) := by rw [← hV]; exact heap_alloc_new _ _
  have hbV : Below X.heap.size X V := by rw [← hV]; exact ((Below.refl _ X).alloc (Nat.le_refl _) _).drew.drew
  have gz : V.heap[w.heap.size]? = some (.cells (MC mZ nilS nilS nilS nilS) 27 (0, 0)) := (hbV.block _ (Array.getElem?_eq_some_iff.1 GX.out).1).trans GX.out
  have hone := msg_one HM (q := nilS) (a := nilS) (s := nilS) (d := nilS) ⟨rfl, rfl, rfl, rfl⟩
  obtain ⟨fs, hu⟩ := undMsg
  obtain ⟨O, hO⟩ : ∃ O, V.alloc (.cells (MC HM nilS nilS nilS nilS) 27) = O := ⟨_, rfl⟩
  have gO : O.heap[V.heap.size]? = some (.cells (MC HM nilS nilS nilS nilS) 27 (0, 0)) := by rw [← hO]; exact heap_alloc_new _ _
  have hbO : Below V.heap.size V O := by rw [← hO]; exact (Below.refl _ V).alloc (Nat.le_refl _) _
  have gzO := (hbO.block _ (Array.getElem?_eq_some_iff.1 gz).1).trans gz
  have hbb := HBX.out.trans ((hbV.trans (hbO.mono hbV.size)).mono HBX.out.size)
  have u1 : ¬ (4096 : Int) < (zs.length : Int) := fun h => HFB.out (.inl (by omega))
  have u2 : (bits .and .i64 ((f0 : Int) / 16) 7 != 0) = false := by
    rw [flag7 f0 (by omega)]
    cases hb : (bits .and .i64 (f0 : Int) 112 != 0) with
    | false => rfl
    | true => exact absurd (.inr hb) HFB.out
  have htw := refTwo_any (some ⟨gb, off, none⟩) cap zs 4 O (HZ.out.below hbb (Nat.le_refl _)) (by decide) hl
  rw [refTwo_n2 (show 4 + 2 ≤ zs.length by omega)] at htw
  have u3 : ¬ (4 : Int) < ((n2 zs 4 : Nat) : Int) := by omega
  have hX6 : w.heap.size < X.heap.size := by rw [← hXe]; simp
  have hX7 : X.heap.size < V.heap.size := (Array.getElem?_eq_some_iff.1 gV).1
  have hOs : V.heap.size + 1 = O.heap.size := by rw [← hO]; simp
  have hc0 := n2_le zs 4
  generalize n2 zs 4 = c0 at *
  have HC0 := Go.Lib.hid hc0
  have GV := Go.Lib.hid gV
  have HBV := Go.Lib.hid hbV
  have GZ := Go.Lib.hid gz
  have HU := Go.Lib.hid hu
  have GO := Go.Lib.hid gO
  have GZO := Go.Lib.hid gzO
  have HBB := Go.Lib.hid hbb
  have HHM := Go.Lib.hid hHM
  have HTW := Go.Lib.hid htw
  have HX6 := Go.Lib.hid hX6
  have HX7 := Go.Lib.hid hX7
  have HOS := Go.Lib.hid hOs
  have HRUN := Go.Lib.hid hrun
  clear gV hbV gz hu gO gzO hbb hHM htw hX6 hX7 hOs hrun
  clear hV hXe Y0 Y1 Y2 Y3 hbO h4
  simp only [MC] at hO
  obtain ⟨k7, hk7⟩ : ∃ k, bits .and .i64 ((f0 : Int) / 16) 7 = k := ⟨_, rfl⟩
  rw [hk7] at u2
  go_wp2_with (first | (refine wpList_load_rowG rfl 27 (.tmp 6) rfl X.heap.size rfl _ _ (0, 0) _ GV.out HU.out rfl infoMsg ?_))
  refine HTW.out.mono ?_; rintro e O2 ⟨rfl, hx2⟩
  have hdq0 : DQ w X.heap.size V.heap.size HM [] nilS O2 := by
    have hd : DQ w X.heap.size V.heap.size HM [] nilS O := ⟨HBB.out, GZO.out, ((by rw [← hO]; exact heap_old GV.out _) : O.heap[X.heap.size]? = _), GO.out, World.ownsRow_nil _ _ _ _⟩
    exact hd.below hx2
  have hos2 : V.heap.size + 1 ≤ O2.heap.size := by have := hx2.size; have := HOS.out; omega
  have HDQ0 := Go.Lib.hid hdq0
  have HOS2 := Go.Lib.hid hos2
  clear hdq0 hos2
  clear hx2 hO GV GZ GO GZO HBV HTW
  go_wp2_with fail
  have hl5 : zs.length ≤ 4096 := by omega
  clear u1 u2 u3 o0 o2 p1 p2 p3 q4 q5 q6 r4 r5 r6 hk7
  go_loopw [10, 11] (fun a i wr => ∃ (j k : Nat) (l : List Qn) (qv : Value), a = .int .i64 (k : Int) ∧ i = .int .i64 (j : Int) ∧ j ≤ c0 ∧ l.length = j ∧ k ≤ zs.length ∧ runQ zs (c0 - j) (l, k) = none ∧ DQ w X.heap.size V.heap.size HM l qv wr ∧ V.heap.size + 1 ≤ wr.heap.size) (fun _ i _ => c0 - (intOf i).toNat)
  case atStart => exact ⟨0, 12, [], _, rfl, rfl, Nat.zero_le _, rfl, hn, HRUN.out, HDQ0.out, HOS2.out⟩
  case round =>
    clear HDQ0 HOS2 HRUN
    obtain ⟨j, k, l, qv, rfl, rfl, hj, hlen, hk, hrun, hdq, hws⟩ := hrel
    by_cases hlt : j < c0
    · have t2 : (j : Int) < (c0 : Int) := by omega
      have hxl := xN_le zs k
      have hget : Calls Try.prog 29 #[.slice (some ⟨gb, off, none⟩) zs.length cap, .int .i64 (k : Int)] wr fun e w' => e = .returned (.tuple #[.string (mk (getN zs k).1), .int .i64 ((xN zs k : Nat) : Int), .bool ((getN zs k).2.2 == 0)]) ∧ Below wr.heap.size wr w' := by
        have h := refGet_any gb off cap zs k wr (HZ.out.below hdq.hb (Nat.le_refl _)) hk hl
        rw [← getN_nat]
        exact h
      have htw1 := fun (W : World) (h : Below w.heap.size w W) => refTwo_any (some ⟨gb, off, none⟩) cap zs (xN zs k) W (HZ.out.below h (Nat.le_refl _)) (by omega) hl
      have htw2 := fun (W : World) (h : Below w.heap.size w W) => refTwo_any (some ⟨gb, off, none⟩) cap zs (xN zs k + 2) W (HZ.out.below h (Nat.le_refl _)) (by omega) hl
      have w1 : IntKind.i64.wrap ((xN zs k : Int) + 2) = (xN zs k : Int) + 2 := wrapi (by omega) (by omega)
      have w2 : IntKind.i64.wrap ((xN zs k : Int) + 4) = (xN zs k : Int) + 4 := wrapi (by omega) (by omega)
      have w3 : IntKind.i64.wrap ((j : Int) + 1) = (j : Int) + 1 := wrapi (by omega) (by omega)
      rw [show c0 - j = (c0 - (j + 1)) + 1 by omega, runQ] at hrun
      unfold stepQ at hrun
      simp only at hrun
      by_cases hq : qsOk zs k
      · subst hlen
        simp only [if_pos hq, Option.bind_some] at hrun
        have hok : ((getN zs k).2.2 == 0) = true := beq_iff_eq.2 hq.1
        have hq2 := hq.2
        simp only [refTwo_n2 (show xN zs k + 2 ≤ zs.length by omega)] at htw1
        simp only [refTwo_n2 (show xN zs k + 2 + 2 ≤ zs.length by omega)] at htw2
        rw [hok] at hget
        unfold tN cN at hrun
        obtain ⟨av, cv, rfl, _, _⟩ := (SlC.of_owns hdq.own).slice
        have HDQ := Go.Lib.hid hdq
        have HGET := Go.Lib.hid hget
        have HT1 := Go.Lib.hid htw1
        have HT2 := Go.Lib.hid htw2
        have HRUN2 := Go.Lib.hid hrun
        have HWS := Go.Lib.hid hws
        clear hdq hget htw1 htw2 hrun hws
        clear hq hok
        generalize (getN zs k).1 = nm at *
        generalize n2 zs (xN zs k) = ty at *
        generalize n2 zs (xN zs k + 2) = cl at *
        generalize xN zs k = x at *
        go_wp2_with fail
        refine HGET.out.mono ?_; rintro e W1 ⟨rfl, hx1⟩
        have hd1 := HDQ.out.below hx1
        have hc1 := HT1.out W1 hd1.hb
        have hs1 := Nat.le_trans HWS.out hx1.size
        have HD1 := Go.Lib.hid hd1
        have HC1 := Go.Lib.hid hc1
        clear hd1 hc1
        clear hx1
        go_wp2_with fail
        refine HC1.out.mono ?_; rintro e W2 ⟨rfl, hx2⟩
        have hd2 := HD1.out.below hx2
        have hc2 := HT2.out W2 hd2.hb
        have hs2 := Nat.le_trans hs1 hx2.size
        have HD2 := Go.Lib.hid hd2
        have HC2 := Go.Lib.hid hc2
        clear hd2 hc2
        clear hx2 hs1
        go_wp2_with fail
        refine HC2.out.mono ?_; rintro e W3 ⟨rfl, hx3⟩
        have hd3 := HD2.out.below hx3
        have hs3 := Nat.le_trans hs2 hx3.size
        have c8 : W3.cell? ⟨X.heap.size, 8, none⟩ = some (.slice av l.length cv) := row_cell hd3.r6 8 _ rfl
        have hd4 := hd3.below ((Below.refl _ W3).alloc (Nat.le_refl _) (.cells #[.string (mk nm), .int .i64 (ty : Int), .int .i64 (cl : Int)] 47))
        have HD4 := Go.Lib.hid hd4
        clear hd4
        clear hx3 hd3 hs2 HDQ HD1 HD2 HGET HT1 HT2 HC1 HC2
        have hlen5 : l.length ≤ 65535 := by have := HC0.out; omega
        go_wp2_with (at_builtin; refine wpList_app1 eiQn (.tmp 142) (.tmp 147) rfl rfl (V.heap.size + 1) rfl rfl HD4.out.own (news := [.string (mk nm), .int .i64 (ty : Int), .int .i64 (cl : Int)]) rfl (new_cells _ _ _) (one_qs [⟨nm, (ty : Int), (cl : Int)⟩]) (by unfold maxLen; omega) (by omega) (by simp; omega) ?_; intro v1 W5 hown hg hsn; obtain ⟨g5, c5, rfl⟩ := ownsRow_succ hown; obtain ⟨hr5, hdq5⟩ := DQ_app (q := ⟨nm, (ty : Int), (cl : Int)⟩) HD4.out HX6.out HX7.out hg hown; have o9 : W5.cell? ⟨X.heap.size, 8, none⟩ = some (.slice av l.length cv) := row_cell hr5 8 _ rfl; have z9 : W5.frozen? ⟨X.heap.size, 8, none⟩ = false := row_frozen hr5 8; have hs5 : V.heap.size + 1 ≤ (W5.setCell ⟨X.heap.size, 8, none⟩ (.slice (some ⟨g5, 0, none⟩) (l.length + 1) c5)).heap.size := (by have := hg.size; simp at *; omega); have HDQ5 := Go.Lib.hid hdq5; have HS5 := Go.Lib.hid hs5; clear hdq5 hs5 hr5 hown hg hsn)
        go_roundw
        case rel => exact ⟨l.length + 1, x + 4, l ++ [⟨nm, (ty : Int), (cl : Int)⟩], _, by go_num, by go_num, by omega, by rw [List.length_append]; rfl, by omega, HRUN2.out, HDQ5.out, HS5.out⟩
        case measure => simp [intOf]; omega
      · have hcs : ((getN zs k).2.2 == 0) = false ∨ (((getN zs k).2.2 == 0) = true ∧ (refTwo zs (xN zs k)).2 = false) ∨ (((getN zs k).2.2 == 0) = true ∧ (refTwo zs (xN zs k)).2 = true ∧ (refTwo zs (xN zs k + 2)).2 = false) := by
          rw [refTwo_ok, refTwo_ok]
          cases hb : ((getN zs k).2.2 == 0) with
          | false => exact .inl rfl
          | true =>
            right
            by_cases h2 : xN zs k + 2 ≤ zs.length
            · refine .inr ⟨rfl, decide_eq_true h2, decide_eq_false fun h4 => hq ⟨beq_iff_eq.1 hb, by omega⟩⟩
            · exact .inl ⟨rfl, decide_eq_false h2⟩
        have HDQ := Go.Lib.hid hdq
        have HGET := Go.Lib.hid hget
        have HT1 := Go.Lib.hid htw1
        have HT2 := Go.Lib.hid htw2
        clear hdq hget htw1 htw2
        clear hrun hq
        generalize (getN zs k).1 = nm at *
        generalize ((getN zs k).2.2 == 0) = b1 at *
        generalize refTwo zs (xN zs k) = R1 at *
        generalize refTwo zs (xN zs k + 2) = R2 at *
        obtain ⟨v1, b2⟩ := R1
        obtain ⟨v2, b3⟩ := R2
        simp only at hcs
        generalize xN zs k = x at *
        go_wp2_with fail
        refine HGET.out.mono ?_; rintro e W1 ⟨rfl, hx1⟩
        have hd1 := HDQ.out.below hx1
        have hc1 := HT1.out W1 hd1.hb
        have HD1 := Go.Lib.hid hd1
        have HC1 := Go.Lib.hid hc1
        clear hd1 hc1
        clear hx1
        go_wp2_with fail
        refine HC1.out.mono ?_; rintro e W2 ⟨rfl, hx2⟩
        have hd2 := HD1.out.below hx2
        have hc2 := HT2.out W2 hd2.hb
        have HD2 := Go.Lib.hid hd2
        have HC2 := Go.Lib.hid hc2
        clear hd2 hc2
        clear hx2
        go_wp2_with fail
        refine HC2.out.mono ?_; rintro e W3 ⟨rfl, hx3⟩
        have hd3 := HD2.out.below hx3
        have HR7 := Go.Lib.hid hd3.r7
        have HR2 := Go.Lib.hid hd3.r2
        have HB3 := Go.Lib.hid hd3.hb
        clear hx3 hd3
        rcases hcs with rfl | ⟨rfl, rfl⟩ | ⟨rfl, rfl, rfl⟩
        all_goals
          go_wp2_with (first | (refine wpList_load_rowG rfl 27 (.tmp 7) rfl V.heap.size rfl _ _ (0, 0) _ HR7.out HU.out rfl infoMsg ?_) | (refine wpList_store_row rfl 27 (.tmp 2) (.tmp 140) rfl w.heap.size (MC HM nilS nilS nilS nilS) rfl rfl _ _ HR2.out infoMsg rfl hone ?_))
          rw [← HHM.out]
          refine ret_m3 (m := HM) rfl rfl rfl rfl rfl (setRow_heap _ _ _ _ _ _ HR2.out) ⟨nilS, nilS, nilS, nilS, rfl, ?_, below_setRow HB3.out (Nat.le_refl _) _⟩
          rw [HHM.out]
          exact ⟨SlC.nil _ _, SlC.nil _ _, SlC.nil _ _, SlC.nil _ _⟩
    · obtain rfl : j = c0 := by omega
      rw [Nat.sub_self] at hrun
      cases hrun
end Go.Proofs.Ythfhmbooeemaaaa

/- Message: the reference's Decode: the sections as one function, and its boxes while the records are read. -/
namespace Go.Proofs.Ythfhmbooeemaaaa
open Go.RowKit
set_option maxRecDepth 100000
set_option linter.unusedVariables false

def updL {α : Type} (L : Nat → α) (i : Nat) (l : α) : Nat → α := fun j => if j = i then l else L j
theorem updL_at {α : Type} (L : Nat → α) (i : Nat) (l : α) : updL L i l i = l := if_pos rfl
theorem updL_ne {α : Type} (L : Nat → α) {i j : Nat} (l : α) (h : j ≠ i) : updL L i l j = L j := if_neg h
theorem updL_self {α : Type} (L : Nat → α) (i : Nat) : updL L i (L i) = L := by
  funext j
  unfold updL
  split
  · rename_i h; rw [h]
  · rfl
theorem updL_updL {α : Type} (L : Nat → α) (i : Nat) (a b : α) : updL (updL L i a) i b = updL L i b := by
  funext j
  unfold updL
  split <;> rfl
/-- the sections that are left -/
def goS (zs : List UInt8) (HM : Msg) (ql : List Qn) : Nat → (Nat → List Rc.RR) → Bool → Int → Nat → Msg × Bool × Bool
  | 0, L, E, Z, k => if k = zs.length then (bdM HM ql (L 0) (L 1) (L 2) E Z, true, true) else (HM, true, false)
  | m + 1, L, E, Z, k => match runR zs (2 - m) (n2 zs (6 + 2 * (2 - m))) (L (2 - m), E, Z, k) with
    | none => (HM, true, false)
    | some s => goS zs HM ql m (updL L (2 - m) s.1) s.2.1 s.2.2.1 s.2.2.2
/-- within a section -/
def inS (zs : List UInt8) (HM : Msg) (ql : List Qn) (n j : Nat) (L : Nat → List Rc.RR) (E : Bool) (Z : Int) (k : Nat) : Msg × Bool × Bool :=
  match runR zs n j (L n, E, Z, k) with
  | none => (HM, true, false)
  | some s => goS zs HM ql (2 - n) (updL L n s.1) s.2.1 s.2.2.1 s.2.2.2
theorem goS_in {zs : List UInt8} {HM : Msg} {ql : List Qn} {n : Nat} {L : Nat → List Rc.RR} {E : Bool} {Z : Int} {k : Nat} (h : n < 3) : goS zs HM ql (3 - n) L E Z k = inS zs HM ql n (n2 zs (6 + 2 * n)) L E Z k := by
  match n, h with
  | 0, _ => rfl
  | 1, _ => rfl
  | 2, _ => rfl
theorem goS_end {zs : List UInt8} {HM : Msg} {ql : List Qn} {L : Nat → List Rc.RR} {E : Bool} {Z : Int} {k : Nat} : goS zs HM ql (3 - 3) L E Z k = if k = zs.length then (bdM HM ql (L 0) (L 1) (L 2) E Z, true, true) else (HM, true, false) := rfl
theorem inS_zero {zs : List UInt8} {HM : Msg} {ql : List Qn} {n : Nat} {L : Nat → List Rc.RR} {E : Bool} {Z : Int} {k : Nat} (h : n < 3) : inS zs HM ql n 0 L E Z k = goS zs HM ql (3 - (n + 1)) L E Z k := by
  unfold inS
  rw [runR]
  simp only [updL_self]
  rw [show 2 - n = 3 - (n + 1) by omega]
theorem inS_no {zs : List UInt8} {HM : Msg} {ql : List Qn} {n j : Nat} {L : Nat → List Rc.RR} {E : Bool} {Z : Int} {k : Nat} (h : stepR zs n (L n, E, Z, k) = none) : inS zs HM ql n (j + 1) L E Z k = (HM, true, false) := by
  unfold inS
  rw [runR, h]
  rfl
theorem inS_some {zs : List UInt8} {HM : Msg} {ql : List Qn} {n j : Nat} {L : Nat → List Rc.RR} {E : Bool} {Z : Int} {k : Nat} {s : RSt} (h : stepR zs n (L n, E, Z, k) = some s) : inS zs HM ql n (j + 1) L E Z k = inS zs HM ql n j (updL L n s.1) s.2.1 s.2.2.1 s.2.2.2 := by
  unfold inS
  rw [runR, h, updL_at]
  simp only [Option.bind_some, updL_updL]
theorem refDec_some {zs : List UInt8} {ql : List Qn} {k1 : Nat} (h12 : 12 ≤ zs.length) (hf : ¬ (4096 < zs.length ∨ (bits .and .i64 (n2 zs 2) 112 != 0) = true)) (h4 : ¬ 4 < n2 zs 4) (hrun : runQ zs (n2 zs 4) ([], 12) = some (ql, k1)) :
    refDec zs = goS zs (headM (n2 zs 0) (n2 zs 2)) ql (3 - 0) (fun _ => []) false 0 k1 := by
  unfold refDec
  rw [if_neg (by omega), if_neg hf, if_neg h4, hrun]
  simp only [goS]
  cases h0 : runR zs 0 (n2 zs 6) ([], false, 0, k1) with
  | none => rfl
  | some a =>
    simp only
    cases h1 : runR zs 1 (n2 zs 8) ([], a.2.1, a.2.2.1, a.2.2.2) with
    | none => simp [updL, h1]
    | some s =>
      simp only
      cases h2 : runR zs 2 (n2 zs 10) ([], s.2.1, s.2.2.1, s.2.2.2) with
      | none => simp [updL, h1, h2]
      | some d => simp [updL, h1, h2]
theorem num4_l {zs : List UInt8} {x : Nat} {a b c e : UInt8} (h : (zs.drop (x + 4)).take 4 = [a, b, c, e]) : (num4 a b c e : Int) = (n2 zs (x + 4) : Int) * 65536 + (n2 zs (x + 6) : Int) := by
  have g : ∀ j, j < 4 → zs.getD (x + 4 + j) 0 = [a, b, c, e].getD j 0 := fun j hj => by
    rw [← h, List.getD_eq_getElem?_getD, List.getD_eq_getElem?_getD, List.getElem?_take_of_lt hj, List.getElem?_drop]
  have g0 := g 0 (by omega)
  have g1 := g 1 (by omega)
  have g2 := g 2 (by omega)
  have g3 := g 3 (by omega)
  unfold num4 n2
  rw [show x + 6 = x + 4 + 2 from rfl, show zs.getD (x + 4) 0 = a from g0, g1, g2, show x + 4 + 2 + 1 = x + 4 + 3 from rfl, g3]
  simp only [List.getD_cons_zero, List.getD_cons_succ]
  omega
/-- a record that tells of EDNS -/
theorem stepR_opt {zs : List UInt8} {n k : Nat} {l : List Rc.RR} {E : Bool} {Z : Int} (hr : recOk zs k) (ht : n2 zs (xN zs k) = 41) :
    stepR zs n (l, E, Z, k) = if n ≠ 2 ∨ (getN zs k).1 ≠ [0] ∨ E = true then none else some (l, true, (n2 zs (xN zs k + 2) : Int), xN zs k + 10 + n2 zs (xN zs k + 8)) := by
  unfold stepR
  simp only
  rw [if_pos hr, if_pos (show tN zs k = 41 by unfold tN; omega)]
  rfl
/-- any other record -/
theorem stepR_rec {zs : List UInt8} {n k : Nat} {l : List Rc.RR} {E : Bool} {Z : Int} (hr : recOk zs k) (ht : n2 zs (xN zs k) ≠ 41) :
    stepR zs n (l, E, Z, k) = match refDataN zs (xN zs k + 10) (n2 zs (xN zs k + 8)) (n2 zs (xN zs k) : Int) with
      | none => none
      | some d => if checkB ⟨(getN zs k).1, (n2 zs (xN zs k) : Int), (n2 zs (xN zs k + 2) : Int), tl ((n2 zs (xN zs k + 4) : Int) * 65536 + (n2 zs (xN zs k + 6) : Int)), d⟩ = true ∧ l.length < 64 then some (l ++ [⟨(getN zs k).1, (n2 zs (xN zs k) : Int), (n2 zs (xN zs k + 2) : Int), tl ((n2 zs (xN zs k + 4) : Int) * 65536 + (n2 zs (xN zs k + 6) : Int)), d⟩], E, Z, xN zs k + 10 + n2 zs (xN zs k + 8)) else none := by
  unfold stepR
  simp only
  rw [if_pos hr, if_neg (show ¬ tN zs k = 41 by unfold tN; omega)]
  rfl
/-- how a record may be none -/
theorem rec_bad {zs : List UInt8} {k : Nat} (hr : ¬ recOk zs k) : ((getN zs k).2.2 == 0) = false ∨ (((getN zs k).2.2 == 0) = true ∧ (refTwo zs (xN zs k)).2 = false) ∨ (((getN zs k).2.2 == 0) = true ∧ (refTwo zs (xN zs k)).2 = true ∧ (refTwo zs (xN zs k + 2)).2 = false) ∨
    (((getN zs k).2.2 == 0) = true ∧ (refTwo zs (xN zs k)).2 = true ∧ (refTwo zs (xN zs k + 2)).2 = true ∧ (refTwo zs (xN zs k + 8)).2 = false) ∨ (((getN zs k).2.2 == 0) = true ∧ (refTwo zs (xN zs k)).2 = true ∧ (refTwo zs (xN zs k + 2)).2 = true ∧ (refTwo zs (xN zs k + 8)).2 = true ∧ (zs.length : Int) - (xN zs k : Int) - 10 < (refTwo zs (xN zs k + 8)).1) := by
  rw [refTwo_ok, refTwo_ok, refTwo_ok]
  cases hb : ((getN zs k).2.2 == 0) with
  | false => exact .inl rfl
  | true =>
    right
    by_cases h2 : xN zs k + 2 ≤ zs.length
    · by_cases h4 : xN zs k + 2 + 2 ≤ zs.length
      · by_cases h8 : xN zs k + 8 + 2 ≤ zs.length
        · refine .inr (.inr (.inr ⟨rfl, decide_eq_true h2, decide_eq_true h4, decide_eq_true h8, ?_⟩))
          rw [refTwo_n2 h8]
          have : ¬ xN zs k + 10 + n2 zs (xN zs k + 8) ≤ zs.length := fun h => hr ⟨beq_iff_eq.1 hb, by omega, h⟩
          simp only
          omega
        · exact .inr (.inr (.inl ⟨rfl, decide_eq_true h2, decide_eq_true h4, decide_eq_false h8⟩))
      · exact .inr (.inl ⟨rfl, decide_eq_true h2, decide_eq_false h4⟩)
    · exact .inl ⟨rfl, decide_eq_false h2⟩
theorem getN_len {zs : List UInt8} {k : Nat} (h : (getN zs k).2.2 = 0) : (getN zs k).1.length ≤ 255 := by
  have := rdName_len zs k false
  rw [rdName_get, if_pos h] at this
  exact this
theorem refDataN_len {zs : List UInt8} {k n : Nat} {t : Int} {d : List UInt8} (hk : k + n ≤ zs.length) (h : refDataN zs k n t = some d) : d.length ≤ 2 * zs.length + 510 := by
  have := rdData_len zs t n k false
  rw [(data_ref hk).1 d h] at this
  exact this
/-- the message so far, EDNS told -/
def setE (m : Msg) (E : Bool) (Z : Int) : Msg := ⟨m.id, m.resp, m.op, m.auth, m.cut, m.des, m.avail, m.code, m.qs, m.an, m.sv, m.ad, E, Z⟩
/-- the result's, the message's, the head's, and the lists' box; the records so far -/
structure RQ (w : World) (b6 b7 b9 : Nat) (HM : Msg) (ql : List Qn) (qv : Value) (V : Nat → Value) (L : Nat → List Rc.RR) (E : Bool) (Z : Int) (wr : World) : Prop where
  hb : Below w.heap.size w wr
  r2 : wr.heap[w.heap.size]? = some (.cells (MC mZ nilS nilS nilS nilS) 27 (0, 0))
  r6 : wr.heap[b6]? = some (.cells (MC (setE HM E Z) qv nilS nilS nilS) 27 (0, 0))
  r7 : wr.heap[b7]? = some (.cells (MC HM nilS nilS nilS nilS) 27 (0, 0))
  r9 : wr.heap[b9]? = some (.cells #[V 0, V 1, V 2] 69 (0, 0))
  qs : wr.ownsRow (b7 + 1) 47 3 qv ql.length (encQn ql)
  own : ∀ i, i < 3 → wr.ownsRow (b9 + 1) 45 5 (V i) (L i).length (encR (L i))
  apart : ∀ i j, i < 3 → j < 3 → i ≠ j → (V i).ownBlock = none ∨ (V i).ownBlock ≠ (V j).ownBlock
theorem RQ.below {w : World} {b6 b7 b9 : Nat} {HM : Msg} {ql : List Qn} {qv : Value} {V : Nat → Value} {L : Nat → List Rc.RR} {E : Bool} {Z : Int} {wr wr' : World} (h : RQ w b6 b7 b9 HM ql qv V L E Z wr) (hx : Below wr.heap.size wr wr') : RQ w b6 b7 b9 HM ql qv V L E Z wr' := by
  have f : ∀ {j : Nat} {o : Obj}, wr.heap[j]? = some o → wr'.heap[j]? = some o := fun hj => (hx.block _ (Array.getElem?_eq_some_iff.1 hj).1).trans hj
  exact ⟨h.hb.trans (hx.mono h.hb.size), f h.r2, f h.r6, f h.r7, f h.r9, own_below h.qs hx, fun i hi => own_below (h.own i hi) hx, h.apart⟩
/-- a list's cell -/
theorem RQ.cell {w : World} {b6 b7 b9 : Nat} {HM : Msg} {ql : List Qn} {qv : Value} {V : Nat → Value} {L : Nat → List Rc.RR} {E : Bool} {Z : Int} {wr : World} (h : RQ w b6 b7 b9 HM ql qv V L E Z wr) {i : Nat} (hi : i < 3) : wr.cell? ⟨b9, i, none⟩ = some (V i) := by
  match i, hi with
  | 0, _ => exact row_cell h.r9 0 _ rfl
  | 1, _ => exact row_cell h.r9 1 _ rfl
  | 2, _ => exact row_cell h.r9 2 _ rfl
theorem RQ_start {w wr : World} {b6 b7 : Nat} {HM : Msg} {ql : List Qn} {qv : Value} (h : DQ w b6 b7 HM ql qv wr) (hE : HM.edns = false) (hZ : HM.size = 0) :
    RQ w b6 b7 wr.heap.size HM ql qv (fun _ => nilS) (fun _ => []) false 0 (wr.alloc (.cells #[nilS, nilS, nilS] 69)) := by
  have f : ∀ {j : Nat} {o : Obj}, wr.heap[j]? = some o → (wr.alloc (.cells #[nilS, nilS, nilS] 69)).heap[j]? = some o := fun hj => heap_old hj _
  have e6 : setE HM false 0 = HM := by unfold setE; rw [← hE, ← hZ]
  exact ⟨h.hb.alloc h.hb.size _, f h.r2, by rw [e6]; exact f h.r6, f h.r7, heap_alloc_new _ _, h.own.alloc _, fun i _ => World.ownsRow_nil _ _ _ _, fun i j _ _ _ => .inl rfl⟩
/-- EDNS is told -/
theorem RQ.edns {w : World} {b6 b7 b9 : Nat} {HM : Msg} {ql : List Qn} {qv : Value} {V : Nat → Value} {L : Nat → List Rc.RR} {E : Bool} {Z : Int} {wr : World} (h : RQ w b6 b7 b9 HM ql qv V L E Z wr) (h6 : w.heap.size < b6) (h7 : b6 < b7) (h9 : b7 < b9) (E' : Bool) (Z' : Int) :
    RQ w b6 b7 b9 HM ql qv V L E' Z' ((wr.setCell ⟨b6, 12, none⟩ (.bool E')).setCell ⟨b6, 13, none⟩ (.int .i64 Z')) := by
  have e1 : wr.setCell ⟨b6, 12, none⟩ (.bool E') = wr.setRow b6 (MC (setE HM E' Z) qv nilS nilS nilS) := setCell_eq_setRow wr b6 12 _ _ (0, 0) _ h.r6
  have r61 : (wr.setRow b6 (MC (setE HM E' Z) qv nilS nilS nilS)).heap[b6]? = some (.cells (MC (setE HM E' Z) qv nilS nilS nilS) 27 (0, 0)) := setRow_heap _ _ _ _ _ _ h.r6
  have e2 : (wr.setRow b6 (MC (setE HM E' Z) qv nilS nilS nilS)).setCell ⟨b6, 13, none⟩ (.int .i64 Z') = (wr.setRow b6 (MC (setE HM E' Z) qv nilS nilS nilS)).setRow b6 (MC (setE HM E' Z') qv nilS nilS nilS) := setCell_eq_setRow _ b6 13 _ _ (0, 0) _ r61
  rw [e1, e2]
  obtain ⟨W, hW⟩ : ∃ W, (wr.setRow b6 (MC (setE HM E' Z) qv nilS nilS nilS)).setRow b6 (MC (setE HM E' Z') qv nilS nilS nilS) = W := ⟨_, rfl⟩
  have hoth : ∀ q, q ≠ b6 → W.heap[q]? = wr.heap[q]? := fun q hq => by rw [← hW, setRow_other _ _ _ _ hq, setRow_other _ _ _ _ hq]
  have hsz : W.heap.size = wr.heap.size := by rw [← hW, setRow_size, setRow_size]
  have hkp : wr.grownBy W (some b6) := ⟨by rw [← hW]; rfl, by rw [← hW]; rfl, by rw [← hW]; rfl, by rw [hsz]; exact Nat.le_refl _, fun q hq hne => hoth q (fun e => hne (by rw [e]))⟩
  have r62 : W.heap[b6]? = some (.cells (MC (setE HM E' Z') qv nilS nilS nilS) 27 (0, 0)) := by rw [← hW]; exact setRow_heap _ _ _ _ _ _ r61
  rw [hW]
  have nb : ∀ {base e sz n : Nat} {v : Value} {xs : List Value}, wr.ownsRow base e sz v n xs → b6 < base → W.ownsRow base e sz v n xs := fun ho hb => ho.kept hkp (by
    cases hv : Value.ownBlock _ with
    | none => exact .inl rfl
    | some g => right; intro e; have := (ho.lt g hv).1; cases e; omega)
  exact ⟨h.hb.grown hkp h.hb.size (fun k hk => by cases hk; omega), (hoth _ (by omega)).trans h.r2, r62, (hoth _ (by omega)).trans h.r7, (hoth _ (by omega)).trans h.r9, nb h.qs (by omega), fun i hi => nb (h.own i hi) (by omega), h.apart⟩
/-- a record more -/
theorem RQ_app {w : World} {b6 b7 b9 : Nat} {HM : Msg} {ql : List Qn} {qv : Value} {V : Nat → Value} {L : Nat → List Rc.RR} {E : Bool} {Z : Int} {wr W5 : World} {v5 : Value} {tmp : Obj} {i : Nat} (h : RQ w b6 b7 b9 HM ql qv V L E Z wr) (h6 : w.heap.size < b6) (h7 : b6 < b7) (h9 : b7 < b9) (hi : i < 3) (r : Rc.RR)
    (hg : (wr.alloc tmp).grownBy W5 (V i).ownBlock) (hown : W5.ownsRow (b9 + 1) 45 5 v5 ((L i).length + 1) (encR (L i) ++ [.string (mk r.name), .int .i64 r.ty, .int .i64 r.cl, .int .i64 r.ttl, .string (mk r.data)])) (hsn : SameOrNew (wr.alloc tmp).heap.size (V i) v5) :
    RQ w b6 b7 b9 HM ql qv (updL V i v5) (updL L i (L i ++ [r])) E Z (W5.setCell ⟨b9, i, none⟩ v5) := by
  have hol : ∀ {j : Nat}, j < 3 → ∀ g, (V j).ownBlock = some g → b9 + 1 ≤ g ∧ g < wr.heap.size := fun hj g hg => (h.own _ hj).lt g hg
  have f : ∀ {j : Nat} {o : Obj}, j ≤ b9 → wr.heap[j]? = some o → W5.heap[j]? = some o := fun {j o} hj ho => by
    have ho2 := heap_old ho tmp
    exact (hg.block j (Array.getElem?_eq_some_iff.1 ho2).1 (fun e => by have := (hol hi j e.symm).1; omega)).trans ho2
  have hb5 : Below w.heap.size w W5 := (h.hb.alloc h.hb.size _).grown hg (h.hb.alloc h.hb.size _).size (fun g e => by have := (hol hi g e).1; omega)
  have h9s : b9 < wr.heap.size := (Array.getElem?_eq_some_iff.1 h.r9).1
  have r95 := f (Nat.le_refl _) h.r9
  have hv5 : ∀ g, v5.ownBlock = some g → b9 + 1 ≤ g ∧ g < W5.heap.size := fun g hg => hown.lt g hg
  obtain ⟨W, hW⟩ : ∃ W, W5.setCell ⟨b9, i, none⟩ v5 = W := ⟨_, rfl⟩
  have hrow : W.heap[b9]? = some (.cells #[updL V i v5 0, updL V i v5 1, updL V i v5 2] 69 (0, 0)) := by
    rw [← hW, heap_set r95]
    match i, hi with
    | 0, _ => rfl
    | 1, _ => rfl
    | 2, _ => rfl
  have hoth : ∀ q, q ≠ b9 → ∀ {o : Obj}, W5.heap[q]? = some o → W.heap[q]? = some o := fun q hq o ho => by rw [← hW]; exact (heap_set_other r95 (by omega)).trans ho
  rw [hW]
  have nb : ∀ {base e sz n : Nat} {v : Value} {xs : List Value}, W5.ownsRow base e sz v n xs → e ≠ 69 → W.ownsRow base e sz v n xs := fun ho he => by
    rw [← hW]
    exact World.ownsRow.setCellOther ho r95 (fun e => he e.symm) _ _
  refine ⟨by rw [← hW]; exact hb5.setCell (p := ⟨b9, i, none⟩) (by show w.heap.size ≤ b9; omega) _, hoth _ (by omega) (f (by omega) h.r2), hoth _ (by omega) (f (by omega) h.r6), hoth _ (by omega) (f (by omega) h.r7), hrow, nb ((h.qs.alloc tmp).kept hg (rows_apart h.qs (h.own i hi) (by decide))) (by decide), fun j hj => ?_, fun j k hj hk hjk => ?_⟩
  · by_cases e : j = i
    · subst e
      rw [updL_at, updL_at, List.length_append, encR_snoc]
      exact nb hown (by decide)
    · rw [updL_ne _ _ e, updL_ne _ _ e]
      exact nb (((h.own j hj).alloc tmp).kept hg (h.apart j i hj hi e)) (by decide)
  · by_cases e : j = i
    · subst e
      rw [updL_at, updL_ne _ _ (Ne.symm hjk)]
      rcases hsn with hs | ⟨g, hs, hge⟩
      · rw [hs]; exact h.apart j k hj hk hjk
      · right
        rw [hs]
        intro e2
        have := (hol hk g e2.symm).2
        simp at hge
        omega
    · by_cases e2 : k = i
      · subst e2
        rw [updL_at, updL_ne _ _ e]
        rcases hsn with hs | ⟨g, hs, hge⟩
        · rw [hs]; exact h.apart j k hj hk hjk
        · right
          rw [hs]
          intro e3
          have := (hol hj g e3).2
          simp at hge
          omega
      · rw [updL_ne _ _ e, updL_ne _ _ e2]
        exact h.apart j k hj hk hjk
/-- what the records' loads need, in a region whose order is open -/
def CR (b9 : Nat) (o9 : Obj) (b : Nat) (o : Obj) (W : World) : Prop := W.heap[b9]? = some o9 ∧ W.heap[b]? = some o
theorem CR.alloc {b9 b : Nat} {o9 o : Obj} {W : World} (h : CR b9 o9 b o W) (x : Obj) : CR b9 o9 b o (W.alloc x) := ⟨heap_old h.1 _, heap_old h.2 _⟩
theorem CR.grown {b9 b : Nat} {o9 o : Obj} {W W' : World} {g : Option Nat} (h : CR b9 o9 b o W) (hg : W.grownBy W' g) (h1 : g ≠ some b9) (h2 : g ≠ some b) : CR b9 o9 b o W' :=
  ⟨(hg.block _ (Array.getElem?_eq_some_iff.1 h.1).1 (fun e => h1 e.symm)).trans h.1, (hg.block _ (Array.getElem?_eq_some_iff.1 h.2).1 (fun e => h2 e.symm)).trans h.2⟩
theorem CR.nine {b9 b : Nat} {o9 o : Obj} {W : World} {cs : Array Value} {T : TypeId} (h : CR b9 o9 b o W) (e : o9 = .cells cs T (0, 0)) {i : Nat} {v : Value} (hv : cs[i]? = some v) : W.cell? ⟨b9, i, none⟩ = some v := by
  subst e
  exact row_cell h.1 i v hv
theorem CR.five {b9 b : Nat} {o9 o : Obj} {W : World} {cs : Array Value} {T : TypeId} (h : CR b9 o9 b o W) (e : o = .cells cs T (0, 0)) {i : Nat} {v : Value} (hv : cs[i]? = some v) : W.cell? ⟨b, i, none⟩ = some v := by
  subst e
  exact row_cell h.2 i v hv
theorem tri_get {V : Nat → Value} {n : Nat} (h : n < 3) : (#[V 0, V 1, V 2] : Array Value)[n]? = some (V n) := by
  match n, h with
  | 0, _ => rfl
  | 1, _ => rfl
  | 2, _ => rfl
theorem CR.cold {b9 b : Nat} {o9 o : Obj} {W : World} {cs : Array Value} {T : TypeId} (h : CR b9 o9 b o W) (e : o9 = .cells cs T (0, 0)) (i : Nat) : W.frozen? ⟨b9, i, none⟩ = false := by
  subst e
  exact row_frozen h.1 i
/-- the message is whole -/
theorem RQ.last {w : World} {b6 b7 b9 : Nat} {HM : Msg} {ql : List Qn} {qv : Value} {V : Nat → Value} {L : Nat → List Rc.RR} {E : Bool} {Z : Int} {A0 A1 A2 A3 : World} (h : RQ w b6 b7 b9 HM ql qv V L E Z A0) (h6 : w.heap.size < b6) (h7 : b6 < b7) (h9 : b7 < b9)
    (e1 : A0.setCell ⟨b6, 9, none⟩ (V 0) = A1) (e2 : A1.setCell ⟨b6, 10, none⟩ (V 1) = A2) (e3 : A2.setCell ⟨b6, 11, none⟩ (V 2) = A3) :
    A1.heap[b6]? = some (.cells (MC (setE HM E Z) qv (V 0) nilS nilS) 27 (0, 0)) ∧ A2.heap[b6]? = some (.cells (MC (setE HM E Z) qv (V 0) (V 1) nilS) 27 (0, 0)) ∧ A3.heap[b6]? = some (.cells (MC (setE HM E Z) qv (V 0) (V 1) (V 2)) 27 (0, 0)) ∧
    (∀ q, q ≠ b6 → A1.heap[q]? = A0.heap[q]? ∧ A2.heap[q]? = A0.heap[q]? ∧ A3.heap[q]? = A0.heap[q]?) ∧ ∀ R, MsgL (A3.setRow w.heap.size R) (bdM HM ql (L 0) (L 1) (L 2) E Z) qv (V 0) (V 1) (V 2) ∧ Below w.heap.size w (A3.setRow w.heap.size R) := by
  have s1 : A1 = A0.setRow b6 (MC (setE HM E Z) qv (V 0) nilS nilS) := e1.symm.trans (setCell_eq_setRow A0 b6 9 _ _ (0, 0) _ h.r6)
  have r1 : A1.heap[b6]? = some (.cells (MC (setE HM E Z) qv (V 0) nilS nilS) 27 (0, 0)) := by rw [s1]; exact setRow_heap _ _ _ _ _ _ h.r6
  have s2 : A2 = A1.setRow b6 (MC (setE HM E Z) qv (V 0) (V 1) nilS) := e2.symm.trans (setCell_eq_setRow A1 b6 10 _ _ (0, 0) _ r1)
  have r2 : A2.heap[b6]? = some (.cells (MC (setE HM E Z) qv (V 0) (V 1) nilS) 27 (0, 0)) := by rw [s2]; exact setRow_heap _ _ _ _ _ _ r1
  have s3 : A3 = A2.setRow b6 (MC (setE HM E Z) qv (V 0) (V 1) (V 2)) := e3.symm.trans (setCell_eq_setRow A2 b6 11 _ _ (0, 0) _ r2)
  have r3 : A3.heap[b6]? = some (.cells (MC (setE HM E Z) qv (V 0) (V 1) (V 2)) 27 (0, 0)) := by rw [s3]; exact setRow_heap _ _ _ _ _ _ r2
  have o1 : ∀ q, q ≠ b6 → A1.heap[q]? = A0.heap[q]? := fun q hq => by rw [s1, setRow_other _ _ _ _ hq]
  have o2 : ∀ q, q ≠ b6 → A2.heap[q]? = A0.heap[q]? := fun q hq => by rw [s2, setRow_other _ _ _ _ hq, o1 q hq]
  have o3 : ∀ q, q ≠ b6 → A3.heap[q]? = A0.heap[q]? := fun q hq => by rw [s3, setRow_other _ _ _ _ hq, o2 q hq]
  have hsz : A3.heap.size = A0.heap.size := by rw [s3, setRow_size, s2, setRow_size, s1, setRow_size]
  have k1 : A0.grownBy A3 (some b6) := ⟨by rw [s3, s2, s1]; rfl, by rw [s3, s2, s1]; rfl, by rw [s3, s2, s1]; rfl, by rw [hsz]; exact Nat.le_refl _, fun q hq hne => o3 q (fun e => hne (by rw [e]))⟩
  refine ⟨r1, r2, r3, fun q hq => ⟨o1 q hq, o2 q hq, o3 q hq⟩, fun R => ?_⟩
  have k2 : A3.grownBy (A3.setRow w.heap.size R) (some w.heap.size) := ⟨rfl, rfl, rfl, by rw [setRow_size]; exact Nat.le_refl _, fun q hq hne => by rw [setRow_other _ _ _ _ (fun e => hne (by rw [e]))]⟩
  have nb : ∀ {base e sz n : Nat} {v : Value} {xs : List Value}, A0.ownsRow base e sz v n xs → b6 < base → (A3.setRow w.heap.size R).ownsRow base e sz v n xs := fun ho hb => by
    refine (ho.kept k1 ?_).kept k2 ?_
    · cases hv : Value.ownBlock _ with
      | none => exact .inl rfl
      | some g => right; intro e; have := (ho.lt g hv).1; cases e; omega
    · cases hv : Value.ownBlock _ with
      | none => exact .inl rfl
      | some g => right; intro e; have := (ho.lt g hv).1; cases e; omega
  have hb3 : Below w.heap.size w A3 := h.hb.grown k1 h.hb.size (fun k hk => by cases hk; omega)
  exact ⟨⟨SlC.of_owns (nb h.qs (by omega)), SlC.of_owns (nb (h.own 0 (by decide)) (by omega)), SlC.of_owns (nb (h.own 1 (by decide)) (by omega)), SlC.of_owns (nb (h.own 2 (by decide)) (by omega))⟩, below_setRow hb3 (Nat.le_refl _) _⟩
end Go.Proofs.Ythfhmbooeemaaaa

