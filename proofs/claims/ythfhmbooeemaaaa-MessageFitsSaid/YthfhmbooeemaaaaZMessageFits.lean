/- MessageFits: what fits is told whole; else what is least needed goes first, and it says that it is cut; what is told is never longer than it may be. For every input; no conditions. -/
import Derived.Test.YthfhmbooeemaaaaG3
import Derived.Test.YthfhmbooeemaaaaG7
import Derived.Test.YthfhmbooeemaaaaG10
import Derived.Deep.OwnRows
import Derived.WalkSpells
namespace Go.Proofs.Ythfhmbooeemaaaa.messageFits
open Go.ChangeShapes Go.WideShapes Go.ChangeAt Go.RowKit
open Go.ChangeMaps (open_string shut_string)
set_option linter.unusedVariables false
set_option maxRecDepth 100000

set_option maxHeartbeats 4000000 in
theorem t0 (a b c most : Int) (w : World) (hbad : ¬ (0 ≤ a ∧ a ≤ 40 ∧ 0 ≤ b ∧ b ≤ 40 ∧ 0 ≤ c ∧ c ≤ 40 ∧ 0 ≤ most ∧ most ≤ 5000)) (HAW : Hid (∀ W, Calls Try.prog 11 #[] W fun e w' => e = .returned (.bool true) ∧ Below W.heap.size W w')) :
    Calls Try.prog 10 #[.int .i64 a, .int .i64 b, .int .i64 c, .int .i64 most] w fun e w' => e = .returned (.bool true) ∧ Below w.heap.size w w' := by
  have hcs : a < 0 ∨ (¬ a < 0 ∧ 40 < a) ∨ (¬ a < 0 ∧ ¬ 40 < a ∧ b < 0) ∨ (¬ a < 0 ∧ ¬ 40 < a ∧ ¬ b < 0 ∧ 40 < b) ∨ (¬ a < 0 ∧ ¬ 40 < a ∧ ¬ b < 0 ∧ ¬ 40 < b ∧ c < 0) ∨ (¬ a < 0 ∧ ¬ 40 < a ∧ ¬ b < 0 ∧ ¬ 40 < b ∧ ¬ c < 0 ∧ 40 < c) ∨ (¬ a < 0 ∧ ¬ 40 < a ∧ ¬ b < 0 ∧ ¬ 40 < b ∧ ¬ c < 0 ∧ ¬ 40 < c ∧ most < 0) ∨ (¬ a < 0 ∧ ¬ 40 < a ∧ ¬ b < 0 ∧ ¬ 40 < b ∧ ¬ c < 0 ∧ ¬ 40 < c ∧ ¬ most < 0 ∧ 5000 < most) := by omega
  clear hbad
  rcases hcs with h1 | ⟨h1, h2⟩ | ⟨h1, h2, h3⟩ | ⟨h1, h2, h3, h4⟩ | ⟨h1, h2, h3, h4, h5⟩ | ⟨h1, h2, h3, h4, h5, h6⟩ | ⟨h1, h2, h3, h4, h5, h6, h7⟩ | ⟨h1, h2, h3, h4, h5, h6, h7, h8⟩
  all_goals
    go_enter Try.func10, Try.ntmps10
    go_wp2_with fail
    refine (HAW.out _).mono ?_; rintro e w1 ⟨rfl, hx⟩
    have HX := Go.Lib.hid hx
    clear hx
    go_wp2_with fail
    go_ret
    exact ⟨rfl, HX.out⟩
set_option maxHeartbeats 8000000 in
theorem t1 (a b c : Nat) (most : Int) (w : World) (ha : a ≤ 40) (hb : b ≤ 40) (hc : c ≤ 40) (hm0 : 0 ≤ most) (hm1 : most ≤ 5000) (HAW : Hid (∀ W, Calls Try.prog 11 #[] W fun e w' => e = .returned (.bool true) ∧ Below W.heap.size W w')) :
    Calls Try.prog 10 #[.int .i64 a, .int .i64 b, .int .i64 c, .int .i64 most] w fun e w' => e = .returned (.bool true) ∧ Below w.heap.size w w' := by
  have h1 : ¬ (a : Int) < 0 := by omega
  have h2 : ¬ (40 : Int) < (a : Int) := by omega
  have h3 : ¬ (b : Int) < 0 := by omega
  have h4 : ¬ (40 : Int) < (b : Int) := by omega
  have h5 : ¬ (c : Int) < 0 := by omega
  have h6 : ¬ (40 : Int) < (c : Int) := by omega
  have h7 : ¬ most < 0 := by omega
  have h8 : ¬ 5000 < most := by omega
  have hone := one_nil w
  have HONE := Go.Lib.hid hone
  clear hone
  go_enter Try.func10, Try.ntmps10
  go_wp2_with fail
  refine HONE.out.mono ?_; rintro e w1 ⟨aq, cq, rfl, hq, hb1⟩
  obtain ⟨X1, hX1⟩ : ∃ X1, w1.alloc (.cells (MC oneM (.slice aq 1 cq) nilS nilS nilS) 27) = X1 := ⟨_, rfl⟩
  have g1 : X1.heap[w1.heap.size]? = some (.cells (MC oneM (.slice aq 1 cq) nilS nilS nilS) 27 (0, 0)) := by rw [← hX1]; exact heap_alloc_new _ _
  have hbX : Below w1.heap.size w1 X1 := by rw [← hX1]; exact (Below.refl _ _).alloc (Nat.le_refl _) _
  have hqX := hq.below hbX
  have hbb := hb1.trans (hbX.mono hb1.size)
  have hmk := refMakeA_any [0] 5 7 X1 (by decide)
  rw [rA_make] at hmk
  have hb1s := hb1.size
  have g2 : X1.heap[w1.heap.size]? = some (.cells (MC (cM 0 0 0 false false) (.slice aq 1 cq) nilS nilS nilS) 27 (0, 0)) := g1
  have hb2 := hbb
  have hq2 := hqX
  have HMK := Go.Lib.hid hmk
  have G2 := Go.Lib.hid g2
  have HB2 := Go.Lib.hid hb2
  have HQ2 := Go.Lib.hid hq2
  have G1 := Go.Lib.hid g1
  have HB1 := Go.Lib.hid hb1s
  clear hmk g2 hb2 hq2 g1 hb1s
  clear hq hb1 hbX hqX hbb HONE
  simp only [MC] at hX1
  go_wp2_with fail
  refine HMK.out.mono ?_; rintro e w2 ⟨rfl, hx2⟩
  obtain ⟨X3, hX3⟩ : ∃ X3, w2.alloc (.cells (rrC rA) 45) = X3 := ⟨_, rfl⟩
  have hb23 : Below X1.heap.size X1 X3 := by rw [← hX3]; exact hx2.trans (((Below.refl _ w2).alloc (Nat.le_refl _) _).mono hx2.size)
  have hwN : w.heap.size ≤ w1.heap.size := by have h1 := (Array.getElem?_eq_some_iff.1 G2.out).1; have h2 := HB1.out; omega
  have hNR : w1.heap.size < w2.heap.size := Nat.lt_of_lt_of_le (Array.getElem?_eq_some_iff.1 G2.out).1 hx2.size
  have hf0 : Fill w w1.heap.size w2.heap.size false (.slice aq 1 cq) nilS nilS nilS 0 0 0 X3 := ⟨(hb23.block _ (Array.getElem?_eq_some_iff.1 G2.out).1).trans G2.out, by rw [← hX3]; exact heap_alloc_new _ _, HQ2.out.below hb23, World.ownsRow_nil _ _ _ _, World.ownsRow_nil _ _ _ _, World.ownsRow_nil _ _ _ _, (fun g h => by cases h), (fun g h => by cases h), (fun g h => by cases h), HB2.out.trans (hb23.mono HB2.out.size)⟩
  have hXs : w2.heap.size + 1 ≤ X3.heap.size := by rw [← hX3]; simp
  generalize w1.heap.size = N at *
  generalize hR : w2.heap.size = R at *
  have HF0 := Go.Lib.hid hf0
  have HWN := Go.Lib.hid hwN
  clear hf0 hwN
  clear hx2 hb23 G2 HB2 HQ2 G1 HMK hX1 HB1
  simp only [rrC] at hX3
  go_wp2_with fail
  clear hX3 hR
  go_loopw [11] (fun i wr => ∃ (k : Nat) (va : Value), i = .int .i64 k ∧ k ≤ a ∧ Fill w N R false (.slice aq 1 cq) va nilS nilS k 0 0 wr ∧ R + 1 ≤ wr.heap.size) (fun i _ => a - (intOf i).toNat)
  case atStart => exact ⟨0, _, rfl, Nat.zero_le _, HF0.out, hXs⟩
  case round =>
    obtain ⟨k, va, rfl, hk, hf, hws⟩ := hrel
    obtain ⟨aa, ca, rfl, _, _⟩ := (SlC.of_owns hf.a).slice
    by_cases hlt : k < a
    · have t1 : (k : Int) < (a : Int) := by omega
      have q2 : IntKind.i64.wrap ((k : Int) + 1) = (k : Int) + 1 := wrapi (by omega) (by omega)
      have x9 : wr.cell? ⟨N, 9, none⟩ = some (.slice aa k ca) := row_cell hf.row 9 _ rfl
      have y0 : wr.cell? ⟨R, 0, none⟩ = some (.string (mk rA.name)) := row_cell hf.rr 0 _ rfl
      have y1 : wr.cell? ⟨R, 1, none⟩ = some (.int .i64 rA.ty) := row_cell hf.rr 1 _ rfl
      have y2 : wr.cell? ⟨R, 2, none⟩ = some (.int .i64 rA.cl) := row_cell hf.rr 2 _ rfl
      have y3 : wr.cell? ⟨R, 3, none⟩ = some (.int .i64 rA.ttl) := row_cell hf.rr 3 _ rfl
      have y4 : wr.cell? ⟨R, 4, none⟩ = some (.string (mk rA.data)) := row_cell hf.rr 4 _ rfl
      have HF := Go.Lib.hid hf
      clear hf
      go_wp2_with (at_builtin; refine wpList_app1 eiRR (.tmp 58) (.tmp 60) rfl rfl (R + 1) rfl rfl (HF.out.a.alloc _) (news := fA) rfl ?a1 ?a2 ?a3 ?a4 ?a5 ?a6)
      case a1 => exact new_cells _ _ _
      case a2 => exact one_rr rA
      case a3 => unfold maxLen; omega
      case a4 => omega
      case a5 => simp; omega
      intro v1 W1 hown1 hg1 hsn1
      obtain ⟨gv, cv, rfl⟩ := ownsRow_succ hown1
      have hf2 := HF.out.app1 hNR HWN.out hg1 hsn1 hown1
      have hrow := (HF.out.grown hNR HWN.out HF.out.a hg1).1
      have z9 := row_frozen hrow 9
      have z8 : W1.cell? ⟨N, 9, none⟩ = some (.slice aa k ca) := row_cell hrow 9 _ rfl
      have hws2 : R + 1 ≤ (W1.setCell ⟨N, 9, none⟩ (.slice (some ⟨gv, 0, none⟩) (k + 1) cv)).heap.size := by have := hg1.size; simp at this ⊢; omega
      have HF2 := Go.Lib.hid hf2
      have HROW := Go.Lib.hid hrow
      have HWS2 := Go.Lib.hid hws2
      clear hf2 hrow hws2
      clear hown1 hg1 hsn1 HF x9 y0 y1 y2 y3 y4
      go_wp2_with fail
      go_roundw
      case rel => exact ⟨k + 1, _, by go_num, by omega, HF2.out, HWS2.out⟩
      case measure => simp [intOf]; omega
    · obtain rfl : k = a := by omega
      have t1 : ¬ (k : Int) < (k : Int) := by omega
      have HFA := Go.Lib.hid hf
      clear hf
      clear HF0 hXs
      go_wp2_with fail
      generalize wr = wrA at *
      go_loopw [12] (fun i wr => ∃ (k2 : Nat) (vs : Value), i = .int .i64 k2 ∧ k2 ≤ b ∧ Fill w N R false (.slice aq 1 cq) (.slice aa k ca) vs nilS k k2 0 wr ∧ R + 1 ≤ wr.heap.size) (fun i _ => b - (intOf i).toNat)
      case atStart => exact ⟨0, _, rfl, Nat.zero_le _, HFA.out, hws⟩
      case round =>
        obtain ⟨k2, vs, rfl, hk2, hf, hws⟩ := hrel
        obtain ⟨as', cs', rfl, _, _⟩ := (SlC.of_owns hf.s).slice
        by_cases hlt : k2 < b
        · have t1 : (k2 : Int) < (b : Int) := by omega
          have q2 : IntKind.i64.wrap ((k2 : Int) + 1) = (k2 : Int) + 1 := wrapi (by omega) (by omega)
          have x9 : wr.cell? ⟨N, 10, none⟩ = some (.slice as' k2 cs') := row_cell hf.row 10 _ rfl
          have y0 : wr.cell? ⟨R, 0, none⟩ = some (.string (mk rA.name)) := row_cell hf.rr 0 _ rfl
          have y1 : wr.cell? ⟨R, 1, none⟩ = some (.int .i64 rA.ty) := row_cell hf.rr 1 _ rfl
          have y2 : wr.cell? ⟨R, 2, none⟩ = some (.int .i64 rA.cl) := row_cell hf.rr 2 _ rfl
          have y3 : wr.cell? ⟨R, 3, none⟩ = some (.int .i64 rA.ttl) := row_cell hf.rr 3 _ rfl
          have y4 : wr.cell? ⟨R, 4, none⟩ = some (.string (mk rA.data)) := row_cell hf.rr 4 _ rfl
          have HF := Go.Lib.hid hf
          clear hf
          go_wp2_with (at_builtin; refine wpList_app1 eiRR (.tmp 69) (.tmp 71) rfl rfl (R + 1) rfl rfl (HF.out.s.alloc _) (news := fA) rfl ?b1 ?b2 ?b3 ?b4 ?b5 ?b6)
          case b1 => exact new_cells _ _ _
          case b2 => exact one_rr rA
          case b3 => unfold maxLen; omega
          case b4 => omega
          case b5 => simp; omega
          intro v1 W1 hown1 hg1 hsn1
          obtain ⟨gv, cv, rfl⟩ := ownsRow_succ hown1
          have hf2 := HF.out.app2 hNR HWN.out hg1 hsn1 hown1
          have hrow := (HF.out.grown hNR HWN.out HF.out.s hg1).1
          have z9 := row_frozen hrow 10
          have z8 : W1.cell? ⟨N, 10, none⟩ = some (.slice as' k2 cs') := row_cell hrow 10 _ rfl
          have hws2 : R + 1 ≤ (W1.setCell ⟨N, 10, none⟩ (.slice (some ⟨gv, 0, none⟩) (k2 + 1) cv)).heap.size := by have := hg1.size; simp at this ⊢; omega
          have HF2 := Go.Lib.hid hf2
          have HROW := Go.Lib.hid hrow
          have HWS2 := Go.Lib.hid hws2
          clear hf2 hrow hws2
          clear hown1 hg1 hsn1 HF x9 y0 y1 y2 y3 y4
          go_wp2_with fail
          go_roundw
          case rel => exact ⟨k2 + 1, _, by go_num, by omega, HF2.out, HWS2.out⟩
          case measure => simp [intOf]; omega
        · obtain rfl : k2 = b := by omega
          have t1 : ¬ (k2 : Int) < (k2 : Int) := by omega
          have HFB := Go.Lib.hid hf
          clear hf
          clear HFA
          go_wp2_with fail
          generalize wr = wrB at *
          go_loopw [13] (fun i wr => ∃ (k3 : Nat) (vd : Value), i = .int .i64 k3 ∧ k3 ≤ c ∧ Fill w N R false (.slice aq 1 cq) (.slice aa k ca) (.slice as' k2 cs') vd k k2 k3 wr ∧ R + 1 ≤ wr.heap.size) (fun i _ => c - (intOf i).toNat)
          case atStart => exact ⟨0, _, rfl, Nat.zero_le _, HFB.out, hws⟩
          case round =>
            obtain ⟨k3, vd, rfl, hk3, hf, hws⟩ := hrel
            obtain ⟨ad, cd, rfl, _, _⟩ := (SlC.of_owns hf.d).slice
            by_cases hlt : k3 < c
            · have t1 : (k3 : Int) < (c : Int) := by omega
              have q2 : IntKind.i64.wrap ((k3 : Int) + 1) = (k3 : Int) + 1 := wrapi (by omega) (by omega)
              have x9 : wr.cell? ⟨N, 11, none⟩ = some (.slice ad k3 cd) := row_cell hf.row 11 _ rfl
              have y0 : wr.cell? ⟨R, 0, none⟩ = some (.string (mk rA.name)) := row_cell hf.rr 0 _ rfl
              have y1 : wr.cell? ⟨R, 1, none⟩ = some (.int .i64 rA.ty) := row_cell hf.rr 1 _ rfl
              have y2 : wr.cell? ⟨R, 2, none⟩ = some (.int .i64 rA.cl) := row_cell hf.rr 2 _ rfl
              have y3 : wr.cell? ⟨R, 3, none⟩ = some (.int .i64 rA.ttl) := row_cell hf.rr 3 _ rfl
              have y4 : wr.cell? ⟨R, 4, none⟩ = some (.string (mk rA.data)) := row_cell hf.rr 4 _ rfl
              have HF := Go.Lib.hid hf
              clear hf
              go_wp2_with (at_builtin; refine wpList_app1 eiRR (.tmp 80) (.tmp 82) rfl rfl (R + 1) rfl rfl (HF.out.d.alloc _) (news := fA) rfl ?c1 ?c2 ?c3 ?c4 ?c5 ?c6)
              case c1 => exact new_cells _ _ _
              case c2 => exact one_rr rA
              case c3 => unfold maxLen; omega
              case c4 => omega
              case c5 => simp; omega
              intro v1 W1 hown1 hg1 hsn1
              obtain ⟨gv, cv, rfl⟩ := ownsRow_succ hown1
              have hf2 := HF.out.app3 hNR HWN.out hg1 hsn1 hown1
              have hrow := (HF.out.grown hNR HWN.out HF.out.d hg1).1
              have z9 := row_frozen hrow 11
              have z8 : W1.cell? ⟨N, 11, none⟩ = some (.slice ad k3 cd) := row_cell hrow 11 _ rfl
              have hws2 : R + 1 ≤ (W1.setCell ⟨N, 11, none⟩ (.slice (some ⟨gv, 0, none⟩) (k3 + 1) cv)).heap.size := by have := hg1.size; simp at this ⊢; omega
              have HF2 := Go.Lib.hid hf2
              have HROW := Go.Lib.hid hrow
              have HWS2 := Go.Lib.hid hws2
              clear hf2 hrow hws2
              clear hown1 hg1 hsn1 HF x9 y0 y1 y2 y3 y4
              go_wp2_with fail
              go_roundw
              case rel => exact ⟨k3 + 1, _, by go_num, by omega, HF2.out, HWS2.out⟩
              case measure => simp [intOf]; omega
            · obtain rfl : k3 = c := by omega
              have t1 : ¬ (k3 : Int) < (k3 : Int) := by omega
              have hmsg := hf.msg
              have hfitc := Fit_any _ _ _ _ _ most wr hmsg (cM_S (by omega) (by omega) (by omega))
              obtain ⟨fs, hu⟩ := undMsg
              have hfn := cM_fitN ha hb hc most
              have HF := Go.Lib.hid hf
              have HFIT := Go.Lib.hid hfitc
              have HU := Go.Lib.hid hu
              have HMSG := Go.Lib.hid hmsg
              clear hf hfitc hu hmsg
              clear HFB
              go_wp2_with (refine wpList_load_rowG rfl 27 (.tmp 9) rfl N rfl _ _ (0, 0) _ HF.out.row HU.out rfl infoMsg ?_)
              refine HFIT.out.mono ?_; rintro e w3 ⟨ab, cb, rfl, hsl, hb3⟩
              have g3 := (hb3.block _ (Array.getElem?_eq_some_iff.1 HF.out.row).1).trans HF.out.row
              have hbw3 := HF.out.hb.trans (hb3.mono HF.out.hb.size)
              have hm3 := HMSG.out.below hb3 (Nat.le_refl _)
              have q0 : IntKind.i64.wrap ((k : Int) + (k2 : Int)) = (k : Int) + (k2 : Int) := wrapi (by omega) (by omega)
              have q1 : IntKind.i64.wrap ((k : Int) + (k2 : Int) + (k3 : Int)) = (k : Int) + (k2 : Int) + (k3 : Int) := wrapi (by omega) (by omega)
              have q3 : IntKind.i64.wrap (15 * ((k : Int) + (k2 : Int) + (k3 : Int))) = 15 * ((k : Int) + (k2 : Int) + (k3 : Int)) := wrapi (by omega) (by omega)
              have q4 : IntKind.i64.wrap (19 + 15 * ((k : Int) + (k2 : Int) + (k3 : Int))) = 19 + 15 * ((k : Int) + (k2 : Int) + (k3 : Int)) := wrapi (by omega) (by omega)
              have q5 : IntKind.i64.wrap (15 * ((k : Int) + (k2 : Int))) = 15 * ((k : Int) + (k2 : Int)) := wrapi (by omega) (by omega)
              have q6 : IntKind.i64.wrap (19 + 15 * ((k : Int) + (k2 : Int))) = 19 + 15 * ((k : Int) + (k2 : Int)) := wrapi (by omega) (by omega)
              have q7 : IntKind.i64.wrap (15 * (k : Int)) = 15 * (k : Int) := wrapi (by omega) (by omega)
              have q8 : IntKind.i64.wrap (19 + 15 * (k : Int)) = 19 + 15 * (k : Int) := wrapi (by omega) (by omega)
              rcases hfn with ⟨n0, hfit⟩ | ⟨n0, n1, hfit⟩ | ⟨n0, n1, n2, hfit⟩ | ⟨n0, n1, n2, n3, hfit⟩ | ⟨n0, n1, n2, n3, hfit⟩
              · rw [hfit] at hsl ⊢
                have HBW3 := Go.Lib.hid hbw3
                clear hbw3
                clear hsl hb3 HFIT HMSG HF hm3 g3 hfit
                go_wp2_with fail
                refine (HAW.out _).mono ?_; rintro e wz ⟨rfl, hx⟩
                have HXX := Go.Lib.hid hx
                clear hx
                go_wp2_with fail
                go_ret
                exact ⟨rfl, HBW3.out.trans (HXX.out.mono HBW3.out.size)⟩
              · skip
                rw [hfit] at hsl ⊢
                have hlen0 := cM_len k k2 k3 false false
                have hdec := dec_enc (cM_enc (a := k) (b := k2) (c := k3) (ct := false) (ed := false) (by omega) (by omega) (by omega))
                have hla : (cM k k2 k3 false false).an.length = k := by simp [cM]
                have hls : (cM k k2 k3 false false).sv.length = k2 := by simp [cM]
                have hld : (cM k k2 k3 false false).ad.length = k3 := by simp [cM]
                generalize bytesM (cM k k2 k3 false false) = B at *
                simp only at hsl ⊢
                have hby : Byts w3 (.slice ab B.length cb) B := hsl.1
                simp only [Bool.false_eq_true, if_false, Nat.add_zero] at hlen0
                have hBm : ¬ most < (B.length : Int) := by omega
                have hdc := Decode_any ab cb B w3 hby (by omega)
                rw [hdec] at hdc
                have G3 := Go.Lib.hid g3
                have HBW3 := Go.Lib.hid hbw3
                have HM3 := Go.Lib.hid hm3
                have HDC := Go.Lib.hid hdc
                have HLEN := Go.Lib.hid hlen0
                clear g3 hbw3 hm3 hdc hlen0
                clear hsl hb3 hdec HFIT HMSG HF hby hfit
                generalize hBl : B.length = L at *
                have HBL := Go.Lib.hid hBl
                clear hBl
                go_wp2_with fail
                refine HDC.out.mono ?_; rintro e w4 ⟨q4, a4, s4, d4, rfl, ht4, hb4⟩
                obtain ⟨bq, eq, ba, ea, bv, es, bd, ed', rfl, rfl, rfl, rfl⟩ := msg_places ht4
                simp only at ht4 ⊢
                obtain ⟨Y, hY⟩ : ∃ Y, w4.alloc (.cells (MC (cM k k2 k3 false false) (.slice bq (cM k k2 k3 false false).qs.length eq) (.slice ba (cM k k2 k3 false false).an.length ea) (.slice bv (cM k k2 k3 false false).sv.length es) (.slice bd (cM k k2 k3 false false).ad.length ed')) 27) = Y := ⟨_, rfl⟩
                have gY : Y.heap[w4.heap.size]? = some (.cells (MC (cM k k2 k3 false false) (.slice bq (cM k k2 k3 false false).qs.length eq) (.slice ba (cM k k2 k3 false false).an.length ea) (.slice bv (cM k k2 k3 false false).sv.length es) (.slice bd (cM k k2 k3 false false).ad.length ed')) 27 (0, 0)) := by rw [← hY]; exact heap_alloc_new _ _
                have hbY : Below w4.heap.size w4 Y := by rw [← hY]; exact (Below.refl _ _).alloc (Nat.le_refl _) _
                have hb3Y := hb4.trans (hbY.mono hb4.size)
                have hbe := HBW3.out.trans (hb3Y.mono HBW3.out.size)
                have g3Y := (hb3Y.block _ (Array.getElem?_eq_some_iff.1 G3.out).1).trans G3.out
                have hms := Message_same (cM k k2 k3 false false) _ _ _ _ _ _ _ _ Y (ht4.below hbY).lies (HM3.out.below hb3Y (Nat.le_refl _))
                have GY := Go.Lib.hid gY
                have G3Y := Go.Lib.hid g3Y
                have HBE := Go.Lib.hid hbe
                have HMS := Go.Lib.hid hms
                have HLA := Go.Lib.hid hla
                have HLS := Go.Lib.hid hls
                have HLD := Go.Lib.hid hld
                clear gY g3Y hbe hms hla hls hld
                clear hb4 hbY hb3Y ht4 G3 HBW3 HM3 HDC
                simp only [MC] at hY
                go_wp2_with (first | (refine wpList_load_rowG rfl 27 (.tmp 16) rfl w4.heap.size rfl _ _ (0, 0) _ GY.out HU.out rfl infoMsg ?_) | (refine wpList_load_rowG rfl 27 (.tmp 9) rfl N rfl _ _ (0, 0) _ G3Y.out HU.out rfl infoMsg ?_))
                refine HMS.out.mono ?_; rintro e w5 ⟨rfl, hx5⟩
                have hb5 := HBE.out.trans (hx5.mono HBE.out.size)
                have HB5 := Go.Lib.hid hb5
                clear hb5
                clear hx5 hY
                go_wp2_with fail
                refine (HAW.out _).mono ?_; rintro e wz ⟨rfl, hx⟩
                have HXX := Go.Lib.hid hx
                clear hx
                go_wp2_with fail
                go_ret
                exact ⟨rfl, HB5.out.trans (HXX.out.mono HB5.out.size)⟩
              · skip
                rw [hfit] at hsl ⊢
                have hlen0 := cM_len k k2 0 true false
                have hdec := dec_enc (cM_enc (a := k) (b := k2) (c := 0) (ct := true) (ed := false) (by omega) (by omega) (by omega))
                have hla : (cM k k2 0 true false).an.length = k := by simp [cM]
                have hls : (cM k k2 0 true false).sv.length = k2 := by simp [cM]
                have hld : (cM k k2 0 true false).ad.length = 0 := by simp [cM]
                generalize bytesM (cM k k2 0 true false) = B at *
                simp only at hsl ⊢
                have hby : Byts w3 (.slice ab B.length cb) B := hsl.1
                simp only [Bool.false_eq_true, if_false, Nat.add_zero] at hlen0
                have hBm : ¬ most < (B.length : Int) := by omega
                have hdc := Decode_any ab cb B w3 hby (by omega)
                rw [hdec] at hdc
                have G3 := Go.Lib.hid g3
                have HBW3 := Go.Lib.hid hbw3
                have HM3 := Go.Lib.hid hm3
                have HDC := Go.Lib.hid hdc
                have HLEN := Go.Lib.hid hlen0
                clear g3 hbw3 hm3 hdc hlen0
                clear hsl hb3 hdec HFIT HMSG HF hby hfit
                generalize hBl : B.length = L at *
                have HBL := Go.Lib.hid hBl
                clear hBl
                go_wp2_with fail
                refine HDC.out.mono ?_; rintro e w4 ⟨q4, a4, s4, d4, rfl, ht4, hb4⟩
                obtain ⟨bq, eq, ba, ea, bv, es, bd, ed', rfl, rfl, rfl, rfl⟩ := msg_places ht4
                simp only at ht4 ⊢
                obtain ⟨Y, hY⟩ : ∃ Y, w4.alloc (.cells (MC (cM k k2 0 true false) (.slice bq (cM k k2 0 true false).qs.length eq) (.slice ba (cM k k2 0 true false).an.length ea) (.slice bv (cM k k2 0 true false).sv.length es) (.slice bd (cM k k2 0 true false).ad.length ed')) 27) = Y := ⟨_, rfl⟩
                have gY : Y.heap[w4.heap.size]? = some (.cells (MC (cM k k2 0 true false) (.slice bq (cM k k2 0 true false).qs.length eq) (.slice ba (cM k k2 0 true false).an.length ea) (.slice bv (cM k k2 0 true false).sv.length es) (.slice bd (cM k k2 0 true false).ad.length ed')) 27 (0, 0)) := by rw [← hY]; exact heap_alloc_new _ _
                have hbY : Below w4.heap.size w4 Y := by rw [← hY]; exact (Below.refl _ _).alloc (Nat.le_refl _) _
                have hb3Y := hb4.trans (hbY.mono hb4.size)
                have hbe := HBW3.out.trans (hb3Y.mono HBW3.out.size)
                rw [hla, hls, hld] at gY
                have x4 : Y.cell? ⟨w4.heap.size, 4, none⟩ = some (.bool true) := row_cell gY 4 _ rfl
                have x9 : Y.cell? ⟨w4.heap.size, 9, none⟩ = some (.slice ba k ea) := row_cell gY 9 _ rfl
                have x10 : Y.cell? ⟨w4.heap.size, 10, none⟩ = some (.slice bv k2 es) := row_cell gY 10 _ rfl
                have x11 : Y.cell? ⟨w4.heap.size, 11, none⟩ = some (.slice bd 0 ed') := row_cell gY 11 _ rfl
                have GY := Go.Lib.hid gY
                have HBE := Go.Lib.hid hbe
                have HLA := Go.Lib.hid hla
                have HLS := Go.Lib.hid hls
                have HLD := Go.Lib.hid hld
                clear gY hbe hla hls hld
                clear hb4 hbY hb3Y ht4 G3 HBW3 HM3 HDC
                simp only [MC] at hY
                go_wp2_with fail
                clear hY x4 x9 x10 x11
                refine (HAW.out _).mono ?_; rintro e wz ⟨rfl, hx⟩
                have HXX := Go.Lib.hid hx
                clear hx
                go_wp2_with fail
                go_ret
                exact ⟨rfl, HBE.out.trans (HXX.out.mono HBE.out.size)⟩
              · skip
                rw [hfit] at hsl ⊢
                have hlen0 := cM_len k 0 0 true false
                have hdec := dec_enc (cM_enc (a := k) (b := 0) (c := 0) (ct := true) (ed := false) (by omega) (by omega) (by omega))
                have hla : (cM k 0 0 true false).an.length = k := by simp [cM]
                have hls : (cM k 0 0 true false).sv.length = 0 := by simp [cM]
                have hld : (cM k 0 0 true false).ad.length = 0 := by simp [cM]
                generalize bytesM (cM k 0 0 true false) = B at *
                simp only at hsl ⊢
                have hby : Byts w3 (.slice ab B.length cb) B := hsl.1
                simp only [Bool.false_eq_true, if_false, Nat.add_zero] at hlen0
                have hBm : ¬ most < (B.length : Int) := by omega
                have hdc := Decode_any ab cb B w3 hby (by omega)
                rw [hdec] at hdc
                have G3 := Go.Lib.hid g3
                have HBW3 := Go.Lib.hid hbw3
                have HM3 := Go.Lib.hid hm3
                have HDC := Go.Lib.hid hdc
                have HLEN := Go.Lib.hid hlen0
                clear g3 hbw3 hm3 hdc hlen0
                clear hsl hb3 hdec HFIT HMSG HF hby hfit
                generalize hBl : B.length = L at *
                have HBL := Go.Lib.hid hBl
                clear hBl
                go_wp2_with fail
                refine HDC.out.mono ?_; rintro e w4 ⟨q4, a4, s4, d4, rfl, ht4, hb4⟩
                obtain ⟨bq, eq, ba, ea, bv, es, bd, ed', rfl, rfl, rfl, rfl⟩ := msg_places ht4
                simp only at ht4 ⊢
                obtain ⟨Y, hY⟩ : ∃ Y, w4.alloc (.cells (MC (cM k 0 0 true false) (.slice bq (cM k 0 0 true false).qs.length eq) (.slice ba (cM k 0 0 true false).an.length ea) (.slice bv (cM k 0 0 true false).sv.length es) (.slice bd (cM k 0 0 true false).ad.length ed')) 27) = Y := ⟨_, rfl⟩
                have gY : Y.heap[w4.heap.size]? = some (.cells (MC (cM k 0 0 true false) (.slice bq (cM k 0 0 true false).qs.length eq) (.slice ba (cM k 0 0 true false).an.length ea) (.slice bv (cM k 0 0 true false).sv.length es) (.slice bd (cM k 0 0 true false).ad.length ed')) 27 (0, 0)) := by rw [← hY]; exact heap_alloc_new _ _
                have hbY : Below w4.heap.size w4 Y := by rw [← hY]; exact (Below.refl _ _).alloc (Nat.le_refl _) _
                have hb3Y := hb4.trans (hbY.mono hb4.size)
                have hbe := HBW3.out.trans (hb3Y.mono HBW3.out.size)
                rw [hla, hls, hld] at gY
                have x4 : Y.cell? ⟨w4.heap.size, 4, none⟩ = some (.bool true) := row_cell gY 4 _ rfl
                have x9 : Y.cell? ⟨w4.heap.size, 9, none⟩ = some (.slice ba k ea) := row_cell gY 9 _ rfl
                have x10 : Y.cell? ⟨w4.heap.size, 10, none⟩ = some (.slice bv 0 es) := row_cell gY 10 _ rfl
                have x11 : Y.cell? ⟨w4.heap.size, 11, none⟩ = some (.slice bd 0 ed') := row_cell gY 11 _ rfl
                have GY := Go.Lib.hid gY
                have HBE := Go.Lib.hid hbe
                have HLA := Go.Lib.hid hla
                have HLS := Go.Lib.hid hls
                have HLD := Go.Lib.hid hld
                clear gY hbe hla hls hld
                clear hb4 hbY hb3Y ht4 G3 HBW3 HM3 HDC
                simp only [MC] at hY
                go_wp2_with fail
                clear hY x4 x9 x10 x11
                refine (HAW.out _).mono ?_; rintro e wz ⟨rfl, hx⟩
                have HXX := Go.Lib.hid hx
                clear hx
                go_wp2_with fail
                go_ret
                exact ⟨rfl, HBE.out.trans (HXX.out.mono HBE.out.size)⟩
              · skip
                rw [hfit] at hsl ⊢
                have hlen0 := cM_len 0 0 0 true false
                have hdec := dec_enc (cM_enc (a := 0) (b := 0) (c := 0) (ct := true) (ed := false) (by omega) (by omega) (by omega))
                have hla : (cM 0 0 0 true false).an.length = 0 := by simp [cM]
                have hls : (cM 0 0 0 true false).sv.length = 0 := by simp [cM]
                have hld : (cM 0 0 0 true false).ad.length = 0 := by simp [cM]
                generalize bytesM (cM 0 0 0 true false) = B at *
                simp only at hsl ⊢
                have hby : Byts w3 (.slice ab B.length cb) B := hsl.1
                simp only [Bool.false_eq_true, if_false, Nat.add_zero, Nat.mul_zero] at hlen0
                have hBm : ¬ most < (B.length : Int) := by omega
                have hdc := Decode_any ab cb B w3 hby (by omega)
                rw [hdec] at hdc
                have G3 := Go.Lib.hid g3
                have HBW3 := Go.Lib.hid hbw3
                have HM3 := Go.Lib.hid hm3
                have HDC := Go.Lib.hid hdc
                have HLEN := Go.Lib.hid hlen0
                clear g3 hbw3 hm3 hdc hlen0
                clear hsl hb3 hdec HFIT HMSG HF hby hfit
                generalize hBl : B.length = L at *
                have HBL := Go.Lib.hid hBl
                clear hBl
                go_wp2_with fail
                refine HDC.out.mono ?_; rintro e w4 ⟨q4, a4, s4, d4, rfl, ht4, hb4⟩
                obtain ⟨bq, eq, ba, ea, bv, es, bd, ed', rfl, rfl, rfl, rfl⟩ := msg_places ht4
                simp only at ht4 ⊢
                obtain ⟨Y, hY⟩ : ∃ Y, w4.alloc (.cells (MC (cM 0 0 0 true false) (.slice bq (cM 0 0 0 true false).qs.length eq) (.slice ba (cM 0 0 0 true false).an.length ea) (.slice bv (cM 0 0 0 true false).sv.length es) (.slice bd (cM 0 0 0 true false).ad.length ed')) 27) = Y := ⟨_, rfl⟩
                have gY : Y.heap[w4.heap.size]? = some (.cells (MC (cM 0 0 0 true false) (.slice bq (cM 0 0 0 true false).qs.length eq) (.slice ba (cM 0 0 0 true false).an.length ea) (.slice bv (cM 0 0 0 true false).sv.length es) (.slice bd (cM 0 0 0 true false).ad.length ed')) 27 (0, 0)) := by rw [← hY]; exact heap_alloc_new _ _
                have hbY : Below w4.heap.size w4 Y := by rw [← hY]; exact (Below.refl _ _).alloc (Nat.le_refl _) _
                have hb3Y := hb4.trans (hbY.mono hb4.size)
                have hbe := HBW3.out.trans (hb3Y.mono HBW3.out.size)
                rw [hla, hls, hld] at gY
                have x4 : Y.cell? ⟨w4.heap.size, 4, none⟩ = some (.bool true) := row_cell gY 4 _ rfl
                have x9 : Y.cell? ⟨w4.heap.size, 9, none⟩ = some (.slice ba 0 ea) := row_cell gY 9 _ rfl
                have x10 : Y.cell? ⟨w4.heap.size, 10, none⟩ = some (.slice bv 0 es) := row_cell gY 10 _ rfl
                have x11 : Y.cell? ⟨w4.heap.size, 11, none⟩ = some (.slice bd 0 ed') := row_cell gY 11 _ rfl
                have GY := Go.Lib.hid gY
                have HBE := Go.Lib.hid hbe
                have HLA := Go.Lib.hid hla
                have HLS := Go.Lib.hid hls
                have HLD := Go.Lib.hid hld
                clear gY hbe hla hls hld
                clear hb4 hbY hb3Y ht4 G3 HBW3 HM3 HDC
                simp only [MC] at hY
                go_wp2_with fail
                clear hY x4 x9 x10 x11
                refine (HAW.out _).mono ?_; rintro e wz ⟨rfl, hx⟩
                have HXX := Go.Lib.hid hx
                clear hx
                go_wp2_with fail
                go_ret
                exact ⟨rfl, HBE.out.trans (HXX.out.mono HBE.out.size)⟩
theorem walk (a b c most : Int) (w : World) (_ : Fits a) (_ : Fits b) (_ : Fits c) (_ : Fits most) :
    Calls Try.prog 10 #[.int .i64 a, .int .i64 b, .int .i64 c, .int .i64 most] w fun e w' => e = .returned (.bool true) ∧ Below w.heap.size w w' := by
  have haw := Go.Lib.hid awake4_any
  by_cases hok : 0 ≤ a ∧ a ≤ 40 ∧ 0 ≤ b ∧ b ≤ 40 ∧ 0 ≤ c ∧ c ≤ 40 ∧ 0 ≤ most ∧ most ≤ 5000
  · obtain ⟨i, rfl⟩ : ∃ i : Nat, a = i := ⟨a.toNat, by omega⟩
    obtain ⟨j, rfl⟩ : ∃ j : Nat, b = j := ⟨b.toNat, by omega⟩
    obtain ⟨k, rfl⟩ : ∃ k : Nat, c = k := ⟨c.toNat, by omega⟩
    exact t1 i j k most w (by omega) (by omega) (by omega) (by omega) (by omega) haw
  · exact t0 a b c most w hok haw

set_option maxRecDepth 100000 in
theorem lifted (os : Os) (started : os.Started) (H : Type) (enc : TypeId × Value → H) :
    ReturnsInHanded {} Try.checked os 10 .any (Rows.messageFitsSpec.pre6 enc Try.prog Try.f10 Rows.messageFitsRow.domain false) (Rows.messageFitsSpec.post enc Try.prog Try.f10 false true false false) := by
  refine returnsInHanded_of_change (C := Try.checked) own started (by kernel_rfl) Try.func10
    (ChangeSpec.witness6 (enc := enc) (C := Try.checked) false ⟨#[], #[.int .i64 0, .int .i64 0, .int .i64 0, .int .i64 0], []⟩ 8 (by kernel_rfl) (by kernel_rfl) (by kernel_rfl) (by kernel_rfl)) ?_
  intro W base args ds gs before hval0 hW hcnd _
  have hval : ∀ (j : Nat) t v, Try.f10.params[j]? = some t → args[j]? = some v → Value.okWide Try.prog W .any base t v := hval0
  refine law_post enc 4 (by kernel_rfl) rfl rfl (by kernel_rfl) (fun ds h => match ds, h with | [_, _, _, _], _ => rfl) hW ?_
  obtain ⟨p, q, hA0, hV, rfl, _, _⟩ := hW
  have hA : DataW.TrodAll enc Try.prog W 0 (fun _ => true) true Try.f10.params.toList args.toList ds p := hA0
  rw [Try.params10] at hA hval
  obtain ⟨v0, vs0, d0, ds0, p0, q0, hargs, rfl, rfl, h0, r0⟩ := trodAll_cons hA
  obtain ⟨v1, vs1, d1, ds1, p1, q1, rfl, rfl, rfl, h1, r1⟩ := trodAll_cons r0
  obtain ⟨v2, vs2, d2, ds2, p2, q2, rfl, rfl, rfl, h2, r2⟩ := trodAll_cons r1
  obtain ⟨v3, vs3, d3, ds3, p3, q3, rfl, rfl, rfl, h3, r3⟩ := trodAll_cons r2
  obtain ⟨rfl, rfl, rfl⟩ := trodAll_nil r3
  obtain rfl : args = #[v0, v1, v2, v3] := by cases args; simp_all
  obtain ⟨a0, rfl, rfl, rfl, w0⟩ := open_int Try.underlying3 (hval 0 3 v0 rfl rfl) h0
  obtain ⟨a1, rfl, rfl, rfl, w1⟩ := open_int Try.underlying3 (hval 1 3 v1 rfl rfl) h1
  obtain ⟨a2, rfl, rfl, rfl, w2⟩ := open_int Try.underlying3 (hval 2 3 v2 rfl rfl) h2
  obtain ⟨a3, rfl, rfl, rfl, w3⟩ := open_int Try.underlying3 (hval 3 3 v3 rfl rfl) h3
  exact walk a0 a1 a2 a3 W (fits_of_wf w0) (fits_of_wf w1) (fits_of_wf w2) (fits_of_wf w3)

theorem over : Rows.messageFitsRow.holds Try.pinned (OpenSpec.ofChange Rows.messageFitsSpec) :=
  OpenClaim.holds_of_wide 10 Try.f10 rfl rfl rfl rfl rfl rfl rfl ⟨rfl, rfl, rfl, rfl, rfl⟩ rfl rfl rfl rfl rfl (by kernel_rfl) Try.func10 (by kernel_rfl)
    (of_decide_eq_true (by kernel_rfl)) (by unfold Func.isWrapper; first | (rw [if_pos (by decide +kernel)]; kernel_rfl) | (rw [if_neg (by decide +kernel)]; exact ⟨rfl, rfl⟩))
    (fun os started H enc _ => lifted os started H enc)

/-- the statement -/
theorem proved : Rows.MessageFitsSaid := over
#print axioms proved
end Go.Proofs.Ythfhmbooeemaaaa.messageFits
