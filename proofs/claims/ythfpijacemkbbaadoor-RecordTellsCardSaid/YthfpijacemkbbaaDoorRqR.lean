/- The contracts of the reference's Known, Target, Addr, Minimum, SameSet. -/
import Derived.Test.YthfpijacemkbbaaDoorRpB
import Derived.Test.YthfpijacemkbbaaDoorRqO
import Derived.Test.YthfpijacemkbbaaDoorRqT
namespace Go.Proofs.YthfpijacemkbbaaDoor
open Go.RowKit
set_option linter.unusedVariables false

/-! ### plain -/
def knL : List Int := [1, 2, 5, 6, 12, 15, 16, 28, 33]
theorem known_any (t : Int) : knownB t = knL.any fun x => x == t := by
  unfold knownB knL
  rw [Bool.eq_iff_iff, decide_eq_true_eq]
  simp only [List.any_cons, List.any_nil, Bool.or_false, Bool.or_eq_true, beq_iff_eq]
  constructor <;> (intro h; omega)
theorem ints_new (W : World) (l : List Int) (T : TypeId) (k : Nat) (hk : k < l.length) : (W.alloc (.cells (l.map (Value.int .i64)).toArray T)).cell? ⟨W.heap.size, k, none⟩ = some (.int .i64 (l.getD k 0)) := by
  rw [World.cell?_alloc_at (hn := rfl)]
  simp [List.getD_eq_getElem?_getD, hk]
/-- a target, by the list of names: there is one just where there is one name -/
theorem targ_parts (t : Int) (d : List UInt8) : targP t d = match Rc.partsN t d with | some [x] => ((d.drop x.1).take x.2, true) | _ => ([], false) := by
  unfold targP
  by_cases ht : t = 6
  · rw [if_pos ht]
    subst ht
    cases h : Rc.partsN 6 d with
    | none => rfl
    | some l =>
      have hl : l.length = 2 := by
        unfold Rc.partsN at h
        split at h
        · rename_i hd
          simp only [Option.some.injEq] at h
          have h20 := soa_long hd
          unfold Rc.dataB at hd
          rw [if_neg (by omega), if_neg (by omega), if_neg (by omega), if_neg (by omega)] at hd
          rw [← h]
          unfold Rc.placesP at hd ⊢
          rw [show Rc.shape 6 = some (0, 2, 20) from rfl] at hd ⊢
          simp only at hd ⊢
          rw [if_neg (by omega)] at hd ⊢
          cases hn : Rc.names d 0 2 with
          | none => rw [hn] at hd; simp at hd
          | some p =>
            obtain ⟨l2, e2⟩ := p
            exact (Rc.names_chain (by omega) 2 l2 e2 hn).1
        · cases h
      match l, hl with
      | [_, _], _ => rfl
  · rw [if_neg ht]
    cases h : Rc.partsN t d with
    | none => rfl
    | some l =>
      have hl : l.length ≤ 1 := by
        unfold Rc.partsN at h
        split at h
        · simp only [Option.some.injEq] at h
          rw [← h]
          unfold Rc.placesP
          split
          · simp
          · rename_i a m b hs
            have hm : m = 1 := by
              unfold Rc.shape at hs
              repeat' split at hs
              all_goals first | (simp only [Option.some.injEq, Prod.mk.injEq] at hs; omega) | cases hs
            subst hm
            split
            · simp
            · rename_i hlen
              split
              · simp
              · rename_i l2 e2 hn
                exact Nat.le_of_eq (Rc.names_chain (by omega) 1 l2 e2 hn).1
        · cases h
      match l, hl with
      | [], _ => rfl
      | [_], _ => rfl
set_option maxRecDepth 100000 in
set_option maxHeartbeats 4000000 in
theorem refKnown_any (t : Int) (w : World) : Calls Tryd.prog 16 #[.int .i64 t] w fun e w' => e = .returned (.bool (knownB t)) ∧ Below w.heap.size w w' := by
  have hk := known_any t
  have hcell := fun (k : Nat) (h : k < 9) => ints_new w knL 3 k h
  have hb0 : Below w.heap.size w (w.alloc (.cells (knL.map (Value.int .i64)).toArray 3)) := (Below.refl _ w).alloc (Nat.le_refl _) _
  generalize knownB t = res at *
  have HK := Go.Lib.hid hk
  have HC := Go.Lib.hid hcell
  have HB0 := Go.Lib.hid hb0
  clear hk hcell hb0
  go_enter Tryd.func16, Tryd.ntmps16
  go_wp2_with fail
  change Code.wp _ _ _ _ (w.alloc (.cells (knL.map (Value.int .i64)).toArray 3))
  generalize w.alloc (.cells (knL.map (Value.int .i64)).toArray 3) = X at *
  go_loopw [4] (fun i wr => wr = X ∧ ∃ k : Nat, i = .int .i64 k ∧ k ≤ 9 ∧ ∀ j, j < k → ¬ knL.getD j 0 = t) (fun i _ => 9 - (intOf i).toNat)
  case atStart => exact ⟨rfl, 0, rfl, by omega, fun j h => by omega⟩
  case round =>
    obtain ⟨rfl, k, rfl, hk9, hall⟩ := hrel
    have HALL := Go.Lib.hid hall
    clear hall
    by_cases hlt : k < 9
    · have e0 := HC.out k hlt
      by_cases heq : knL.getD k 0 = t
      · have hres : Hid (res = true) := Go.Lib.hid (by
          rw [HK.out, List.any_eq_true]
          refine ⟨knL.getD k 0, ?_, by rw [heq]; exact beq_self_eq_true _⟩
          rw [List.getD_eq_getElem?_getD, List.getElem?_eq_getElem (show k < knL.length from hlt)]
          simp)
        have e1 : (knL.getD k 0 == t) = true := by rw [heq]; exact beq_self_eq_true _
        clear heq
        generalize knL.getD k 0 = v at *
        clear HALL HC
        go_wp2_with fail
        go_ret
        exact ⟨ret_bool hres.out.symm, HB0.out⟩
      · have hall2 : ∀ j, j < k + 1 → ¬ knL.getD j 0 = t := fun j hj => by
          rcases Nat.lt_or_ge j k with h | h
          · exact HALL.out j h
          · obtain rfl : j = k := by omega
            exact heq
        have e1 : (knL.getD k 0 == t) = false := beq_eq_false_iff_ne.2 heq
        have HALL2 := Go.Lib.hid hall2
        clear hall2
        clear heq
        generalize knL.getD k 0 = v at *
        go_wp2_with fail
        go_roundw
        case rel => exact ⟨by first | rfl | trivial, k + 1, by go_num, by omega, HALL2.out⟩
        case measure => simp [intOf]; omega
    · have hres : Hid (res = false) := Go.Lib.hid (by
        rw [HK.out, List.any_eq_false]
        intro x hx
        obtain ⟨j, hj, rfl⟩ := List.getElem_of_mem hx
        have h := HALL.out j (by have : j < 9 := hj; omega)
        rw [List.getD_eq_getElem?_getD, List.getElem?_eq_getElem hj] at h
        simpa using h)
      go_wp2_with fail
      go_ret
      exact ⟨ret_bool hres.out.symm, HB0.out⟩
set_option maxRecDepth 100000 in
set_option maxHeartbeats 4000000 in
theorem refAddr_any (r : Rc.RR) (w : World) (hr : RROk r) : Calls Tryd.prog 22 #[rrV r] w fun e w' => e = .returned (addrV r.ty r.data) ∧ Below w.heap.size w w' := by
  obtain ⟨rn, ty, cl, tl, rd⟩ := r
  obtain ⟨h1, h2⟩ := hr
  simp only at h1 h2
  have hH := World.alloc_heap_new w (.cells (rrC ⟨rn, ty, cl, tl, rd⟩) 23)
  have h0 : Below w.heap.size w (w.alloc (.cells (rrC ⟨rn, ty, cl, tl, rd⟩) 23)) := (Below.refl _ w).alloc (Nat.le_refl _) _
  simp only [rrV]
  have hsz : (mk rd).size = rd.length := size_mk rd
  by_cases ht : ty = 1
  · subst ht
    by_cases h4 : rd.length = 4
    · obtain ⟨a, b, c, e, rfl⟩ := four_of h4
      have hv : Hid (addrV 1 [a, b, c, e] = .tuple #[.int .i64 (num4 a b c e), .bool true]) := Go.Lib.hid (by unfold addrV; rw [if_pos ⟨rfl, rfl⟩]; rfl)
      have HH := Go.Lib.hid hH
      have H0 := Go.Lib.hid h0
      clear hH h0
      clear h4 h1 h2
      go_enter Tryd.func22, Tryd.ntmps22
      go_wp2_with fail
      refine (freshetref1_number_any a b c e _).mono ?_; rintro e X2 ⟨rfl, hx⟩
      have HX2 := Go.Lib.hid hx
      clear hx
      go_wp2_with fail
      go_ret2
      exact ⟨(by rw [hv.out]; rfl), H0.out.trans (HX2.out.mono H0.out.size)⟩
    · have hv : Hid (addrV 1 rd = .tuple #[.int .i64 0, .bool false]) := Go.Lib.hid (by unfold addrV; rw [if_neg (fun h => h4 h.2)])
      have e1 : ((rd.length : Int) != 4) = true := by simp; omega
      have e2 : ¬ (rd.length : Int) = 4 := by omega
      have HH := Go.Lib.hid hH
      have H0 := Go.Lib.hid h0
      clear hH h0
      clear h4 h1 h2
      go_enter Tryd.func22, Tryd.ntmps22
      go_wp2_with fail
      go_ret2
      exact ⟨(by rw [hv.out]; rfl), H0.out⟩
  · have hv : Hid (addrV ty rd = .tuple #[.int .i64 0, .bool false]) := Go.Lib.hid (by unfold addrV; rw [if_neg (fun h => ht h.1)])
    have e2 : (ty != 1) = true := by simp [ht]
    have HH := Go.Lib.hid hH
    have H0 := Go.Lib.hid h0
    clear hH h0
    clear h1 h2
    go_enter Tryd.func22, Tryd.ntmps22
    go_wp2_with fail
    go_ret2
    exact ⟨(by rw [hv.out]; rfl), H0.out⟩
set_option maxRecDepth 100000 in
set_option maxHeartbeats 8000000 in
theorem refMinimum_any (r : Rc.RR) (w : World) (hr : RROk r) : Calls Tryd.prog 24 #[rrV r] w fun e w' => e = .returned (minV r.ty r.data) ∧ Below w.heap.size w w' := by
  obtain ⟨rn, ty, cl, tl, rd⟩ := r
  obtain ⟨h1, h2⟩ := hr
  simp only at h1 h2
  have hp := fun W => Parts_any ty (mk rd) W
  rw [bl_mk] at hp
  have hpd := Rc.partsN_isSome ty rd
  have hH := World.alloc_heap_new w (.cells #[.string (mk rn), .int .i64 ty, .int .i64 cl, .int .i64 tl, .string (mk rd)] 23)
  have h0 : Below w.heap.size w (w.alloc (.cells #[.string (mk rn), .int .i64 ty, .int .i64 cl, .int .i64 tl, .string (mk rd)] 23)) := (Below.refl _ w).alloc (Nat.le_refl _) _
  simp only [rrV]
  cases hdb : Rc.dataB ty rd with
  | true =>
    have k1 : (Rc.partsN ty rd).isSome = true := by rw [hpd, hdb]
    generalize hps : Rc.partsN ty rd = ps at *
    by_cases ht : ty = 6
    · subst ht
      obtain ⟨g1, g2⟩ := soa_long hdb
      obtain ⟨a, b, c, e, hl⟩ := four_of (d := rd.drop (rd.length - 4)) (by rw [List.length_drop]; omega)
      have hv : Hid (minV 6 rd = .tuple #[.int .i64 (num4 a b c e), .bool true]) := Go.Lib.hid (by unfold minV; rw [if_pos ⟨rfl, hdb⟩]; unfold lastN; rw [hl]; rfl)
      have hx : (mk rd).extract ((mk rd).size - 4) (mk rd).size = mk [a, b, c, e] := by
        apply bl_inj
        rw [bl_extract, bl_mk, bl_mk, size_mk, hl, show rd.length - (rd.length - 4) = 4 by omega]
        rfl
      have g3 : 20 ≤ (mk rd).size := by rw [size_mk]; exact g1
      have g4 : (mk rd).size ≤ 1000 := by rw [size_mk]; exact g2
      generalize minV 6 rd = res at *
      clear hps hpd hdb hl g1 g2 h1 h2
      generalize mk rd = s at *
      have w0 : IntKind.i64.wrap ((s.size : Int) - 4) = (s.size : Int) - 4 := by rw [IntKind.wrap_i64]; omega
      have i1 : (0 : Int) ≤ (s.size : Int) - 4 := by omega
      have i2 : (s.size : Int) - 4 ≤ (s.size : Int) := by omega
      have i3 : ((s.size : Int) - 4).toNat = s.size - 4 := by omega
      have i4 : s.size - 4 ≤ s.size := by omega
      have HP := Go.Lib.hid hp
      have HH := Go.Lib.hid hH
      have H0 := Go.Lib.hid h0
      clear hp hH h0
      go_enter Tryd.func24, Tryd.ntmps24
      go_wp2_with fail
      generalize w.alloc (.cells #[.string (mk rn), .int .i64 6, .int .i64 cl, .int .i64 tl, .string s] 23) = X at *
      refine (HP.out _).mono ?_; rintro e X1 ⟨v, rfl, _, hx1⟩
      rw [k1]
      have hg := cell_of_heap ((hx1.block _ (Array.getElem?_eq_some_iff.1 HH.out).1).trans HH.out)
      have c1 : X1.cell? ⟨w.heap.size, 1, none⟩ = some (.int .i64 6) := hg 1
      have c4 : X1.cell? ⟨w.heap.size, 4, none⟩ = some (.string s) := hg 4
      have hb1 := H0.out.trans (hx1.mono H0.out.size)
      have HB1 := Go.Lib.hid hb1
      clear hb1
      clear hg hx1
      go_wp2_with fail
      refine (freshetref1_number_any a b c e _).mono ?_; rintro e X2 ⟨rfl, hx2⟩
      have HX2 := Go.Lib.hid hx2
      clear hx2
      go_wp2_with fail
      go_ret2
      exact ⟨(by rw [hv.out]; rfl), HB1.out.trans (HX2.out.mono HB1.out.size)⟩
    · have hv : Hid (minV ty rd = .tuple #[.int .i64 0, .bool false]) := Go.Lib.hid (by unfold minV; rw [if_neg (fun h => ht h.1)])
      have e2 : (ty != 6) = true := by simp [ht]
      clear hps hpd hdb h1 h2
      have HP := Go.Lib.hid hp
      have HH := Go.Lib.hid hH
      have H0 := Go.Lib.hid h0
      clear hp hH h0
      go_enter Tryd.func24, Tryd.ntmps24
      go_wp2_with fail
      generalize w.alloc (.cells #[.string (mk rn), .int .i64 ty, .int .i64 cl, .int .i64 tl, .string (mk rd)] 23) = X at *
      refine (HP.out _).mono ?_; rintro e X1 ⟨v, rfl, _, hx1⟩
      rw [k1]
      have hg := cell_of_heap ((hx1.block _ (Array.getElem?_eq_some_iff.1 HH.out).1).trans HH.out)
      have c1 : X1.cell? ⟨w.heap.size, 1, none⟩ = some (.int .i64 ty) := hg 1
      have hb1 := H0.out.trans (hx1.mono H0.out.size)
      have HB1 := Go.Lib.hid hb1
      clear hb1
      clear hg hx1
      go_wp2_with fail
      go_ret2
      exact ⟨(by rw [hv.out]; rfl), HB1.out⟩
  | false =>
    have k1 : (Rc.partsN ty rd).isSome = false := by rw [hpd, hdb]
    have hv : Hid (minV ty rd = .tuple #[.int .i64 0, .bool false]) := Go.Lib.hid (by
      unfold minV
      rw [if_neg]
      rintro ⟨rfl, h⟩
      rw [hdb] at h
      cases h)
    generalize hps : Rc.partsN ty rd = ps at *
    clear hps hpd hdb h1 h2
    have HP := Go.Lib.hid hp
    have HH := Go.Lib.hid hH
    have H0 := Go.Lib.hid h0
    clear hp hH h0
    go_enter Tryd.func24, Tryd.ntmps24
    go_wp2_with fail
    generalize w.alloc (.cells #[.string (mk rn), .int .i64 ty, .int .i64 cl, .int .i64 tl, .string (mk rd)] 23) = X at *
    refine (HP.out _).mono ?_; rintro e X1 ⟨v, rfl, _, hx1⟩
    rw [k1]
    have hb1 := H0.out.trans (hx1.mono H0.out.size)
    have HB1 := Go.Lib.hid hb1
    clear hb1
    clear hx1
    go_wp2_with fail
    go_ret2
    exact ⟨(by rw [hv.out]; rfl), HB1.out⟩
set_option maxRecDepth 100000 in
set_option maxHeartbeats 8000000 in
theorem refTarget_any (r : Rc.RR) (w : World) (hr : RROk r) : Calls Tryd.prog 20 #[rrV r] w fun e w' => e = .returned (targV r.ty r.data) ∧ Below w.heap.size w w' := by
  obtain ⟨rn, ty, cl, tl, rd⟩ := r
  obtain ⟨h1, h2⟩ := hr
  simp only at h1 h2
  have hp := fun W => Parts_any ty (mk rd) W
  rw [bl_mk] at hp
  have hH := World.alloc_heap_new w (.cells #[.string (mk rn), .int .i64 ty, .int .i64 cl, .int .i64 tl, .string (mk rd)] 23)
  have h0 : Below w.heap.size w (w.alloc (.cells #[.string (mk rn), .int .i64 ty, .int .i64 cl, .int .i64 tl, .string (mk rd)] 23)) := (Below.refl _ w).alloc (Nat.le_refl _) _
  simp only [rrV]
  have hvt : targV ty rd = .tuple #[.string (mk (targP ty rd).1), .bool (targP ty rd).2] := rfl
  have hone := targ_parts ty rd
  have hchain : ∀ l, Rc.partsN ty rd = some l → Rc.Chain rd 0 l := fun l h => (Rc.partsN_chain h).1
  generalize hps : Rc.partsN ty rd = ps at *
  by_cases hk : ∃ x, ps = some [x]
  · obtain ⟨x, rfl⟩ := hk
    obtain ⟨xa, xn⟩ := x
    have hmem := Rc.chain_mem _ _ (hchain _ rfl) (xa, xn) (by simp)
    simp only at hmem
    obtain ⟨_, n2, n3⟩ := hmem
    have hv : Hid (targV ty rd = .tuple #[.string (mk ((rd.drop xa).take xn)), .bool true]) := Go.Lib.hid (by rw [hvt, hone])
    have hx2 : (mk rd).extract xa (xa + xn) = mk ((rd.drop xa).take xn) := by
      apply bl_inj
      rw [bl_extract, bl_mk, bl_mk, show xa + xn - xa = xn by omega]
    have hsz : (mk rd).size = rd.length := size_mk _
    unfold maxLen at h2
    generalize targV ty rd = res at *
    generalize mk ((rd.drop xa).take xn) = part at *
    rw [← hsz] at n2 h2
    clear hsz hone hchain hps hvt h1
    generalize mk rd = s at *
    have w1 : wrap64 ((xa : Int) + (xn : Int)) = (xa : Int) + (xn : Int) := by unfold wrap64; omega
    have w1' : IntKind.i64.wrap ((xa : Int) + (xn : Int)) = (xa : Int) + (xn : Int) := by rw [IntKind.wrap_i64]; omega
    have w2' : ((xa : Int) + (xn : Int)).toNat = xa + xn := by omega
    have i3 : (xa : Int) + (xn : Int) ≤ (s.size : Int) := by omega
    have i4 : (xa : Int) ≤ (xa : Int) + (xn : Int) := by omega
    have i5 : (0 : Int) ≤ (xa : Int) + (xn : Int) := by omega
    have HP := Go.Lib.hid hp
    have HH := Go.Lib.hid hH
    have H0 := Go.Lib.hid h0
    clear hp hH h0
    go_enter Tryd.func20, Tryd.ntmps20
    go_wp2_with fail
    generalize w.alloc (.cells #[.string (mk rn), .int .i64 ty, .int .i64 cl, .int .i64 tl, .string s] 23) = X at *
    refine (HP.out _).mono ?_; rintro e X1 ⟨v, rfl, hpr, hx1⟩
    obtain ⟨pa, pc, hv0, hv1, hv2⟩ := hpr.slice
    have hv0' : v = .slice pa 1 pc := hv0
    subst hv0'
    obtain ⟨hz1, pb, po, rfl, hpb, hpc⟩ := SlC.at hpr (Nat.succ_pos 0)
    clear hz1
    have d0 : X1.cell? ⟨pb, po, none⟩ = some (.int .i64 (xa : Int)) := hpc 0 (by simp)
    have d1 : X1.cell? ⟨pb, po + 1, none⟩ = some (.int .i64 (xn : Int)) := hpc 1 (by simp)
    have hg := cell_of_heap ((hx1.block _ (Array.getElem?_eq_some_iff.1 HH.out).1).trans HH.out)
    have c4 : X1.cell? ⟨w.heap.size, 4, none⟩ = some (.string s) := hg 4
    have hb1 := H0.out.trans (hx1.mono H0.out.size)
    have HB1 := Go.Lib.hid hb1
    clear hb1
    have hsx := hx1.size
    clear hg hx1 hpr hv0 hpc
    have hw1 : w.heap.size < X1.heap.size := Nat.lt_of_lt_of_le (Array.getElem?_eq_some_iff.1 HH.out).1 hsx
    have D0 : ∀ w3 : Subtype (Below X1.heap.size X1), w3.1.cell? ⟨pb, po, none⟩ = some (.int .i64 (xa : Int)) := BelowC.cell d0 hpb
    have D1 : ∀ w3 : Subtype (Below X1.heap.size X1), w3.1.cell? ⟨pb, po + 1, none⟩ = some (.int .i64 (xn : Int)) := BelowC.cell d1 hpb
    have C4 : ∀ w3 : Subtype (Below X1.heap.size X1), w3.1.cell? ⟨w.heap.size, 4, none⟩ = some (.string s) := BelowC.cell c4 hw1
    have hnn : Nonempty (Subtype (Below X1.heap.size X1)) := ⟨⟨X1, Below.refl _ _⟩⟩
    clear d0 d1 c4
    go_wp2_with fail
    refine Go.Mix.wp_region_mix (Es := []) (Below X1.heap.size X1) mixed (by kernel_rfl) (Below.refl _ _).drew (fun _ => ?_)
    iterate 18 (refine Go.Mix.mix_step rfl (fun K hK => ?_); have HKK := Go.Lib.hid hK; clear hK; go_simp; refine HKK.out _ _ ?_; clear HKK K)
    refine Go.Mix.mix_nil ?_
    go_wp2_with fail
    go_ret2
    exact ⟨(by rw [hv.out]; rfl), HB1.out.drew⟩
  · have hv : Hid (targV ty rd = .tuple #[.string ⟨#[]⟩, .bool false]) := Go.Lib.hid (by
      rw [hvt, hone]
      match ps, hk with
      | none, _ => rfl
      | some [], _ => rfl
      | some [x], hk => exact absurd ⟨x, rfl⟩ hk
      | some (x :: y :: l), _ => rfl)
    have hch2 : ∀ l, ps = some l → l.length ≤ 2 := fun l h => (Rc.partsN_chain (hps.trans h)).2
    clear hone hchain hps hvt h1 h2
    have HP := Go.Lib.hid hp
    have HH := Go.Lib.hid hH
    have H0 := Go.Lib.hid h0
    clear hp hH h0
    go_enter Tryd.func20, Tryd.ntmps20
    go_wp2_with fail
    generalize w.alloc (.cells #[.string (mk rn), .int .i64 ty, .int .i64 cl, .int .i64 tl, .string (mk rd)] 23) = X at *
    refine (HP.out _).mono ?_; rintro e X1 ⟨v, rfl, hpr, hx1⟩
    have hb1 := H0.out.trans (hx1.mono H0.out.size)
    have HB1 := Go.Lib.hid hb1
    clear hb1
    clear hx1
    match ps, hk, hpr, hch2 with
    | none, _, _, _ =>
      go_wp2_with fail
      go_ret2
      exact ⟨(by rw [hv.out]; rfl), HB1.out⟩
    | some l, hk, hpr, hch2 =>
      obtain ⟨pa, pc, hv0, hv1, hv2⟩ := hpr.slice
      have hll := hch2 l rfl
      have hl1 : ¬ l.length = 1 := fun h => hk (by match l, h with | [x], _ => exact ⟨x, rfl⟩)
      have hv0' : v = .slice pa l.length pc := hv0
      subst hv0'
      clear hpr hv0 hv1 hv2 hk hch2
      generalize l.length = q at *
      have e1 : ((q : Int) != 1) = true := by simp; omega
      have e2 : ¬ (q : Int) = 1 := by omega
      go_wp2_with fail
      go_ret2
      exact ⟨(by rw [hv.out]; rfl), HB1.out⟩
end Go.Proofs.YthfpijacemkbbaaDoor

