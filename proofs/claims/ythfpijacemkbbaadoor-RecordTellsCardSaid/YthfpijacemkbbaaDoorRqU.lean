/- The contracts of the reference's SameSet, Decimal, TypeText. -/
import Derived.Test.YthfpijacemkbbaaDoorRqR
import Derived.Test.YthfpijacemkbbaaDoorRqK
namespace Go.Proofs.YthfpijacemkbbaaDoor
open Go.RowKit
set_option linter.unusedVariables false

def amongR (a b : List Rc.RR) : Bool := a.all fun x => b.any fun y => Rc.sameRR y x
theorem amongR_eq (a b : List Rc.RR) : amongR a b = amongB a b := by
  unfold amongR amongB
  congr 1
  funext x
  congr 1
  funext y
  exact Rc.same_symm
set_option maxRecDepth 100000 in
set_option maxHeartbeats 8000000 in
theorem refSameSet_any (va vb : Value) (la lb : List Rc.RR) (w : World) (ha : RRs w va la) (hb : RRs w vb lb) (hna : la.length ≤ 1099511627776) (hnb : lb.length ≤ 1099511627776) (hoa : ∀ r ∈ la, RROk r) (hob : ∀ r ∈ lb, RROk r) :
    Calls Tryd.prog 28 #[va, vb] w fun e w' => e = .returned (.bool (sameSetB la lb)) ∧ Below w.heap.size w w' := by
  obtain ⟨a, cap, rfl, hcap, hcm⟩ := ha.slice
  obtain ⟨b, capb, rfl, hcapb, hcmb⟩ := hb.slice
  have HBL := Go.Lib.hid (Below.refl w.heap.size w)
  have hs : sameSetB la lb = (amongR la lb && amongR lb la) := by rw [amongR_eq, amongR_eq]; rfl
  generalize sameSetB la lb = res at *
  have hina := fun (r : Rc.RR) (W : World) (hst : RRs W (.slice a la.length cap) la) (hr : RROk r) => refIn_any a cap la r W hst hoa hr
  have hinb := fun (r : Rc.RR) (W : World) (hst : RRs W (.slice b lb.length capb) lb) (hr : RROk r) => refIn_any b capb lb r W hst hob hr
  have HA := Go.Lib.hid ha
  have HBV := Go.Lib.hid hb
  have HOA := Go.Lib.hid hoa
  have HOB := Go.Lib.hid hob
  have HS := Go.Lib.hid hs
  clear ha hb hoa hob hs
  generalize hN : la.length = N at *
  generalize hM : lb.length = M at *
  have HN := Go.Lib.hid hN
  have HM := Go.Lib.hid hM
  have HINA := Go.Lib.hid hina
  have HINB := Go.Lib.hid hinb
  clear hN hM hina hinb
  go_enter Tryd.func28, Tryd.ntmps28
  go_wp2_with fail
  go_loopw [5] (fun i wr => ∃ k : Nat, i = .int .i64 k ∧ k ≤ N ∧ (∀ x ∈ la.take k, (lb.any fun y => Rc.sameRR y x) = true) ∧ Below w.heap.size w wr) (fun i _ => N - (intOf i).toNat)
  case atStart => exact ⟨0, rfl, by omega, by simp, HBL.out⟩
  case round =>
    obtain ⟨k, rfl, hk, hall, hbr⟩ := hrel
    clear HBL
    have HALL := Go.Lib.hid hall
    have HB := Go.Lib.hid hbr
    clear hall hbr
    by_cases hlt : k < N
    · have hst := HA.out.below HB.out (Nat.le_refl _)
      obtain ⟨ba, off, rfl, hbw, hcell⟩ := RRs.at (by rw [HN.out]; exact hst : RRs wr (.slice a la.length cap) la) (by rw [HN.out]; omega)
      obtain ⟨e0, e1, e2, e3, e4⟩ := hcell k (by rw [HN.out]; exact hlt)
      have hmem : la.getD k r0 ∈ la := by
        rw [List.getD_eq_getElem?_getD, List.getElem?_eq_getElem (by rw [HN.out]; exact hlt)]
        simp
      have hox := HOA.out _ hmem
      have hsn : la.take (k + 1) = la.take k ++ [la.getD k r0] := by
        rw [List.take_succ_eq_append_getElem (by rw [HN.out]; exact hlt)]
        simp [HN.out, hlt]
      generalize la.getD k r0 = x at *
      have hcall := HINB.out x wr (HBV.out.below HB.out (Nat.le_refl _)) hox
      have HSN := Go.Lib.hid hsn
      have HMEM := Go.Lib.hid hmem
      have HCALL := Go.Lib.hid hcall
      clear hsn hmem hcall
      clear hcell hst hox
      cases hp : (lb.any fun y => Rc.sameRR y x) with
      | true =>
        have hall2 : ∀ z ∈ la.take (k + 1), (lb.any fun y => Rc.sameRR y z) = true := fun z hz => by
          rw [HSN.out] at hz
          rcases List.mem_append.1 hz with h | h
          · exact HALL.out z h
          · simp at h; rw [h]; exact hp
        rw [hp] at HCALL
        have HALL2 := Go.Lib.hid hall2
        clear hall2
        clear hp
        go_wp2_with fail
        refine HCALL.out.mono ?_; rintro e W2 ⟨rfl, hx2⟩
        have hb2 := HB.out.trans (hx2.mono HB.out.size)
        have HB2 := Go.Lib.hid hb2
        clear hb2
        clear hx2
        go_wp2_with fail
        go_roundw
        case rel => exact ⟨k + 1, by go_num, by omega, HALL2.out, HB2.out⟩
        case measure => simp [intOf]; omega
      | false =>
        have hfin : Hid (res = false) := Go.Lib.hid (by
          rw [HS.out]
          have : amongR la lb = false := by
            cases hr : amongR la lb with
            | false => rfl
            | true =>
              have := List.all_eq_true.1 hr _ HMEM.out
              rw [hp] at this
              cases this
          rw [this]; rfl)
        rw [hp] at HCALL
        clear hp
        go_wp2_with fail
        refine HCALL.out.mono ?_; rintro e W2 ⟨rfl, hx2⟩
        have hb2 := HB.out.trans (hx2.mono HB.out.size)
        have HB2 := Go.Lib.hid hb2
        clear hb2
        clear hx2
        go_wp2_with fail
        go_ret
        exact ⟨ret_bool hfin.out.symm, HB2.out⟩
    · have h1 : amongR la lb = true := by
        refine List.all_eq_true.2 fun z hz => ?_
        exact HALL.out z (by rw [List.take_of_length_le (by rw [HN.out]; omega)]; exact hz)
      have hs2 : Hid (res = amongR lb la) := Go.Lib.hid (by rw [HS.out, h1]; rfl)
      clear h1 HALL HS
      generalize wr = w3 at *
      go_wp2_with fail
      go_loopw [6] (fun i wr => ∃ k : Nat, i = .int .i64 k ∧ k ≤ M ∧ (∀ x ∈ lb.take k, (la.any fun y => Rc.sameRR y x) = true) ∧ Below w.heap.size w wr) (fun i _ => M - (intOf i).toNat)
      case atStart => exact ⟨0, rfl, by omega, by simp, HB.out⟩
      case round =>
        obtain ⟨k2, rfl, hk2, hall, hbr⟩ := hrel
        clear HB
        have HALL := Go.Lib.hid hall
        have HB := Go.Lib.hid hbr
        clear hall hbr
        by_cases hlt2 : k2 < M
        · have hst := HBV.out.below HB.out (Nat.le_refl _)
          obtain ⟨ba, off, rfl, hbw, hcell⟩ := RRs.at (by rw [HM.out]; exact hst : RRs wr (.slice b lb.length capb) lb) (by rw [HM.out]; omega)
          obtain ⟨e0, e1, e2, e3, e4⟩ := hcell k2 (by rw [HM.out]; exact hlt2)
          have hmem : lb.getD k2 r0 ∈ lb := by
            rw [List.getD_eq_getElem?_getD, List.getElem?_eq_getElem (by rw [HM.out]; exact hlt2)]
            simp
          have hox := HOB.out _ hmem
          have hsn : lb.take (k2 + 1) = lb.take k2 ++ [lb.getD k2 r0] := by
            rw [List.take_succ_eq_append_getElem (by rw [HM.out]; exact hlt2)]
            simp [HM.out, hlt2]
          generalize lb.getD k2 r0 = x at *
          have hcall := HINA.out x wr (HA.out.below HB.out (Nat.le_refl _)) hox
          have HSN := Go.Lib.hid hsn
          have HMEM := Go.Lib.hid hmem
          have HCALL := Go.Lib.hid hcall
          clear hsn hmem hcall
          clear hcell hst hox
          cases hp : (la.any fun y => Rc.sameRR y x) with
          | true =>
            have hall2 : ∀ z ∈ lb.take (k2 + 1), (la.any fun y => Rc.sameRR y z) = true := fun z hz => by
              rw [HSN.out] at hz
              rcases List.mem_append.1 hz with h | h
              · exact HALL.out z h
              · simp at h; rw [h]; exact hp
            rw [hp] at HCALL
            have HALL2 := Go.Lib.hid hall2
            clear hall2
            clear hp
            go_wp2_with fail
            refine HCALL.out.mono ?_; rintro e W2 ⟨rfl, hx2⟩
            have hb2 := HB.out.trans (hx2.mono HB.out.size)
            have HB2 := Go.Lib.hid hb2
            clear hb2
            clear hx2
            go_wp2_with fail
            go_roundw
            case rel => exact ⟨k2 + 1, by go_num, by omega, HALL2.out, HB2.out⟩
            case measure => simp [intOf]; omega
          | false =>
            have hfin : Hid (res = false) := Go.Lib.hid (by
              rw [hs2.out]
              cases hr : amongR lb la with
              | false => rfl
              | true =>
                have := List.all_eq_true.1 hr _ HMEM.out
                rw [hp] at this
                cases this)
            rw [hp] at HCALL
            clear hp
            go_wp2_with fail
            refine HCALL.out.mono ?_; rintro e W2 ⟨rfl, hx2⟩
            have hb2 := HB.out.trans (hx2.mono HB.out.size)
            have HB2 := Go.Lib.hid hb2
            clear hb2
            clear hx2
            go_wp2_with fail
            go_ret
            exact ⟨ret_bool hfin.out.symm, HB2.out⟩
        · have hfin : Hid (res = true) := Go.Lib.hid (by
            rw [hs2.out]
            refine List.all_eq_true.2 fun z hz => ?_
            exact HALL.out z (by rw [List.take_of_length_le (by rw [HM.out]; omega)]; exact hz))
          go_wp2_with fail
          go_ret
          exact ⟨ret_bool hfin.out.symm, HB.out⟩
end Go.Proofs.YthfpijacemkbbaaDoor

