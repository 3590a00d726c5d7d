/- The contracts of record.among, SameSet: whether the records of two sets are the same. -/
import Derived.Test.YthfpijacemkbbaaDoorRR
import Derived.Test.YthfpijacemkbbaaDoorRqE
namespace Go.Proofs.YthfpijacemkbbaaDoor
open Go.RowKit Go.Shelf Go.Sq
set_option linter.unusedVariables false

/-- is each of these among those? -/
def amongB (a b : List Rc.RR) : Bool := a.all fun x => b.any fun y => Rc.sameRR x y
def sameSetB (a b : List Rc.RR) : Bool := amongB a b && amongB b a
set_option maxRecDepth 100000 in
set_option maxHeartbeats 2000000 in
theorem amongF_any (x : Rc.RR) (B : Nat) (hx : RROk x) (W : World) (hB : W.heap[B]? = some (.cells (rrC x) 23 (0, 0))) (r : Rc.RR) (hr : RROk r) :
    Calls Tryd.prog 65 (#[rrV r] ++ #[.pointer (some ⟨B, 0, none⟩)]) W fun e W' => e = .returned (.bool (Rc.sameRR x r)) ∧ Below W.heap.size W W' := by
  have hs := fun w => recSame_any x r w hx hr
  have hg := cell_of_heap hB
  have hlt := (Array.getElem?_eq_some_iff.1 hB).1
  generalize Rc.sameRR x r = res at *
  obtain ⟨xn, xt, xc, xl, xd⟩ := x
  obtain ⟨rn, rt, rc, rl, rd⟩ := r
  have c0 : W.cell? ⟨B, 0, none⟩ = some (.string (mk xn)) := hg 0
  have c1 : W.cell? ⟨B, 1, none⟩ = some (.int .i64 xt) := hg 1
  have c2 : W.cell? ⟨B, 2, none⟩ = some (.int .i64 xc) := hg 2
  have c3 : W.cell? ⟨B, 3, none⟩ = some (.int .i64 xl) := hg 3
  have c4 : W.cell? ⟨B, 4, none⟩ = some (.string (mk xd)) := hg 4
  simp only [rrV] at hs ⊢
  have HS := Go.Lib.hid hs
  have HB := Go.Lib.hid hB
  clear hs hB
  clear hg
  change Calls Tryd.prog 65 #[.agg #[.string (mk rn), .int .i64 rt, .int .i64 rc, .int .i64 rl, .string (mk rd)], .pointer (some ⟨B, 0, none⟩)] W _
  go_enter Tryd.func65, Tryd.ntmps65
  go_wp2_with fail
  refine (HS.out _).mono ?_; rintro e W2 ⟨rfl, hx2⟩
  have HX2 := Go.Lib.hid hx2
  clear hx2
  go_wp2_with fail
  go_ret
  exact ⟨rfl, ((Below.refl _ W).alloc (Nat.le_refl _) _).trans (HX2.out.mono (by simp))⟩

set_option maxRecDepth 100000 in
set_option maxHeartbeats 4000000 in
theorem among_any (va vb : Value) (la lb : List Rc.RR) (w : World) (ha : RRs w va la) (hb : RRs w vb lb) (hna : la.length ≤ 1099511627776) (hnb : lb.length ≤ 1099511627776) (hoa : ∀ r ∈ la, RROk r) (hob : ∀ r ∈ lb, RROk r) :
    Calls Tryd.prog 52 #[va, vb] w fun e w' => e = .returned (.bool (amongB la lb)) ∧ Below w.heap.size w w' := by
  obtain ⟨a, cap, rfl, hcap, hcm⟩ := ha.slice
  obtain ⟨b, capb, rfl, hcapb, hcmb⟩ := hb.slice
  have HBL := Go.Lib.hid (Below.refl w.heap.size w)
  have HA := Go.Lib.hid ha
  have HBV := Go.Lib.hid hb
  have HOA := Go.Lib.hid hoa
  have HOB := Go.Lib.hid hob
  clear ha hb hoa hob
  generalize hN : la.length = N at *
  generalize hM : lb.length = M at *
  have HN := Go.Lib.hid hN
  have HM := Go.Lib.hid hM
  clear hN hM
  have hent : ∀ args w, (callFunc 65 args).run Tryd.prog w = .ok (.enter 65 args) w := enters_of Tryd.func65 (by kernel_rfl) rfl
  have HENT := Go.Lib.hid hent
  clear hent
  go_enter Tryd.func52, Tryd.ntmps52
  go_wp2_with fail
  go_loopw [9, 6] (fun i t wr => ∃ k : Nat, i = .int .i64 k ∧ k ≤ N ∧ (∀ x ∈ la.take k, (lb.any fun y => Rc.sameRR x y) = true) ∧ Below w.heap.size w wr) (fun i _ _ => N - (intOf i).toNat)
  case atStart => exact ⟨0, rfl, by omega, by simp, HBL.out⟩
  case round =>
    obtain ⟨k, rfl, hk, hall, hbr⟩ := hrel
    clear HBL
    have HALL := Go.Lib.hid hall
    have HB := Go.Lib.hid hbr
    clear hall hbr
    by_cases hlt : k < N
    · have hst := HA.out.below HB.out (Nat.le_refl _)
      rw [← HN.out] at hst
      obtain ⟨ba, off, rfl, hbw, hcell⟩ := RRs.at hst (by rw [HN.out]; omega)
      obtain ⟨e0, e1, e2, e3, e4⟩ := hcell k (by rw [HN.out]; exact hlt)
      have hmem : la.getD k r0 ∈ la := by
        rw [List.getD_eq_getElem?_getD, List.getElem?_eq_getElem (by rw [HN.out]; exact hlt)]
        simp
      have hox := HOA.out _ hmem
      have hsn : la.take (k + 1) = la.take k ++ [la.getD k r0] := by
        rw [List.take_succ_eq_append_getElem (by rw [HN.out]; exact hlt)]
        simp [HN.out, hlt]
      have HSN := Go.Lib.hid hsn
      have HOX := Go.Lib.hid hox
      have HMEM := Go.Lib.hid hmem
      clear hsn hox hmem
      clear hcell hst
      generalize la.getD k r0 = x at *
      have hone := one_rrC x
      have hZ := World.alloc_heap_new wr (.cells (rrC rZ) 23)
      have hS := setRow_heap (wr.alloc (.cells (rrC rZ) 23)) wr.heap.size _ (rrC x) _ _ hZ
      have hbX : Below wr.heap.size wr ((wr.alloc (.cells (rrC rZ) 23)).setRow wr.heap.size (rrC x)) := below_setRow ((Below.refl _ wr).alloc (Nat.le_refl _) _) (Nat.le_refl _) _
      have hvb := (HBV.out.below HB.out (Nat.le_refl _)).below hbX (Nat.le_refl _)
      rw [← HM.out] at hvb
      have hf := fun (W : World) (r : Rc.RR) (hr : r ∈ lb) (hW : Below ((wr.alloc (.cells (rrC rZ) 23)).setRow wr.heap.size (rrC x)).heap.size ((wr.alloc (.cells (rrC rZ) 23)).setRow wr.heap.size (rrC x)) W) =>
        amongF_any x wr.heap.size HOX.out W ((hW.block _ (Array.getElem?_eq_some_iff.1 hS).1).trans hS) r (HOB.out r hr)
      have hcall := hasR_any 65 #[.pointer (some ⟨wr.heap.size, 0, none⟩)] (fun y => Rc.sameRR x y) b capb lb _ hvb (by rw [HM.out]; exact hnb) HENT.out hf
      rw [HM.out] at hcall
      have HCALL := Go.Lib.hid hcall
      have HBX := Go.Lib.hid hbX
      have HS := Go.Lib.hid hS
      have HZ := Go.Lib.hid hZ
      have HONE := Go.Lib.hid hone
      clear hcall hbX hS hZ hone
      clear hvb hf
      cases hp : (lb.any fun y => Rc.sameRR x y) with
      | true =>
        have hall2 : ∀ z ∈ la.take (k + 1), (lb.any fun y => Rc.sameRR z y) = true := fun z hz => by
          rw [HSN.out] at hz
          rcases List.mem_append.1 hz with h | h
          · exact HALL.out z h
          · simp at h; rw [h]; exact hp
        rw [hp] at HCALL
        have HALL2 := Go.Lib.hid hall2
        clear hall2
        clear hp
        go_wp2_with (refine wpList_store_row rfl 23 (.tmp 6) (.tmp 12) rfl wr.heap.size (rrC x) rfl rfl _ _ HZ.out infoR5 rfl HONE.out ?_)
        refine HCALL.out.mono ?_; rintro e W2 ⟨rfl, hx2⟩
        have hb2 := HB.out.trans ((HBX.out.trans (hx2.mono HBX.out.size)).mono HB.out.size)
        have HB2 := Go.Lib.hid hb2
        clear hb2
        clear hx2
        go_wp2_with fail
        go_roundw
        case rel => exact ⟨k + 1, by go_num, by omega, HALL2.out, HB2.out⟩
        case measure => simp [intOf]; omega
      | false =>
        have hfin : Hid (amongB la lb = false) := Go.Lib.hid (by
          cases hr : amongB la lb with
          | false => rfl
          | true =>
            have := List.all_eq_true.1 hr _ HMEM.out
            rw [hp] at this
            cases this)
        rw [hp] at HCALL
        clear hp
        go_wp2_with (refine wpList_store_row rfl 23 (.tmp 6) (.tmp 12) rfl wr.heap.size (rrC x) rfl rfl _ _ HZ.out infoR5 rfl HONE.out ?_)
        refine HCALL.out.mono ?_; rintro e W2 ⟨rfl, hx2⟩
        have hb2 := HB.out.trans ((HBX.out.trans (hx2.mono HBX.out.size)).mono HB.out.size)
        have HB2 := Go.Lib.hid hb2
        clear hb2
        clear hx2
        go_wp2_with fail
        go_ret
        exact ⟨ret_bool hfin.out.symm, HB2.out⟩
    · have hfin : Hid (amongB la lb = true) := Go.Lib.hid (by
        refine List.all_eq_true.2 fun z hz => ?_
        have h := HALL.out z (by rw [List.take_of_length_le (by rw [HN.out]; omega)]; exact hz)
        exact h)
      go_wp2_with fail
      go_ret
      exact ⟨ret_bool hfin.out.symm, HB.out⟩
set_option maxRecDepth 100000 in
set_option maxHeartbeats 2000000 in
theorem SameSet_any (va vb : Value) (la lb : List Rc.RR) (w : World) (ha : RRs w va la) (hb : RRs w vb lb) (hna : la.length ≤ 1099511627776) (hnb : lb.length ≤ 1099511627776) (hoa : ∀ r ∈ la, RROk r) (hob : ∀ r ∈ lb, RROk r) :
    Calls Tryd.prog 27 #[va, vb] w fun e w' => e = .returned (.bool (sameSetB la lb)) ∧ Below w.heap.size w w' := by
  have h1 := among_any va vb la lb w ha hb hna hnb hoa hob
  have h2 := fun w2 (hx : Below w.heap.size w w2) => among_any vb va lb la w2 (hb.below hx (Nat.le_refl _)) (ha.below hx (Nat.le_refl _)) hnb hna hob hoa
  have hs : sameSetB la lb = (amongB la lb && amongB lb la) := rfl
  generalize sameSetB la lb = res at *
  generalize amongB lb la = r2 at *
  generalize amongB la lb = r1 at *
  have H1 := Go.Lib.hid h1
  have H2 := Go.Lib.hid h2
  have HS := Go.Lib.hid hs
  have HA := Go.Lib.hid ha
  have HBV := Go.Lib.hid hb
  clear h1 h2 hs ha hb
  cases r1 with
  | true =>
    go_enter Tryd.func27, Tryd.ntmps27
    go_wp2_with fail
    refine H1.out.mono ?_; rintro e W2 ⟨rfl, hx⟩
    have HX := Go.Lib.hid hx
    clear hx
    go_wp2_with fail
    refine (H2.out _ HX.out).mono ?_; rintro e W3 ⟨rfl, hx3⟩
    have HX3 := Go.Lib.hid hx3
    clear hx3
    go_wp2_with fail
    go_ret
    exact ⟨ret_bool (by rw [HS.out]; rfl), HX.out.trans (HX3.out.mono HX.out.size)⟩
  | false =>
    go_enter Tryd.func27, Tryd.ntmps27
    go_wp2_with fail
    refine H1.out.mono ?_; rintro e W2 ⟨rfl, hx⟩
    have HX := Go.Lib.hid hx
    clear hx
    go_wp2_with fail
    go_ret
    exact ⟨ret_bool (by rw [HS.out]; rfl), HX.out⟩
end Go.Proofs.YthfpijacemkbbaaDoor

