/- RecordTells: of any record, and any two, whether it may be, where names stand in it, whom it leads to, its address, its least time, and whether they are the same, is as the document says. For every input; no conditions. -/
import Derived.Test.YthfpijacemkbbaaDoorRqW
import Derived.Test.YthfpijacemkbbaaDoorRqQ
import Derived.Test.YthfpijacemkbbaaDoorOrdC
import Derived.Test.YthfpijacemkbbaaDoorOrdD
import Derived.Test.YthfpijacemkbbaaDoorOpn
import Derived.Test.YthfpijacemkbbaaDoorDoor
import Derived.Test.YthfpijacemkbbaaDoorTie
import Derived.Test.YthfpijacemkbbaaDoorCards
import Derived.WalkSmall
namespace Go.Proofs.YthfpijacemkbbaaDoor.recordTells
open Go.ChangeShapes Go.WideShapes Go.ChangeAt Go.RowKit Go.Shelf Go.Sq
open Go.ChangeMaps (open_string shut_string)
set_option linter.unusedVariables false

/-! ### the last region: four sets are built, in whatever order -/
def GB (w w' : World) : Prop := Below w.heap.size w w'
theorem GB.trans {A B C : World} (h : GB A B) (k : GB B C) : GB A C := Below.trans h (Below.mono k (Below.size h))
theorem GB.refl (A : World) : GB A A := Below.refl _ _
theorem GB.cell {W : World} {p : Addr} {v : Value} (h : W.cell? p = some v) (hp : p.block < W.heap.size) (w3 : Subtype (GB W.drew)) : w3.1.cell? p = some v := (Below.cell w3.2 (p := p) hp).trans h
def FT (r o : Rc.RR) (i : Nat) (v : Value) (w : World) : Prop := (i = 40 ∨ i = 46 → RRs w v [r, o]) ∧ (i = 42 ∨ i = 48 → RRs w v [o])
theorem FT.stable {r o : Rc.RR} {i : Nat} {v : Value} {w w' : World} (h : FT r o i v w) (hg : GB w w') : FT r o i v w' := ⟨fun k => (h.1 k).below hg (Nat.le_refl _), fun k => (h.2 k).below hg (Nat.le_refl _)⟩
def ST (b1 b2 : Bool) (i : Nat) (v : Value) : Prop := (i = 31 ∨ i = 34 → v = .bool b1) ∧ (i = 43 ∨ i = 49 → v = .bool b2) ∧ (i = 53 → v = .bool true)
theorem ST.inh (b1 b2 : Bool) (i : Nat) : ∃ v, ST b1 b2 i v := by
  by_cases h1 : i = 31 ∨ i = 34
  · exact ⟨.bool b1, fun _ => rfl, fun h => by omega, fun h => by omega⟩
  · by_cases h2 : i = 43 ∨ i = 49
    · exact ⟨.bool b2, fun h => absurd h h1, fun _ => rfl, fun h => by omega⟩
    · exact ⟨.bool true, fun h => absurd h h1, fun h => absurd h h2, fun _ => rfl⟩
theorem FT.no {r o : Rc.RR} {i : Nat} {v : Value} {w : World} (h : ¬ (i = 40 ∨ i = 46)) (h' : ¬ (i = 42 ∨ i = 48)) : FT r o i v w := ⟨fun k => absurd k h, fun k => absurd k h'⟩
theorem set_new (W : World) (l : List Rc.RR) (h : l.length ≤ maxLen) : RRs (W.alloc (.cells (encR l).toArray 23)) (.slice (some ⟨W.heap.size, 0, none⟩) l.length l.length) l := slc_new W 5 l.length 23 _ (encR_length l) h
theorem targ_tuple (t : Int) (d : List UInt8) : ∃ s b, targV t d = .tuple #[.string (mk s), .bool b] := ⟨_, _, rfl⟩
theorem addr_tuple (t : Int) (d : List UInt8) : ∃ x b, addrV t d = .tuple #[.int .i64 x, .bool b] := by unfold addrV; split <;> exact ⟨_, _, rfl⟩
theorem min_tuple (t : Int) (d : List UInt8) : ∃ x b, minV t d = .tuple #[.int .i64 x, .bool b] := by unfold minV; split <;> exact ⟨_, _, rfl⟩
theorem tab_below {w W : World} (h : Lib.TabIs Tryd.prog w "internal/strconv.uint64pow10" .u64 Lib.pow10Tab) (hb : Below w.heap.size w W) : Lib.TabIs Tryd.prog W "internal/strconv.uint64pow10" .u64 Lib.pow10Tab := by
  have hg : Tryd.prog.globalNamed "internal/strconv.uint64pow10" = some 0 := by kernel_rfl
  have hc := Lib.TabIs.cell h hg 0 (by decide)
  have hlt : 0 < w.heap.size := by
    rcases Nat.lt_or_ge 0 w.heap.size with k | k
    · exact k
    · have : w.heap[0]? = none := Array.getElem?_eq_none k
      simp [World.cell?, this] at hc
  exact var?_below hb hg hlt h

set_option maxRecDepth 100000 in
set_option maxHeartbeats 32000000 in
theorem t1 (rn rd on od : List UInt8) (rt rc rl ot oc ol t : Int) (w : World) (h1 : rn.length ≤ maxLen) (h2 : rd.length ≤ maxLen) (h3 : on.length ≤ maxLen) (h4 : od.length ≤ maxLen)
    (hl : 400 < rn.length ∨ (rn.length ≤ 400 ∧ 1200 < rd.length) ∨ (rn.length ≤ 400 ∧ rd.length ≤ 1200 ∧ 400 < on.length) ∨ (rn.length ≤ 400 ∧ rd.length ≤ 1200 ∧ on.length ≤ 400 ∧ 1200 < od.length)) :
    Calls Tryd.prog 3 #[.agg #[.string (mk rn), .int .i64 rt, .int .i64 rc, .int .i64 rl, .string (mk rd)], .agg #[.string (mk on), .int .i64 ot, .int .i64 oc, .int .i64 ol, .string (mk od)], .int .i64 t] w fun e w' => e = .returned (.bool true) ∧ Below w.heap.size w w' := by
  have HAW := Go.Lib.hid awake_any
  have hb0 : Below w.heap.size w ((w.alloc (.cells #[.string (mk rn), .int .i64 rt, .int .i64 rc, .int .i64 rl, .string (mk rd)] 23)).alloc (.cells #[.string (mk on), .int .i64 ot, .int .i64 oc, .int .i64 ol, .string (mk od)] 23)) := ((Below.refl _ w).alloc (Nat.le_refl _) _).alloc (by simp) _
  have z1 : (mk rn).size = rn.length := size_mk rn
  have z2 : (mk rd).size = rd.length := size_mk rd
  have z3 : (mk on).size = on.length := size_mk on
  have z4 : (mk od).size = od.length := size_mk od
  have HB0 := Go.Lib.hid hb0
  clear hb0
  unfold maxLen at h1 h2 h3 h4
  rcases hl with k1 | ⟨k1, k2⟩ | ⟨k1, k2, k3⟩ | ⟨k1, k2, k3, k4⟩
  all_goals
    go_enter Tryd.func3, Tryd.ntmps3
    go_wp2_with fail
    refine (HAW.out _).mono ?_; rintro e wz ⟨rfl, hx⟩
    have HX := Go.Lib.hid (HB0.out.trans (hx.mono HB0.out.size))
    clear hx
    go_wp2_with fail
    go_ret
    exact ⟨rfl, HX.out⟩

set_option maxRecDepth 100000 in
set_option maxHeartbeats 32000000 in
theorem k_true (rn rd on od : List UInt8) (rt rc rl ot oc ol t : Int) (w : World)
    (h1 : rn.length ≤ 400) (h2 : rd.length ≤ 1200) (h3 : on.length ≤ 400) (h4 : od.length ≤ 1200) (L : List (Nat × Nat)) (N : Nat) (hLN : L.length = N) (hN2 : N ≤ 2) (htab : Lib.TabIs Tryd.prog w "internal/strconv.uint64pow10" .u64 Lib.pow10Tab) (hT0 : -9223372036854775808 ≤ t) (hT1 : t ≤ 9223372036854775807)
    (HPA : Hid (∀ W, Calls Tryd.prog 10 #[.int .i64 rt, .string (mk rd)] W fun e w' => ∃ v, e = .returned (.tuple #[v, .bool true]) ∧ Pairs w' v L ∧ Below W.heap.size W w'))
    (HPB : Hid (∀ W, Calls Tryd.prog 11 #[.int .i64 rt, .string (mk rd)] W fun e w' => ∃ v, e = .returned v ∧ Pairs w' v L ∧ Below W.heap.size W w'))
    (HD : Hid (∀ W, Calls Tryd.prog 12 #[.int .i64 rt, .string (mk rd)] W fun e w' => e = .returned (.bool true) ∧ Below W.heap.size W w'))
    (HOR : Hid (RROk (⟨rn, rt, rc, rl, rd⟩ : Rc.RR))) (HOO : Hid (RROk (⟨on, ot, oc, ol, od⟩ : Rc.RR))) :
    Calls Tryd.prog 3 #[.agg #[.string (mk rn), .int .i64 rt, .int .i64 rc, .int .i64 rl, .string (mk rd)], .agg #[.string (mk on), .int .i64 ot, .int .i64 oc, .int .i64 ol, .string (mk od)], .int .i64 t] w fun e w' => e = .returned (.bool true) ∧ Below w.heap.size w w' := by
  have HAW := Go.Lib.hid awake_any
  have hb0 : Below w.heap.size w ((w.alloc (.cells #[.string (mk rn), .int .i64 rt, .int .i64 rc, .int .i64 rl, .string (mk rd)] 23)).alloc (.cells #[.string (mk on), .int .i64 ot, .int .i64 oc, .int .i64 ol, .string (mk od)] 23)) := ((Below.refl _ w).alloc (Nat.le_refl _) _).alloc (by simp) _
  have z1 : (mk rn).size = rn.length := size_mk rn
  have z2 : (mk rd).size = rd.length := size_mk rd
  have z3 : (mk on).size = on.length := size_mk on
  have z4 : (mk od).size = od.length := size_mk od
  obtain ⟨hR, hO⟩ := two_boxes w (rrC (⟨rn, rt, rc, rl, rd⟩ : Rc.RR)) (rrC (⟨on, ot, oc, ol, od⟩ : Rc.RR)) 23
  have hb0 : Below w.heap.size w ((w.alloc (.cells (rrC (⟨rn, rt, rc, rl, rd⟩ : Rc.RR)) 23)).alloc (.cells (rrC (⟨on, ot, oc, ol, od⟩ : Rc.RR)) 23)) := hb0
  have HTAB := Go.Lib.hid (fun (W : World) (hb : Below w.heap.size w W) => tab_below htab hb)
  have HTY := Go.Lib.hid (fun (W : World) (hb : Below w.heap.size w W) => Type_any t W hT0 hT1 (tab_below htab hb))
  have HTT := Go.Lib.hid (fun (W : World) => TypeText_any t W hT0 hT1)
  have HKN := Go.Lib.hid (fun (W : World) => Known_any t W)
  have HRK := Go.Lib.hid (fun (W : World) => refKnown_any t W)
  have HCK := Go.Lib.hid (fun (W : World) => Check_any (⟨rn, rt, rc, rl, rd⟩ : Rc.RR) W HOR.out)
  have HRC := Go.Lib.hid (fun (W : World) => refCheck_any (⟨rn, rt, rc, rl, rd⟩ : Rc.RR) W HOR.out)
  have HTG := Go.Lib.hid (fun (W : World) => Target_any (⟨rn, rt, rc, rl, rd⟩ : Rc.RR) W HOR.out)
  have HRT := Go.Lib.hid (fun (W : World) => refTarget_any (⟨rn, rt, rc, rl, rd⟩ : Rc.RR) W HOR.out)
  have HAD := Go.Lib.hid (fun (W : World) => Addr_any (⟨rn, rt, rc, rl, rd⟩ : Rc.RR) W HOR.out)
  have HRA := Go.Lib.hid (fun (W : World) => refAddr_any (⟨rn, rt, rc, rl, rd⟩ : Rc.RR) W HOR.out)
  have HMI := Go.Lib.hid (fun (W : World) => Minimum_any (⟨rn, rt, rc, rl, rd⟩ : Rc.RR) W HOR.out)
  have HRM := Go.Lib.hid (fun (W : World) => refMinimum_any (⟨rn, rt, rc, rl, rd⟩ : Rc.RR) W HOR.out)
  have HSA := Go.Lib.hid (fun (W : World) => recSame_any (⟨rn, rt, rc, rl, rd⟩ : Rc.RR) (⟨on, ot, oc, ol, od⟩ : Rc.RR) W HOR.out HOO.out)
  have HRS := Go.Lib.hid (fun (W : World) => refSameRR_any (⟨rn, rt, rc, rl, rd⟩ : Rc.RR) (⟨on, ot, oc, ol, od⟩ : Rc.RR) W HOR.out HOO.out)
  obtain ⟨tgs, tgb, htg⟩ := targ_tuple rt rd
  obtain ⟨adx, adb, had⟩ := addr_tuple rt rd
  obtain ⟨mix, mib, hmi⟩ := min_tuple rt rd
  simp only [htg, had, hmi] at HTG HRT HAD HRA HMI HRM
  generalize typeT t = tyx at *
  generalize knownB t = kb at *
  generalize checkB (⟨rn, rt, rc, rl, rd⟩ : Rc.RR) = cb at *
  generalize hsm : Rc.sameRR (⟨rn, rt, rc, rl, rd⟩ : Rc.RR) (⟨on, ot, oc, ol, od⟩ : Rc.RR) = sm at *
  have HB0 := Go.Lib.hid hb0
  have HR0 := Go.Lib.hid hR
  have HO0 := Go.Lib.hid hO
  have HLN := Go.Lib.hid hLN
  have HSM := Go.Lib.hid hsm
  clear hb0 hR hO hLN hsm
  clear htab hT0 hT1 htg had hmi HTAB
  go_enter Tryd.func3, Tryd.ntmps3
  go_wp2_with fail
  change Calls _ _ _ ((w.alloc (.cells (rrC (⟨rn, rt, rc, rl, rd⟩ : Rc.RR)) 23)).alloc (.cells (rrC (⟨on, ot, oc, ol, od⟩ : Rc.RR)) 23)) _
  generalize (w.alloc (.cells (rrC (⟨rn, rt, rc, rl, rd⟩ : Rc.RR)) 23)).alloc (.cells (rrC (⟨on, ot, oc, ol, od⟩ : Rc.RR)) 23) = X at *
  refine (HPA.out _).mono ?_; rintro e X1 ⟨v1, rfl, hp1, hx1⟩
  obtain ⟨pa, pc, hv1, q1, q2⟩ := hp1.slice
  rw [HLN.out] at hv1
  subst hv1
  obtain ⟨cR0, cR1, cR2, cR3, cR4⟩ := rr_cells HR0.out
  clear q1 q2
  have HP1 := Go.Lib.hid hp1
  clear hp1
  go_wp2_with fail
  refine (HPB.out _).mono ?_; rintro e W ⟨v2, rfl, hp2, hx2⟩
  obtain ⟨qa, qc, hv2, q1, q2⟩ := hp2.slice
  rw [HLN.out] at hv2
  subst hv2
  have hp1 := HP1.out.below hx2 (Nat.le_refl _)
  have hxx := hx1.trans (hx2.mono hx1.size)
  have hRW := heap_later (B := 0) HR0.out hxx
  have hOW := heap_later (B := 0) HO0.out hxx
  have hbW := HB0.out.trans (hxx.mono HB0.out.size)
  clear q1 q2 HP1 hx1 hx2 hxx cR0 cR1 cR2 cR3 cR4 HR0 HO0 HB0
  have hgR := cell_of_heap hRW
  have hgO := cell_of_heap hOW
  have hlR := (Array.getElem?_eq_some_iff.1 hRW).1
  have hlO := (Array.getElem?_eq_some_iff.1 hOW).1
  generalize w.heap.size + 1 = nb at *
  have a0 : ∀ w3 : Subtype (Below W.heap.size W), w3.1.cell? ⟨w.heap.size, 0, none⟩ = some (.string (mk rn)) := BelowC.cell (hgR 0) hlR
  have a1 : ∀ w3 : Subtype (Below W.heap.size W), w3.1.cell? ⟨w.heap.size, 1, none⟩ = some (.int .i64 rt) := BelowC.cell (hgR 1) hlR
  have a2 : ∀ w3 : Subtype (Below W.heap.size W), w3.1.cell? ⟨w.heap.size, 2, none⟩ = some (.int .i64 rc) := BelowC.cell (hgR 2) hlR
  have a3 : ∀ w3 : Subtype (Below W.heap.size W), w3.1.cell? ⟨w.heap.size, 3, none⟩ = some (.int .i64 rl) := BelowC.cell (hgR 3) hlR
  have a4 : ∀ w3 : Subtype (Below W.heap.size W), w3.1.cell? ⟨w.heap.size, 4, none⟩ = some (.string (mk rd)) := BelowC.cell (hgR 4) hlR
  have HBC := Go.Lib.hid (show Below W.heap.size W W.drew from (Below.refl W.heap.size W).drew)
  have hnn : Nonempty (Subtype (Below W.heap.size W)) := ⟨⟨W, Below.refl _ _⟩⟩
  have hne0 : ((N : Int) != (N : Int)) = false := by simp
  have HP1 := Go.Lib.hid hp1
  have HP2 := Go.Lib.hid hp2
  have HRW := Go.Lib.hid hRW
  have HOW := Go.Lib.hid hOW
  have HBW := Go.Lib.hid hbW
  clear hp1 hp2 hRW hOW hbW
  clear hgR hgO
  go_wp2_with fail
  refine Go.Mix.wp_region_mixC (Es := [4, 19, 21, 26, 28, 33, 35]) (Below W.heap.size W) mixed (by kernel_rfl) (Below.refl _ _).drew (fun _ => ?_)
  iterate 4 (refine Go.Mix.mix_step rfl (fun K hK => ?_); have HKK := Go.Lib.hid hK; clear hK; go_simp; refine HKK.out _ _ ?_; clear HKK K)
  refine Go.Mix.mix_eff rfl (fun K hK => ?_)
  have HKK := Go.Lib.hid hK
  clear hK
  go_simp
  refine (HD.out _).mono ?_; rintro e wb1 ⟨rfl, hx⟩
  have hb := HBC.out.trans (hx.mono HBC.out.size)
  clear HBC
  have HBC := Go.Lib.hid hb
  clear hx hb
  go_simp
  refine HKK.out _ _ HBC.out ?_
  clear HKK K
  iterate 14 (refine Go.Mix.mix_step rfl (fun K hK => ?_); have HKK := Go.Lib.hid hK; clear hK; go_simp; refine HKK.out _ _ ?_; clear HKK K)
  refine Go.Mix.mix_eff rfl (fun K hK => ?_)
  have HKK := Go.Lib.hid hK
  clear hK
  go_simp
  refine (HCK.out _).mono ?_; rintro e wb2 ⟨rfl, hx⟩
  have hb := HBC.out.trans (hx.mono HBC.out.size)
  clear HBC
  have HBC := Go.Lib.hid hb
  clear hx hb
  go_simp
  refine HKK.out _ _ HBC.out ?_
  clear HKK K
  iterate 1 (refine Go.Mix.mix_step rfl (fun K hK => ?_); have HKK := Go.Lib.hid hK; clear hK; go_simp; refine HKK.out _ _ ?_; clear HKK K)
  refine Go.Mix.mix_eff rfl (fun K hK => ?_)
  have HKK := Go.Lib.hid hK
  clear hK
  go_simp
  refine (HRC.out _).mono ?_; rintro e wb3 ⟨rfl, hx⟩
  have hb := HBC.out.trans (hx.mono HBC.out.size)
  clear HBC
  have HBC := Go.Lib.hid hb
  clear hx hb
  go_simp
  refine HKK.out _ _ HBC.out ?_
  clear HKK K
  iterate 4 (refine Go.Mix.mix_step rfl (fun K hK => ?_); have HKK := Go.Lib.hid hK; clear hK; go_simp; refine HKK.out _ _ ?_; clear HKK K)
  refine Go.Mix.mix_eff rfl (fun K hK => ?_)
  have HKK := Go.Lib.hid hK
  clear hK
  go_simp
  refine (HKN.out _).mono ?_; rintro e wb4 ⟨rfl, hx⟩
  have hb := HBC.out.trans (hx.mono HBC.out.size)
  clear HBC
  have HBC := Go.Lib.hid hb
  clear hx hb
  go_simp
  refine HKK.out _ _ HBC.out ?_
  clear HKK K
  iterate 1 (refine Go.Mix.mix_step rfl (fun K hK => ?_); have HKK := Go.Lib.hid hK; clear hK; go_simp; refine HKK.out _ _ ?_; clear HKK K)
  refine Go.Mix.mix_eff rfl (fun K hK => ?_)
  have HKK := Go.Lib.hid hK
  clear hK
  go_simp
  refine (HRK.out _).mono ?_; rintro e wb5 ⟨rfl, hx⟩
  have hb := HBC.out.trans (hx.mono HBC.out.size)
  clear HBC
  have HBC := Go.Lib.hid hb
  clear hx hb
  go_simp
  refine HKK.out _ _ HBC.out ?_
  clear HKK K
  iterate 4 (refine Go.Mix.mix_step rfl (fun K hK => ?_); have HKK := Go.Lib.hid hK; clear hK; go_simp; refine HKK.out _ _ ?_; clear HKK K)
  refine Go.Mix.mix_eff rfl (fun K hK => ?_)
  have HKK := Go.Lib.hid hK
  clear hK
  go_simp
  refine (HTY.out _ (HBW.out.trans (HBC.out.mono HBW.out.size))).mono ?_; rintro e wb6 ⟨rfl, hx⟩
  have hb := HBC.out.trans (hx.mono HBC.out.size)
  clear HBC
  have HBC := Go.Lib.hid hb
  clear hx hb
  go_simp
  refine HKK.out _ _ HBC.out ?_
  clear HKK K
  iterate 1 (refine Go.Mix.mix_step rfl (fun K hK => ?_); have HKK := Go.Lib.hid hK; clear hK; go_simp; refine HKK.out _ _ ?_; clear HKK K)
  refine Go.Mix.mix_eff rfl (fun K hK => ?_)
  have HKK := Go.Lib.hid hK
  clear hK
  go_simp
  refine (HTT.out _).mono ?_; rintro e w5 ⟨rfl, hx⟩
  have hb5 := HBC.out.trans (hx.mono HBC.out.size)
  clear HBC hx
  have HB5 := Go.Lib.hid hb5
  clear hb5
  go_simp
  refine HKK.out _ _ HB5.out ?_
  clear HKK K
  iterate 2 (refine Go.Mix.mix_step rfl (fun K hK => ?_); have HKK := Go.Lib.hid hK; clear hK; go_simp; refine HKK.out _ _ ?_; clear HKK K)
  refine Go.Mix.mix_nil ?_
  clear a0 a1 a2 a3 a4 HCK HRC HKN HRK HTY HTT HPA HPB HD hnn
  go_wp2_with fail
  go_loopw [10] (fun i wr => ∃ k : Nat, i = .int .i64 k ∧ k ≤ N ∧ Below W.heap.size W wr) (fun i _ => N - (intOf i).toNat)
  case atStart => exact ⟨0, rfl, by omega, HB5.out⟩
  case round =>
    obtain ⟨k, rfl, hk, hbr⟩ := hrel
    clear HB5
    have HBR := Go.Lib.hid hbr
    clear hbr
    by_cases hlt : k < N
    · have hq1 := HP1.out.below HBR.out (Nat.le_refl _)
      have hq2 := HP2.out.below HBR.out (Nat.le_refl _)
      obtain ⟨hz1, b1, o1, rfl, hl1, hc1⟩ := SlC.at hq1 (by rw [HLN.out]; omega)
      obtain ⟨hz2, b2, o2, rfl, hl2, hc2⟩ := SlC.at hq2 (by rw [HLN.out]; omega)
      obtain ⟨g1, g2⟩ := encP_get L k (by rw [HLN.out]; exact hlt)
      have m1 := hc1 (k * 2) (by rw [HLN.out]; omega)
      have m2 := hc1 (k * 2 + 1) (by rw [HLN.out]; omega)
      have m3 := hc2 (k * 2) (by rw [HLN.out]; omega)
      have m4 := hc2 (k * 2 + 1) (by rw [HLN.out]; omega)
      rw [Nat.mul_comm 2 k] at g1 g2
      rw [g1] at m1 m3
      rw [g2] at m2 m4
      rw [← Nat.add_assoc] at m2 m4
      generalize (L.getD k (0, 0)).1 = px at *
      generalize (L.getD k (0, 0)).2 = py at *
      have M1 : ∀ w3 : Subtype (Below wr.heap.size wr), w3.1.cell? ⟨b1, o1 + k * 2, none⟩ = some (.int .i64 px) := BelowC.cell m1 hl1
      have M2 : ∀ w3 : Subtype (Below wr.heap.size wr), w3.1.cell? ⟨b1, o1 + k * 2 + 1, none⟩ = some (.int .i64 py) := BelowC.cell m2 hl1
      have M3 : ∀ w3 : Subtype (Below wr.heap.size wr), w3.1.cell? ⟨b2, o2 + k * 2, none⟩ = some (.int .i64 px) := BelowC.cell m3 hl2
      have M4 : ∀ w3 : Subtype (Below wr.heap.size wr), w3.1.cell? ⟨b2, o2 + k * 2 + 1, none⟩ = some (.int .i64 py) := BelowC.cell m4 hl2
      have hnn : Nonempty (Subtype (Below wr.heap.size wr)) := ⟨⟨wr, Below.refl _ _⟩⟩
      have HLT := Go.Lib.hid hlt
      clear hq1 hq2 hz1 hz2 hc1 hc2 g1 g2 m1 m2 m3 m4
      go_wp2_with fail
      refine Go.Mix.wp_region_mix (Es := []) (Below wr.heap.size wr) mixed (by kernel_rfl) (Below.refl _ _).drew (fun _ => ?_)
      iterate 9 (refine Go.Mix.mix_step rfl (fun K hK => ?_); have HKK := Go.Lib.hid hK; clear hK; go_simp; refine HKK.out _ _ ?_; clear HKK K)
      refine Go.Mix.mix_nil ?_
      go_wp2_with fail
      go_roundw
      case rel => exact ⟨k + 1, by go_num, HLT.out, HBR.out.drew⟩
      case measure => have := HLT.out; simp [intOf]; omega
    · obtain rfl : N = k := by omega
      generalize wr = w6 at *
      have hR6 := heap_later (B := 0) HRW.out HBR.out
      have hO6 := heap_later (B := 0) HOW.out HBR.out
      have hb6 := HBW.out.trans (HBR.out.mono HBW.out.size)
      clear HP1 HP2 HRW HOW HBW HBR
      obtain ⟨cR0, cR1, cR2, cR3, cR4⟩ := rr_cells hR6
      have hx0 : Below w6.heap.size w6 w6 := Below.refl _ _
      have HR6 := Go.Lib.hid hR6
      have HO6 := Go.Lib.hid hO6
      have HB6 := Go.Lib.hid hb6
      clear hR6 hO6 hb6
      go_wp2_with fail
      refine (HTG.out _).mono ?_; rintro e y1 ⟨rfl, hx⟩
      have hx1 := hx0.trans (hx.mono hx0.size)
      clear hx hx0
      go_wp2_with fail
      refine (HRT.out _).mono ?_; rintro e y2 ⟨rfl, hx⟩
      have hx2 := hx1.trans (hx.mono hx1.size)
      clear hx hx1
      go_wp2_with fail
      refine (HAD.out _).mono ?_; rintro e y3 ⟨rfl, hx⟩
      have hx3 := hx2.trans (hx.mono hx2.size)
      clear hx hx2
      go_wp2_with fail
      refine (HRA.out _).mono ?_; rintro e y4 ⟨rfl, hx⟩
      have hx4 := hx3.trans (hx.mono hx3.size)
      clear hx hx3
      go_wp2_with fail
      refine (HMI.out _).mono ?_; rintro e y5 ⟨rfl, hx⟩
      have hx5 := hx4.trans (hx.mono hx4.size)
      clear hx hx4
      go_wp2_with fail
      refine (HRM.out _).mono ?_; rintro e y6 ⟨rfl, hx⟩
      have hx6 := hx5.trans (hx.mono hx5.size)
      clear hx hx5
      go_wp2_with fail
      have hR7 := heap_later (B := 0) HR6.out hx6
      have hO7 := heap_later (B := 0) HO6.out hx6
      have hb7 := HB6.out.trans (hx6.mono HB6.out.size)
      clear cR0 cR1 cR2 cR3 cR4 hx6 HR6 HO6 HB6
      have hgR := cell_of_heap hR7
      have hgO := cell_of_heap hO7
      have hlR := (Array.getElem?_eq_some_iff.1 hR7).1
      have hlO := (Array.getElem?_eq_some_iff.1 hO7).1
      have a0 : ∀ w3 : Subtype (GB y6.drew), w3.1.cell? ⟨w.heap.size, 0, none⟩ = some (.string (mk rn)) := GB.cell (hgR 0) hlR
      have a1 : ∀ w3 : Subtype (GB y6.drew), w3.1.cell? ⟨w.heap.size, 1, none⟩ = some (.int .i64 rt) := GB.cell (hgR 1) hlR
      have a2 : ∀ w3 : Subtype (GB y6.drew), w3.1.cell? ⟨w.heap.size, 2, none⟩ = some (.int .i64 rc) := GB.cell (hgR 2) hlR
      have a3 : ∀ w3 : Subtype (GB y6.drew), w3.1.cell? ⟨w.heap.size, 3, none⟩ = some (.int .i64 rl) := GB.cell (hgR 3) hlR
      have a4 : ∀ w3 : Subtype (GB y6.drew), w3.1.cell? ⟨w.heap.size, 4, none⟩ = some (.string (mk rd)) := GB.cell (hgR 4) hlR
      have b0 : ∀ w3 : Subtype (GB y6.drew), w3.1.cell? ⟨nb, 0, none⟩ = some (.string (mk on)) := GB.cell (hgO 0) hlO
      have b1 : ∀ w3 : Subtype (GB y6.drew), w3.1.cell? ⟨nb, 1, none⟩ = some (.int .i64 ot) := GB.cell (hgO 1) hlO
      have b2 : ∀ w3 : Subtype (GB y6.drew), w3.1.cell? ⟨nb, 2, none⟩ = some (.int .i64 oc) := GB.cell (hgO 2) hlO
      have b3 : ∀ w3 : Subtype (GB y6.drew), w3.1.cell? ⟨nb, 3, none⟩ = some (.int .i64 ol) := GB.cell (hgO 3) hlO
      have b4 : ∀ w3 : Subtype (GB y6.drew), w3.1.cell? ⟨nb, 4, none⟩ = some (.string (mk od)) := GB.cell (hgO 4) hlO
      have hnn : Nonempty (Subtype (GB y6.drew)) := ⟨⟨y6.drew, GB.refl _⟩⟩
      have HB7 := Go.Lib.hid hb7
      clear hb7
      clear hgR hgO hR7 hO7 hlR hlO HTG HRT HAD HRA HMI HRM
      have HOK2 := Go.Lib.hid (show ∀ r ∈ [(⟨rn, rt, rc, rl, rd⟩ : Rc.RR), ⟨on, ot, oc, ol, od⟩], RROk r from fun r hr => by
        rcases List.mem_cons.1 hr with rfl | hr
        · exact HOR.out
        · rcases List.mem_cons.1 hr with rfl | hr
          · exact HOO.out
          · cases hr)
      have HOK1 := Go.Lib.hid (show ∀ r ∈ [(⟨on, ot, oc, ol, od⟩ : Rc.RR)], RROk r from fun r hr => by
        rcases List.mem_cons.1 hr with rfl | hr
        · exact HOO.out
        · cases hr)
      have HSS := Go.Lib.hid (fun (va vb : Value) (W2 : World) (h1 : RRs W2 va [(⟨rn, rt, rc, rl, rd⟩ : Rc.RR), ⟨on, ot, oc, ol, od⟩]) (h2 : RRs W2 vb [(⟨on, ot, oc, ol, od⟩ : Rc.RR)]) => SameSet_any va vb _ _ W2 h1 h2 (by simp) (by simp) HOK2.out HOK1.out)
      have HRSS := Go.Lib.hid (fun (va vb : Value) (W2 : World) (h1 : RRs W2 va [(⟨rn, rt, rc, rl, rd⟩ : Rc.RR), ⟨on, ot, oc, ol, od⟩]) (h2 : RRs W2 vb [(⟨on, ot, oc, ol, od⟩ : Rc.RR)]) => refSameSet_any va vb _ _ W2 h1 h2 (by simp) (by simp) HOK2.out HOK1.out)
      generalize hss : sameSetB [(⟨rn, rt, rc, rl, rd⟩ : Rc.RR), ⟨on, ot, oc, ol, od⟩] [(⟨on, ot, oc, ol, od⟩ : Rc.RR)] = ss at *
      clear hss
      go_wp2_with fail
      refine Go.Mix.wp_region_mixD [31, 34, 40, 42, 43, 46, 48, 49, 53] 55 GB (FT ⟨rn, rt, rc, rl, rd⟩ ⟨on, ot, oc, ol, od⟩) (ST sm ss) [(43, 40, 185), (43, 42, 187), (49, 46, 191), (49, 48, 193)] mixed (by kernel_rfl) (fun i e s hm => ?hsz) GB.trans GB.refl (fun i v w w' h hg => h.stable hg) (ST.inh _ _) ?_
      case hsz =>
        simp only [List.mem_cons, Prod.mk.injEq, List.not_mem_nil, or_false] at hm
        rcases hm with ⟨_, _, rfl⟩ | ⟨_, _, rfl⟩ | ⟨_, _, rfl⟩ | ⟨_, _, rfl⟩ <;> exact of_decide_eq_true rfl
      iterate 31 (refine Go.Mix.mixD_step rfl (fun K hK => ?_); have HKK := Go.Lib.hid hK; clear hK; go_simp; refine HKK.out _ ?_; clear HKK K)
      refine Go.Mix.mixD_eff rfl rfl (fun w7 hw7 hn7 => ?_) (fun v31 hv31 => ?_)
      · clear hn7
        go_simp
        refine (HSA.out _).mono ?_; rintro e w8 ⟨rfl, hx⟩
        exact ⟨hx, ⟨fun _ => rfl, fun h => absurd h (by decide), fun h => absurd h (by decide)⟩, FT.no (by decide) (by decide)⟩
      obtain rfl := hv31.1 (.inl rfl)
      clear hv31
      iterate 2 (refine Go.Mix.mixD_step rfl (fun K hK => ?_); have HKK := Go.Lib.hid hK; clear hK; go_simp; refine HKK.out _ ?_; clear HKK K)
      refine Go.Mix.mixD_eff rfl rfl (fun w7 hw7 hn7 => ?_) (fun v34 hv34 => ?_)
      · clear hn7
        go_simp
        refine (HRS.out _).mono ?_; rintro e w8 ⟨rfl, hx⟩
        exact ⟨hx, ⟨fun _ => rfl, fun h => absurd h (by decide), fun h => absurd h (by decide)⟩, FT.no (by decide) (by decide)⟩
      obtain rfl := hv34.1 (.inr rfl)
      clear hv34
      iterate 5 (refine Go.Mix.mixD_step rfl (fun K hK => ?_); have HKK := Go.Lib.hid hK; clear hK; go_simp; refine HKK.out _ ?_; clear HKK K)
      refine Go.Mix.mixD_eff rfl rfl (fun w7 hw7 hn7 => ?_) (fun v40 hv40 => ?_)
      · clear hn7
        go_simp
        exact ⟨(Below.refl _ _).alloc (Nat.le_refl _) _, ⟨fun h => absurd h (by decide), fun h => absurd h (by decide), fun h => absurd h (by decide)⟩, ⟨fun _ => set_new w7 [⟨rn, rt, rc, rl, rd⟩, ⟨on, ot, oc, ol, od⟩] (by simp [maxLen]), fun h => absurd h (by decide)⟩⟩
      clear hv40
      iterate 1 (refine Go.Mix.mixD_step rfl (fun K hK => ?_); have HKK := Go.Lib.hid hK; clear hK; go_simp; refine HKK.out _ ?_; clear HKK K)
      refine Go.Mix.mixD_eff rfl rfl (fun w7 hw7 hn7 => ?_) (fun v42 hv42 => ?_)
      · clear hn7
        go_simp
        exact ⟨(Below.refl _ _).alloc (Nat.le_refl _) _, ⟨fun h => absurd h (by decide), fun h => absurd h (by decide), fun h => absurd h (by decide)⟩, ⟨fun h => absurd h (by decide), fun _ => set_new w7 [⟨on, ot, oc, ol, od⟩] (by simp [maxLen])⟩⟩
      clear hv42
      refine Go.Mix.mixD_eff rfl rfl (fun w7 hw7 hn7 => ?_) (fun v43 hv43 => ?_)
      · have r1 : RRs w7 v40 [⟨rn, rt, rc, rl, rd⟩, ⟨on, ot, oc, ol, od⟩] := (hn7 40 185 (by simp)).1 (.inl rfl)
        have r2 : RRs w7 v42 [⟨on, ot, oc, ol, od⟩] := (hn7 42 187 (by simp)).2 (.inl rfl)
        clear hn7
        go_simp
        refine (HSS.out _ _ _ r1 r2).mono ?_; rintro e w8 ⟨rfl, hx⟩
        exact ⟨hx, ⟨fun h => absurd h (by decide), fun _ => rfl, fun h => absurd h (by decide)⟩, FT.no (by decide) (by decide)⟩
      obtain rfl := hv43.2.1 (.inl rfl)
      clear hv43
      iterate 2 (refine Go.Mix.mixD_step rfl (fun K hK => ?_); have HKK := Go.Lib.hid hK; clear hK; go_simp; refine HKK.out _ ?_; clear HKK K)
      refine Go.Mix.mixD_eff rfl rfl (fun w7 hw7 hn7 => ?_) (fun v46 hv46 => ?_)
      · clear hn7
        go_simp
        exact ⟨(Below.refl _ _).alloc (Nat.le_refl _) _, ⟨fun h => absurd h (by decide), fun h => absurd h (by decide), fun h => absurd h (by decide)⟩, ⟨fun _ => set_new w7 [⟨rn, rt, rc, rl, rd⟩, ⟨on, ot, oc, ol, od⟩] (by simp [maxLen]), fun h => absurd h (by decide)⟩⟩
      clear hv46
      iterate 1 (refine Go.Mix.mixD_step rfl (fun K hK => ?_); have HKK := Go.Lib.hid hK; clear hK; go_simp; refine HKK.out _ ?_; clear HKK K)
      refine Go.Mix.mixD_eff rfl rfl (fun w7 hw7 hn7 => ?_) (fun v48 hv48 => ?_)
      · clear hn7
        go_simp
        exact ⟨(Below.refl _ _).alloc (Nat.le_refl _) _, ⟨fun h => absurd h (by decide), fun h => absurd h (by decide), fun h => absurd h (by decide)⟩, ⟨fun h => absurd h (by decide), fun _ => set_new w7 [⟨on, ot, oc, ol, od⟩] (by simp [maxLen])⟩⟩
      clear hv48
      refine Go.Mix.mixD_eff rfl rfl (fun w7 hw7 hn7 => ?_) (fun v49 hv49 => ?_)
      · have r1 : RRs w7 v46 [⟨rn, rt, rc, rl, rd⟩, ⟨on, ot, oc, ol, od⟩] := (hn7 46 191 (by simp)).1 (.inr rfl)
        have r2 : RRs w7 v48 [⟨on, ot, oc, ol, od⟩] := (hn7 48 193 (by simp)).2 (.inr rfl)
        clear hn7
        go_simp
        refine (HRSS.out _ _ _ r1 r2).mono ?_; rintro e w8 ⟨rfl, hx⟩
        exact ⟨hx, ⟨fun h => absurd h (by decide), fun _ => rfl, fun h => absurd h (by decide)⟩, FT.no (by decide) (by decide)⟩
      obtain rfl := hv49.2.1 (.inr rfl)
      clear hv49
      iterate 3 (refine Go.Mix.mixD_step rfl (fun K hK => ?_); have HKK := Go.Lib.hid hK; clear hK; go_simp; refine HKK.out _ ?_; clear HKK K)
      refine Go.Mix.mixD_eff rfl rfl (fun w7 hw7 hn7 => ?_) (fun v53 hv53 => ?_)
      · clear hn7
        go_simp
        refine (HAW.out _).mono ?_; rintro e w8 ⟨rfl, hx⟩
        exact ⟨hx, ⟨fun h => absurd h (by decide), fun h => absurd h (by decide), fun _ => rfl⟩, FT.no (by decide) (by decide)⟩
      obtain rfl := hv53.2.2 rfl
      clear hv53
      iterate 1 (refine Go.Mix.mixD_step rfl (fun K hK => ?_); have HKK := Go.Lib.hid hK; clear hK; go_simp; refine HKK.out _ ?_; clear HKK K)
      refine Go.Mix.mixD_last rfl (fun w9 hg9 hP K hK => ?_)
      clear hP
      rw [if_pos (show Region.wanted _ _ = true from rfl)]
      have HKK := Go.Lib.hid hK
      clear hK
      have hb9 := HB7.out.trans ((Below.drew (Below.refl y6.heap.size y6)).trans hg9 |>.mono HB7.out.size)
      clear a0 a1 a2 a3 a4 b0 b1 b2 b3 b4 hnn hg9
      have HB9 := Go.Lib.hid hb9
      clear hb9
      go_simp
      refine HKK.out _ _ ?_
      clear HKK K
      go_wp2_with fail
      go_ret
      exact ⟨rfl, HB9.out⟩

set_option maxRecDepth 100000 in
set_option maxHeartbeats 32000000 in
theorem k_false (rn rd on od : List UInt8) (rt rc rl ot oc ol t : Int) (w : World)
    (h1 : rn.length ≤ 400) (h2 : rd.length ≤ 1200) (h3 : on.length ≤ 400) (h4 : od.length ≤ 1200) (L : List (Nat × Nat)) (N : Nat) (hLN : L.length = N) (hN2 : N ≤ 2) (hN0 : N = 0) (htab : Lib.TabIs Tryd.prog w "internal/strconv.uint64pow10" .u64 Lib.pow10Tab) (hT0 : -9223372036854775808 ≤ t) (hT1 : t ≤ 9223372036854775807)
    (HPA : Hid (∀ W, Calls Tryd.prog 10 #[.int .i64 rt, .string (mk rd)] W fun e w' => ∃ v, e = .returned (.tuple #[v, .bool false]) ∧ Pairs w' v L ∧ Below W.heap.size W w'))
    (HPB : Hid (∀ W, Calls Tryd.prog 11 #[.int .i64 rt, .string (mk rd)] W fun e w' => ∃ v, e = .returned v ∧ Pairs w' v L ∧ Below W.heap.size W w'))
    (HD : Hid (∀ W, Calls Tryd.prog 12 #[.int .i64 rt, .string (mk rd)] W fun e w' => e = .returned (.bool false) ∧ Below W.heap.size W w'))
    (HOR : Hid (RROk (⟨rn, rt, rc, rl, rd⟩ : Rc.RR))) (HOO : Hid (RROk (⟨on, ot, oc, ol, od⟩ : Rc.RR))) :
    Calls Tryd.prog 3 #[.agg #[.string (mk rn), .int .i64 rt, .int .i64 rc, .int .i64 rl, .string (mk rd)], .agg #[.string (mk on), .int .i64 ot, .int .i64 oc, .int .i64 ol, .string (mk od)], .int .i64 t] w fun e w' => e = .returned (.bool true) ∧ Below w.heap.size w w' := by
  have HAW := Go.Lib.hid awake_any
  have hb0 : Below w.heap.size w ((w.alloc (.cells #[.string (mk rn), .int .i64 rt, .int .i64 rc, .int .i64 rl, .string (mk rd)] 23)).alloc (.cells #[.string (mk on), .int .i64 ot, .int .i64 oc, .int .i64 ol, .string (mk od)] 23)) := ((Below.refl _ w).alloc (Nat.le_refl _) _).alloc (by simp) _
  have z1 : (mk rn).size = rn.length := size_mk rn
  have z2 : (mk rd).size = rd.length := size_mk rd
  have z3 : (mk on).size = on.length := size_mk on
  have z4 : (mk od).size = od.length := size_mk od
  obtain ⟨hR, hO⟩ := two_boxes w (rrC (⟨rn, rt, rc, rl, rd⟩ : Rc.RR)) (rrC (⟨on, ot, oc, ol, od⟩ : Rc.RR)) 23
  have hb0 : Below w.heap.size w ((w.alloc (.cells (rrC (⟨rn, rt, rc, rl, rd⟩ : Rc.RR)) 23)).alloc (.cells (rrC (⟨on, ot, oc, ol, od⟩ : Rc.RR)) 23)) := hb0
  have HTAB := Go.Lib.hid (fun (W : World) (hb : Below w.heap.size w W) => tab_below htab hb)
  have HTY := Go.Lib.hid (fun (W : World) (hb : Below w.heap.size w W) => Type_any t W hT0 hT1 (tab_below htab hb))
  have HTT := Go.Lib.hid (fun (W : World) => TypeText_any t W hT0 hT1)
  have HKN := Go.Lib.hid (fun (W : World) => Known_any t W)
  have HRK := Go.Lib.hid (fun (W : World) => refKnown_any t W)
  have HCK := Go.Lib.hid (fun (W : World) => Check_any (⟨rn, rt, rc, rl, rd⟩ : Rc.RR) W HOR.out)
  have HRC := Go.Lib.hid (fun (W : World) => refCheck_any (⟨rn, rt, rc, rl, rd⟩ : Rc.RR) W HOR.out)
  have HTG := Go.Lib.hid (fun (W : World) => Target_any (⟨rn, rt, rc, rl, rd⟩ : Rc.RR) W HOR.out)
  have HRT := Go.Lib.hid (fun (W : World) => refTarget_any (⟨rn, rt, rc, rl, rd⟩ : Rc.RR) W HOR.out)
  have HAD := Go.Lib.hid (fun (W : World) => Addr_any (⟨rn, rt, rc, rl, rd⟩ : Rc.RR) W HOR.out)
  have HRA := Go.Lib.hid (fun (W : World) => refAddr_any (⟨rn, rt, rc, rl, rd⟩ : Rc.RR) W HOR.out)
  have HMI := Go.Lib.hid (fun (W : World) => Minimum_any (⟨rn, rt, rc, rl, rd⟩ : Rc.RR) W HOR.out)
  have HRM := Go.Lib.hid (fun (W : World) => refMinimum_any (⟨rn, rt, rc, rl, rd⟩ : Rc.RR) W HOR.out)
  have HSA := Go.Lib.hid (fun (W : World) => recSame_any (⟨rn, rt, rc, rl, rd⟩ : Rc.RR) (⟨on, ot, oc, ol, od⟩ : Rc.RR) W HOR.out HOO.out)
  have HRS := Go.Lib.hid (fun (W : World) => refSameRR_any (⟨rn, rt, rc, rl, rd⟩ : Rc.RR) (⟨on, ot, oc, ol, od⟩ : Rc.RR) W HOR.out HOO.out)
  obtain ⟨tgs, tgb, htg⟩ := targ_tuple rt rd
  obtain ⟨adx, adb, had⟩ := addr_tuple rt rd
  obtain ⟨mix, mib, hmi⟩ := min_tuple rt rd
  simp only [htg, had, hmi] at HTG HRT HAD HRA HMI HRM
  generalize typeT t = tyx at *
  generalize knownB t = kb at *
  generalize checkB (⟨rn, rt, rc, rl, rd⟩ : Rc.RR) = cb at *
  generalize hsm : Rc.sameRR (⟨rn, rt, rc, rl, rd⟩ : Rc.RR) (⟨on, ot, oc, ol, od⟩ : Rc.RR) = sm at *
  have HB0 := Go.Lib.hid hb0
  have HR0 := Go.Lib.hid hR
  have HO0 := Go.Lib.hid hO
  have HLN := Go.Lib.hid hLN
  have HSM := Go.Lib.hid hsm
  clear hb0 hR hO hLN hsm
  clear htab hT0 hT1 htg had hmi HTAB
  go_enter Tryd.func3, Tryd.ntmps3
  go_wp2_with fail
  change Calls _ _ _ ((w.alloc (.cells (rrC (⟨rn, rt, rc, rl, rd⟩ : Rc.RR)) 23)).alloc (.cells (rrC (⟨on, ot, oc, ol, od⟩ : Rc.RR)) 23)) _
  generalize (w.alloc (.cells (rrC (⟨rn, rt, rc, rl, rd⟩ : Rc.RR)) 23)).alloc (.cells (rrC (⟨on, ot, oc, ol, od⟩ : Rc.RR)) 23) = X at *
  refine (HPA.out _).mono ?_; rintro e X1 ⟨v1, rfl, hp1, hx1⟩
  obtain ⟨pa, pc, hv1, q1, q2⟩ := hp1.slice
  rw [HLN.out] at hv1
  subst hv1
  obtain ⟨cR0, cR1, cR2, cR3, cR4⟩ := rr_cells HR0.out
  clear q1 q2
  have HP1 := Go.Lib.hid hp1
  clear hp1
  go_wp2_with fail
  refine (HPB.out _).mono ?_; rintro e W ⟨v2, rfl, hp2, hx2⟩
  obtain ⟨qa, qc, hv2, q1, q2⟩ := hp2.slice
  rw [HLN.out] at hv2
  subst hv2
  have hp1 := HP1.out.below hx2 (Nat.le_refl _)
  have hxx := hx1.trans (hx2.mono hx1.size)
  have hRW := heap_later (B := 0) HR0.out hxx
  have hOW := heap_later (B := 0) HO0.out hxx
  have hbW := HB0.out.trans (hxx.mono HB0.out.size)
  clear q1 q2 HP1 hx1 hx2 hxx cR0 cR1 cR2 cR3 cR4 HR0 HO0 HB0
  have hgR := cell_of_heap hRW
  have hgO := cell_of_heap hOW
  have hlR := (Array.getElem?_eq_some_iff.1 hRW).1
  have hlO := (Array.getElem?_eq_some_iff.1 hOW).1
  generalize w.heap.size + 1 = nb at *
  have a0 : ∀ w3 : Subtype (Below W.heap.size W), w3.1.cell? ⟨w.heap.size, 0, none⟩ = some (.string (mk rn)) := BelowC.cell (hgR 0) hlR
  have a1 : ∀ w3 : Subtype (Below W.heap.size W), w3.1.cell? ⟨w.heap.size, 1, none⟩ = some (.int .i64 rt) := BelowC.cell (hgR 1) hlR
  have a2 : ∀ w3 : Subtype (Below W.heap.size W), w3.1.cell? ⟨w.heap.size, 2, none⟩ = some (.int .i64 rc) := BelowC.cell (hgR 2) hlR
  have a3 : ∀ w3 : Subtype (Below W.heap.size W), w3.1.cell? ⟨w.heap.size, 3, none⟩ = some (.int .i64 rl) := BelowC.cell (hgR 3) hlR
  have a4 : ∀ w3 : Subtype (Below W.heap.size W), w3.1.cell? ⟨w.heap.size, 4, none⟩ = some (.string (mk rd)) := BelowC.cell (hgR 4) hlR
  have HBC := Go.Lib.hid (show Below W.heap.size W W.drew from (Below.refl W.heap.size W).drew)
  have hnn : Nonempty (Subtype (Below W.heap.size W)) := ⟨⟨W, Below.refl _ _⟩⟩
  have hne0 : ((N : Int) != (N : Int)) = false := by simp
  have HP1 := Go.Lib.hid hp1
  have HP2 := Go.Lib.hid hp2
  have HRW := Go.Lib.hid hRW
  have HOW := Go.Lib.hid hOW
  have HBW := Go.Lib.hid hbW
  clear hp1 hp2 hRW hOW hbW
  clear hgR hgO
  go_wp2_with fail
  refine Go.Mix.wp_region_mixC (Es := [4, 19, 21, 26, 28, 33, 35]) (Below W.heap.size W) mixed (by kernel_rfl) (Below.refl _ _).drew (fun _ => ?_)
  iterate 4 (refine Go.Mix.mix_step rfl (fun K hK => ?_); have HKK := Go.Lib.hid hK; clear hK; go_simp; refine HKK.out _ _ ?_; clear HKK K)
  refine Go.Mix.mix_eff rfl (fun K hK => ?_)
  have HKK := Go.Lib.hid hK
  clear hK
  go_simp
  refine (HD.out _).mono ?_; rintro e wb7 ⟨rfl, hx⟩
  have hb := HBC.out.trans (hx.mono HBC.out.size)
  clear HBC
  have HBC := Go.Lib.hid hb
  clear hx hb
  go_simp
  refine HKK.out _ _ HBC.out ?_
  clear HKK K
  iterate 14 (refine Go.Mix.mix_step rfl (fun K hK => ?_); have HKK := Go.Lib.hid hK; clear hK; go_simp; refine HKK.out _ _ ?_; clear HKK K)
  refine Go.Mix.mix_eff rfl (fun K hK => ?_)
  have HKK := Go.Lib.hid hK
  clear hK
  go_simp
  refine (HCK.out _).mono ?_; rintro e wb8 ⟨rfl, hx⟩
  have hb := HBC.out.trans (hx.mono HBC.out.size)
  clear HBC
  have HBC := Go.Lib.hid hb
  clear hx hb
  go_simp
  refine HKK.out _ _ HBC.out ?_
  clear HKK K
  iterate 1 (refine Go.Mix.mix_step rfl (fun K hK => ?_); have HKK := Go.Lib.hid hK; clear hK; go_simp; refine HKK.out _ _ ?_; clear HKK K)
  refine Go.Mix.mix_eff rfl (fun K hK => ?_)
  have HKK := Go.Lib.hid hK
  clear hK
  go_simp
  refine (HRC.out _).mono ?_; rintro e wb9 ⟨rfl, hx⟩
  have hb := HBC.out.trans (hx.mono HBC.out.size)
  clear HBC
  have HBC := Go.Lib.hid hb
  clear hx hb
  go_simp
  refine HKK.out _ _ HBC.out ?_
  clear HKK K
  iterate 4 (refine Go.Mix.mix_step rfl (fun K hK => ?_); have HKK := Go.Lib.hid hK; clear hK; go_simp; refine HKK.out _ _ ?_; clear HKK K)
  refine Go.Mix.mix_eff rfl (fun K hK => ?_)
  have HKK := Go.Lib.hid hK
  clear hK
  go_simp
  refine (HKN.out _).mono ?_; rintro e wb10 ⟨rfl, hx⟩
  have hb := HBC.out.trans (hx.mono HBC.out.size)
  clear HBC
  have HBC := Go.Lib.hid hb
  clear hx hb
  go_simp
  refine HKK.out _ _ HBC.out ?_
  clear HKK K
  iterate 1 (refine Go.Mix.mix_step rfl (fun K hK => ?_); have HKK := Go.Lib.hid hK; clear hK; go_simp; refine HKK.out _ _ ?_; clear HKK K)
  refine Go.Mix.mix_eff rfl (fun K hK => ?_)
  have HKK := Go.Lib.hid hK
  clear hK
  go_simp
  refine (HRK.out _).mono ?_; rintro e wb11 ⟨rfl, hx⟩
  have hb := HBC.out.trans (hx.mono HBC.out.size)
  clear HBC
  have HBC := Go.Lib.hid hb
  clear hx hb
  go_simp
  refine HKK.out _ _ HBC.out ?_
  clear HKK K
  iterate 4 (refine Go.Mix.mix_step rfl (fun K hK => ?_); have HKK := Go.Lib.hid hK; clear hK; go_simp; refine HKK.out _ _ ?_; clear HKK K)
  refine Go.Mix.mix_eff rfl (fun K hK => ?_)
  have HKK := Go.Lib.hid hK
  clear hK
  go_simp
  refine (HTY.out _ (HBW.out.trans (HBC.out.mono HBW.out.size))).mono ?_; rintro e wb12 ⟨rfl, hx⟩
  have hb := HBC.out.trans (hx.mono HBC.out.size)
  clear HBC
  have HBC := Go.Lib.hid hb
  clear hx hb
  go_simp
  refine HKK.out _ _ HBC.out ?_
  clear HKK K
  iterate 1 (refine Go.Mix.mix_step rfl (fun K hK => ?_); have HKK := Go.Lib.hid hK; clear hK; go_simp; refine HKK.out _ _ ?_; clear HKK K)
  refine Go.Mix.mix_eff rfl (fun K hK => ?_)
  have HKK := Go.Lib.hid hK
  clear hK
  go_simp
  refine (HTT.out _).mono ?_; rintro e w5 ⟨rfl, hx⟩
  have hb5 := HBC.out.trans (hx.mono HBC.out.size)
  clear HBC hx
  have HB5 := Go.Lib.hid hb5
  clear hb5
  go_simp
  refine HKK.out _ _ HB5.out ?_
  clear HKK K
  iterate 2 (refine Go.Mix.mix_step rfl (fun K hK => ?_); have HKK := Go.Lib.hid hK; clear hK; go_simp; refine HKK.out _ _ ?_; clear HKK K)
  refine Go.Mix.mix_nil ?_
  clear a0 a1 a2 a3 a4 HCK HRC HKN HRK HTY HTT HPA HPB HD hnn
  go_wp2_with fail
  go_loopw [10] (fun i wr => ∃ k : Nat, i = .int .i64 k ∧ k ≤ N ∧ Below W.heap.size W wr) (fun i _ => N - (intOf i).toNat)
  case atStart => exact ⟨0, rfl, by omega, HB5.out⟩
  case round =>
    obtain ⟨k, rfl, hk, hbr⟩ := hrel
    clear HB5
    have HBR := Go.Lib.hid hbr
    clear hbr
    by_cases hlt : k < N
    · exact absurd hlt (by omega)
    · obtain rfl : N = k := by omega
      generalize wr = w6 at *
      have hR6 := heap_later (B := 0) HRW.out HBR.out
      have hO6 := heap_later (B := 0) HOW.out HBR.out
      have hb6 := HBW.out.trans (HBR.out.mono HBW.out.size)
      clear HP1 HP2 HRW HOW HBW HBR
      obtain ⟨cR0, cR1, cR2, cR3, cR4⟩ := rr_cells hR6
      have hx0 : Below w6.heap.size w6 w6 := Below.refl _ _
      have HR6 := Go.Lib.hid hR6
      have HO6 := Go.Lib.hid hO6
      have HB6 := Go.Lib.hid hb6
      clear hR6 hO6 hb6
      go_wp2_with fail
      refine (HTG.out _).mono ?_; rintro e y1 ⟨rfl, hx⟩
      have hx1 := hx0.trans (hx.mono hx0.size)
      clear hx hx0
      go_wp2_with fail
      refine (HRT.out _).mono ?_; rintro e y2 ⟨rfl, hx⟩
      have hx2 := hx1.trans (hx.mono hx1.size)
      clear hx hx1
      go_wp2_with fail
      refine (HAD.out _).mono ?_; rintro e y3 ⟨rfl, hx⟩
      have hx3 := hx2.trans (hx.mono hx2.size)
      clear hx hx2
      go_wp2_with fail
      refine (HRA.out _).mono ?_; rintro e y4 ⟨rfl, hx⟩
      have hx4 := hx3.trans (hx.mono hx3.size)
      clear hx hx3
      go_wp2_with fail
      refine (HMI.out _).mono ?_; rintro e y5 ⟨rfl, hx⟩
      have hx5 := hx4.trans (hx.mono hx4.size)
      clear hx hx4
      go_wp2_with fail
      refine (HRM.out _).mono ?_; rintro e y6 ⟨rfl, hx⟩
      have hx6 := hx5.trans (hx.mono hx5.size)
      clear hx hx5
      go_wp2_with fail
      have hR7 := heap_later (B := 0) HR6.out hx6
      have hO7 := heap_later (B := 0) HO6.out hx6
      have hb7 := HB6.out.trans (hx6.mono HB6.out.size)
      clear cR0 cR1 cR2 cR3 cR4 hx6 HR6 HO6 HB6
      have hgR := cell_of_heap hR7
      have hgO := cell_of_heap hO7
      have hlR := (Array.getElem?_eq_some_iff.1 hR7).1
      have hlO := (Array.getElem?_eq_some_iff.1 hO7).1
      have a0 : ∀ w3 : Subtype (GB y6.drew), w3.1.cell? ⟨w.heap.size, 0, none⟩ = some (.string (mk rn)) := GB.cell (hgR 0) hlR
      have a1 : ∀ w3 : Subtype (GB y6.drew), w3.1.cell? ⟨w.heap.size, 1, none⟩ = some (.int .i64 rt) := GB.cell (hgR 1) hlR
      have a2 : ∀ w3 : Subtype (GB y6.drew), w3.1.cell? ⟨w.heap.size, 2, none⟩ = some (.int .i64 rc) := GB.cell (hgR 2) hlR
      have a3 : ∀ w3 : Subtype (GB y6.drew), w3.1.cell? ⟨w.heap.size, 3, none⟩ = some (.int .i64 rl) := GB.cell (hgR 3) hlR
      have a4 : ∀ w3 : Subtype (GB y6.drew), w3.1.cell? ⟨w.heap.size, 4, none⟩ = some (.string (mk rd)) := GB.cell (hgR 4) hlR
      have b0 : ∀ w3 : Subtype (GB y6.drew), w3.1.cell? ⟨nb, 0, none⟩ = some (.string (mk on)) := GB.cell (hgO 0) hlO
      have b1 : ∀ w3 : Subtype (GB y6.drew), w3.1.cell? ⟨nb, 1, none⟩ = some (.int .i64 ot) := GB.cell (hgO 1) hlO
      have b2 : ∀ w3 : Subtype (GB y6.drew), w3.1.cell? ⟨nb, 2, none⟩ = some (.int .i64 oc) := GB.cell (hgO 2) hlO
      have b3 : ∀ w3 : Subtype (GB y6.drew), w3.1.cell? ⟨nb, 3, none⟩ = some (.int .i64 ol) := GB.cell (hgO 3) hlO
      have b4 : ∀ w3 : Subtype (GB y6.drew), w3.1.cell? ⟨nb, 4, none⟩ = some (.string (mk od)) := GB.cell (hgO 4) hlO
      have hnn : Nonempty (Subtype (GB y6.drew)) := ⟨⟨y6.drew, GB.refl _⟩⟩
      have HB7 := Go.Lib.hid hb7
      clear hb7
      clear hgR hgO hR7 hO7 hlR hlO HTG HRT HAD HRA HMI HRM
      have HOK2 := Go.Lib.hid (show ∀ r ∈ [(⟨rn, rt, rc, rl, rd⟩ : Rc.RR), ⟨on, ot, oc, ol, od⟩], RROk r from fun r hr => by
        rcases List.mem_cons.1 hr with rfl | hr
        · exact HOR.out
        · rcases List.mem_cons.1 hr with rfl | hr
          · exact HOO.out
          · cases hr)
      have HOK1 := Go.Lib.hid (show ∀ r ∈ [(⟨on, ot, oc, ol, od⟩ : Rc.RR)], RROk r from fun r hr => by
        rcases List.mem_cons.1 hr with rfl | hr
        · exact HOO.out
        · cases hr)
      have HSS := Go.Lib.hid (fun (va vb : Value) (W2 : World) (h1 : RRs W2 va [(⟨rn, rt, rc, rl, rd⟩ : Rc.RR), ⟨on, ot, oc, ol, od⟩]) (h2 : RRs W2 vb [(⟨on, ot, oc, ol, od⟩ : Rc.RR)]) => SameSet_any va vb _ _ W2 h1 h2 (by simp) (by simp) HOK2.out HOK1.out)
      have HRSS := Go.Lib.hid (fun (va vb : Value) (W2 : World) (h1 : RRs W2 va [(⟨rn, rt, rc, rl, rd⟩ : Rc.RR), ⟨on, ot, oc, ol, od⟩]) (h2 : RRs W2 vb [(⟨on, ot, oc, ol, od⟩ : Rc.RR)]) => refSameSet_any va vb _ _ W2 h1 h2 (by simp) (by simp) HOK2.out HOK1.out)
      generalize hss : sameSetB [(⟨rn, rt, rc, rl, rd⟩ : Rc.RR), ⟨on, ot, oc, ol, od⟩] [(⟨on, ot, oc, ol, od⟩ : Rc.RR)] = ss at *
      clear hss
      go_wp2_with fail
      refine Go.Mix.wp_region_mixD [31, 34, 40, 42, 43, 46, 48, 49, 53] 55 GB (FT ⟨rn, rt, rc, rl, rd⟩ ⟨on, ot, oc, ol, od⟩) (ST sm ss) [(43, 40, 185), (43, 42, 187), (49, 46, 191), (49, 48, 193)] mixed (by kernel_rfl) (fun i e s hm => ?hsz) GB.trans GB.refl (fun i v w w' h hg => h.stable hg) (ST.inh _ _) ?_
      case hsz =>
        simp only [List.mem_cons, Prod.mk.injEq, List.not_mem_nil, or_false] at hm
        rcases hm with ⟨_, _, rfl⟩ | ⟨_, _, rfl⟩ | ⟨_, _, rfl⟩ | ⟨_, _, rfl⟩ <;> exact of_decide_eq_true rfl
      iterate 31 (refine Go.Mix.mixD_step rfl (fun K hK => ?_); have HKK := Go.Lib.hid hK; clear hK; go_simp; refine HKK.out _ ?_; clear HKK K)
      refine Go.Mix.mixD_eff rfl rfl (fun w7 hw7 hn7 => ?_) (fun v31 hv31 => ?_)
      · clear hn7
        go_simp
        refine (HSA.out _).mono ?_; rintro e w8 ⟨rfl, hx⟩
        exact ⟨hx, ⟨fun _ => rfl, fun h => absurd h (by decide), fun h => absurd h (by decide)⟩, FT.no (by decide) (by decide)⟩
      obtain rfl := hv31.1 (.inl rfl)
      clear hv31
      iterate 2 (refine Go.Mix.mixD_step rfl (fun K hK => ?_); have HKK := Go.Lib.hid hK; clear hK; go_simp; refine HKK.out _ ?_; clear HKK K)
      refine Go.Mix.mixD_eff rfl rfl (fun w7 hw7 hn7 => ?_) (fun v34 hv34 => ?_)
      · clear hn7
        go_simp
        refine (HRS.out _).mono ?_; rintro e w8 ⟨rfl, hx⟩
        exact ⟨hx, ⟨fun _ => rfl, fun h => absurd h (by decide), fun h => absurd h (by decide)⟩, FT.no (by decide) (by decide)⟩
      obtain rfl := hv34.1 (.inr rfl)
      clear hv34
      iterate 5 (refine Go.Mix.mixD_step rfl (fun K hK => ?_); have HKK := Go.Lib.hid hK; clear hK; go_simp; refine HKK.out _ ?_; clear HKK K)
      refine Go.Mix.mixD_eff rfl rfl (fun w7 hw7 hn7 => ?_) (fun v40 hv40 => ?_)
      · clear hn7
        go_simp
        exact ⟨(Below.refl _ _).alloc (Nat.le_refl _) _, ⟨fun h => absurd h (by decide), fun h => absurd h (by decide), fun h => absurd h (by decide)⟩, ⟨fun _ => set_new w7 [⟨rn, rt, rc, rl, rd⟩, ⟨on, ot, oc, ol, od⟩] (by simp [maxLen]), fun h => absurd h (by decide)⟩⟩
      clear hv40
      iterate 1 (refine Go.Mix.mixD_step rfl (fun K hK => ?_); have HKK := Go.Lib.hid hK; clear hK; go_simp; refine HKK.out _ ?_; clear HKK K)
      refine Go.Mix.mixD_eff rfl rfl (fun w7 hw7 hn7 => ?_) (fun v42 hv42 => ?_)
      · clear hn7
        go_simp
        exact ⟨(Below.refl _ _).alloc (Nat.le_refl _) _, ⟨fun h => absurd h (by decide), fun h => absurd h (by decide), fun h => absurd h (by decide)⟩, ⟨fun h => absurd h (by decide), fun _ => set_new w7 [⟨on, ot, oc, ol, od⟩] (by simp [maxLen])⟩⟩
      clear hv42
      refine Go.Mix.mixD_eff rfl rfl (fun w7 hw7 hn7 => ?_) (fun v43 hv43 => ?_)
      · have r1 : RRs w7 v40 [⟨rn, rt, rc, rl, rd⟩, ⟨on, ot, oc, ol, od⟩] := (hn7 40 185 (by simp)).1 (.inl rfl)
        have r2 : RRs w7 v42 [⟨on, ot, oc, ol, od⟩] := (hn7 42 187 (by simp)).2 (.inl rfl)
        clear hn7
        go_simp
        refine (HSS.out _ _ _ r1 r2).mono ?_; rintro e w8 ⟨rfl, hx⟩
        exact ⟨hx, ⟨fun h => absurd h (by decide), fun _ => rfl, fun h => absurd h (by decide)⟩, FT.no (by decide) (by decide)⟩
      obtain rfl := hv43.2.1 (.inl rfl)
      clear hv43
      iterate 2 (refine Go.Mix.mixD_step rfl (fun K hK => ?_); have HKK := Go.Lib.hid hK; clear hK; go_simp; refine HKK.out _ ?_; clear HKK K)
      refine Go.Mix.mixD_eff rfl rfl (fun w7 hw7 hn7 => ?_) (fun v46 hv46 => ?_)
      · clear hn7
        go_simp
        exact ⟨(Below.refl _ _).alloc (Nat.le_refl _) _, ⟨fun h => absurd h (by decide), fun h => absurd h (by decide), fun h => absurd h (by decide)⟩, ⟨fun _ => set_new w7 [⟨rn, rt, rc, rl, rd⟩, ⟨on, ot, oc, ol, od⟩] (by simp [maxLen]), fun h => absurd h (by decide)⟩⟩
      clear hv46
      iterate 1 (refine Go.Mix.mixD_step rfl (fun K hK => ?_); have HKK := Go.Lib.hid hK; clear hK; go_simp; refine HKK.out _ ?_; clear HKK K)
      refine Go.Mix.mixD_eff rfl rfl (fun w7 hw7 hn7 => ?_) (fun v48 hv48 => ?_)
      · clear hn7
        go_simp
        exact ⟨(Below.refl _ _).alloc (Nat.le_refl _) _, ⟨fun h => absurd h (by decide), fun h => absurd h (by decide), fun h => absurd h (by decide)⟩, ⟨fun h => absurd h (by decide), fun _ => set_new w7 [⟨on, ot, oc, ol, od⟩] (by simp [maxLen])⟩⟩
      clear hv48
      refine Go.Mix.mixD_eff rfl rfl (fun w7 hw7 hn7 => ?_) (fun v49 hv49 => ?_)
      · have r1 : RRs w7 v46 [⟨rn, rt, rc, rl, rd⟩, ⟨on, ot, oc, ol, od⟩] := (hn7 46 191 (by simp)).1 (.inr rfl)
        have r2 : RRs w7 v48 [⟨on, ot, oc, ol, od⟩] := (hn7 48 193 (by simp)).2 (.inr rfl)
        clear hn7
        go_simp
        refine (HRSS.out _ _ _ r1 r2).mono ?_; rintro e w8 ⟨rfl, hx⟩
        exact ⟨hx, ⟨fun h => absurd h (by decide), fun _ => rfl, fun h => absurd h (by decide)⟩, FT.no (by decide) (by decide)⟩
      obtain rfl := hv49.2.1 (.inr rfl)
      clear hv49
      iterate 3 (refine Go.Mix.mixD_step rfl (fun K hK => ?_); have HKK := Go.Lib.hid hK; clear hK; go_simp; refine HKK.out _ ?_; clear HKK K)
      refine Go.Mix.mixD_eff rfl rfl (fun w7 hw7 hn7 => ?_) (fun v53 hv53 => ?_)
      · clear hn7
        go_simp
        refine (HAW.out _).mono ?_; rintro e w8 ⟨rfl, hx⟩
        exact ⟨hx, ⟨fun h => absurd h (by decide), fun h => absurd h (by decide), fun _ => rfl⟩, FT.no (by decide) (by decide)⟩
      obtain rfl := hv53.2.2 rfl
      clear hv53
      iterate 1 (refine Go.Mix.mixD_step rfl (fun K hK => ?_); have HKK := Go.Lib.hid hK; clear hK; go_simp; refine HKK.out _ ?_; clear HKK K)
      refine Go.Mix.mixD_last rfl (fun w9 hg9 hP K hK => ?_)
      clear hP
      rw [if_pos (show Region.wanted _ _ = true from rfl)]
      have HKK := Go.Lib.hid hK
      clear hK
      have hb9 := HB7.out.trans ((Below.drew (Below.refl y6.heap.size y6)).trans hg9 |>.mono HB7.out.size)
      clear a0 a1 a2 a3 a4 b0 b1 b2 b3 b4 hnn hg9
      have HB9 := Go.Lib.hid hb9
      clear hb9
      go_simp
      refine HKK.out _ _ ?_
      clear HKK K
      go_wp2_with fail
      go_ret
      exact ⟨rfl, HB9.out⟩

theorem walk (r o : Rc.RR) (t : Int) (w : World) (hr : RRFit r) (ho : RRFit o) (ht : Fits t) (htab : Lib.TabIs Tryd.prog w "internal/strconv.uint64pow10" .u64 Lib.pow10Tab) :
    Calls Tryd.prog 3 #[rrV r, rrV o, .int .i64 t] w fun e w' => e = .returned (.bool true) ∧ Below w.heap.size w w' := by
  have hor : RROk r := hr.1
  have hoo : RROk o := ho.1
  obtain ⟨rn, rt, rc, rl, rd⟩ := r
  obtain ⟨on, ot, oc, ol, od⟩ := o
  by_cases hl : 400 < rn.length ∨ (rn.length ≤ 400 ∧ 1200 < rd.length) ∨ (rn.length ≤ 400 ∧ rd.length ≤ 1200 ∧ 400 < on.length) ∨ (rn.length ≤ 400 ∧ rd.length ≤ 1200 ∧ on.length ≤ 400 ∧ 1200 < od.length)
  · exact t1 rn rd on od rt rc rl ot oc ol t w hor.1 hor.2 hoo.1 hoo.2 hl
  have l1 : rn.length ≤ 400 := by omega
  have l2 : rd.length ≤ 1200 := by omega
  have l3 : on.length ≤ 400 := by omega
  have l4 : od.length ≤ 1200 := by omega
  have hs2 : (mk rd).size ≤ maxLen := by rw [size_mk]; exact hor.2
  have hpa := fun (W : World) => (by have k := Parts_any rt (mk rd) W; rw [bl_mk] at k; exact k : Calls Tryd.prog 10 #[.int .i64 rt, .string (mk rd)] W (RetParts W (Rc.partsN rt rd)))
  have hpb := fun (W : World) => (by have k := parts_any rt (mk rd) W hs2; rw [bl_mk] at k; exact k : Calls Tryd.prog 11 #[.int .i64 rt, .string (mk rd)] W fun e w' => ∃ v, e = .returned v ∧ Pairs w' v ((Rc.partsN rt rd).getD []) ∧ Below W.heap.size W w')
  have hd := fun (W : World) => (by have k := Data_any rt (mk rd) W hs2; rw [bl_mk] at k; exact k : Calls Tryd.prog 12 #[.int .i64 rt, .string (mk rd)] W fun e w' => e = .returned (.bool (Rc.dataB rt rd)) ∧ Below W.heap.size W w')
  have hlen : ∀ l, Rc.partsN rt rd = some l → l.length ≤ 2 := fun l h => (Rc.partsN_chain h).2
  have hsome := Rc.partsN_isSome rt rd
  cases hp : Rc.partsN rt rd with
  | none =>
    rw [hp] at hpa hpb hsome
    rw [← hsome] at hd
    exact k_false rn rd on od rt rc rl ot oc ol t w l1 l2 l3 l4 [] 0 rfl (by omega) rfl htab ht.1 ht.2 (Go.Lib.hid fun W => hpa W) (Go.Lib.hid hpb) (Go.Lib.hid hd) (Go.Lib.hid hor) (Go.Lib.hid hoo)
  | some l =>
    have hl2 := hlen l hp
    rw [hp] at hpa hpb hsome
    rw [← hsome] at hd
    exact k_true rn rd on od rt rc rl ot oc ol t w l1 l2 l3 l4 l l.length rfl hl2 htab ht.1 ht.2 (Go.Lib.hid fun W => hpa W) (Go.Lib.hid hpb) (Go.Lib.hid hd) (Go.Lib.hid hor) (Go.Lib.hid hoo)

set_option maxHeartbeats 8000000 in
set_option maxRecDepth 100000 in
theorem lifted (os : Os) (started : os.Started) (H : Type) (enc : TypeId × Value → H) :
    ReturnsInHanded {} Tryd.checked os 3 .any (fun w args => (Rows.recordTellsSpec.pre enc Tryd.prog Tryd.f3 [] false w args ∧ laidMetH Tryd.prog laidL w) ∧ sizedMet enc Tryd.prog Tryd.f3 (OpenSpec.ofChange Rows.recordTellsSpec) false w args) (Rows.recordTellsSpec.post enc Tryd.prog Tryd.f3 false true false false) := by
  refine returnsInHanded_of_change_and (C := Tryd.checked) (X := fun w _ => laidMetH Tryd.prog laidL w) (fun _ _ _ hh h => h.of_heap hh) own started (by kernel_rfl) Tryd.func3
    (ChangeSpec.witness_shaped (enc := enc) (C := Tryd.checked) (os := os) (X := fun w _ => laidMetH Tryd.prog laidL w) false (World.doorLaid Tryd.prog 400 os) #[.agg #[.string ⟨#[]⟩, .int .i64 0, .int .i64 0, .int .i64 0, .string ⟨#[]⟩], .agg #[.string ⟨#[]⟩, .int .i64 0, .int .i64 0, .int .i64 0, .string ⟨#[]⟩], .int .i64 0] 8 rfl (World.shaped_of_RefB (by kernel_rfl) (by kernel_rfl)) (by kernel_rfl) (by kernel_rfl) (by kernel_rfl) (door_met os _)) ?_
  intro W base args ds gs before hval0 hW _ _ hL _
  have hval : ∀ (j : Nat) t v, Tryd.f3.params[j]? = some t → args[j]? = some v → Value.okWide Tryd.prog W .any base t v := hval0
  refine law_post enc 3 (by kernel_rfl) rfl rfl (by kernel_rfl) (fun ds h => match ds, h with | [_, _, _], _ => rfl) hW ?_
  obtain ⟨p, q, hA0, hV, rfl, _, _⟩ := hW
  have hA : DataW.TrodAll enc Tryd.prog W 0 (fun _ => true) true Tryd.f3.params.toList args.toList ds p := hA0
  rw [Tryd.params3] at hA hval
  obtain ⟨v0, vs0, d0, ds0, p0, q0, hargs, rfl, rfl, h0, r0⟩ := trodAll_cons hA
  obtain ⟨v1, vs1, d1, ds1, p1, q1, rfl, rfl, rfl, h1, r1⟩ := trodAll_cons r0
  obtain ⟨v2, vs2, d2, ds2, p2, q2, rfl, rfl, rfl, h2, r2⟩ := trodAll_cons r1
  obtain ⟨rfl, rfl, rfl⟩ := trodAll_nil r2
  obtain rfl : args = #[v0, v1, v2] := by cases args; simp_all
  obtain ⟨y0, rfl, w0⟩ := open_RR (hval 0 23 v0 rfl rfl) h0
  obtain ⟨y1, rfl, w1⟩ := open_RR (hval 1 23 v1 rfl rfl) h1
  obtain ⟨a2, rfl, rfl, rfl, w2⟩ := open_int Tryd.underlying3 (hval 2 3 v2 rfl rfl) h2
  exact walk y0 y1 a2 W w0 w1 (fits_of_wf w2) (tab_of_laid hL)

theorem over : Rows.recordTellsRow.holds Tryd.pinned (OpenSpec.ofChange Rows.recordTellsSpec) :=
  OpenClaim.holds_of_wide 3 Tryd.f3 rfl rfl rfl rfl rfl rfl rfl ⟨rfl, rfl, rfl, rfl, rfl⟩ rfl rfl rfl rfl rfl (by kernel_rfl) Tryd.func3 (by kernel_rfl)
    (of_decide_eq_true (by kernel_rfl)) (by unfold Func.isWrapper; first | (rw [if_pos (by decide +kernel)]; kernel_rfl) | (rw [if_neg (by decide +kernel)]; exact ⟨rfl, rfl⟩))
    (fun os started H enc _ => lifted os started H enc)

/-- the statement: the row, its listed variables tied to the text -/
theorem proved : Rows.RecordTellsCardSaid :=
  Claim7.holds_tied_plain_at .later [] [.data, .data, .data] true _ false
    over (fun _ h => by cases h) (by kernel_rfl) (fun _ h => by cases h) recordTells_row_tie rfl ⟨rfl, rfl⟩ (by kernel_rfl) rfl
    (fun f fn hf hfn => by
      obtain rfl : f = 3 := Option.some.inj ((show Tryd.prog.funcNamed "freshet/freshetlaw3.RecordTells" = some 3 by kernel_rfl).symm.trans hf) |>.symm
      obtain rfl : fn = Tryd.f3 := (Option.some.inj (Tryd.func3.symm.trans hfn)).symm
      exact ⟨by kernel_rfl, fun j t ht => by
        rw [Tryd.params3] at ht
        have hm : t ∈ [23, 23, 3] := by simpa using Array.mem_of_getElem? ht
        have hall : ([23, 23, 3].all fun u => !Tryd.prog.wantsStandIn u) = true := by kernel_rfl
        exact (show Tryd.prog.wantsStandIn t = false by simpa using List.all_eq_true.1 hall t hm)⟩)
    (by kernel_rfl)
#print axioms proved
end Go.Proofs.YthfpijacemkbbaaDoor.recordTells

