/- RecordSets: sets are the same, however their records stand, and how often; one more of another kind, and they are not. For every input; no conditions. -/
import Derived.Test.YthfpijacemkbbaaDoorRqT
import Derived.Test.YthfpijacemkbbaaDoorDoor
import Derived.Test.YthfpijacemkbbaaDoorTie
import Derived.Test.YthfpijacemkbbaaDoorCards
namespace Go.Proofs.YthfpijacemkbbaaDoor.recordSets
open Go.ChangeShapes Go.WideShapes Go.ChangeAt Go.RowKit Go.Shelf Go.Sq
open Go.ChangeMaps (open_string shut_string)
set_option linter.unusedVariables false

set_option maxRecDepth 100000 in
set_option maxHeartbeats 16000000 in
theorem t1 (n : List UInt8) (ad : Option Addr) (m cap : Nat) (turn more : Int) (w : World) (hn : n.length ≤ maxLen) (hm : m ≤ maxLen) (h0 : 20 < m ∨ (m ≤ 20 ∧ 100 < n.length)) :
    Calls Tryd.prog 7 #[.string (mk n), .slice ad m cap, .int .i64 turn, .int .i64 more] w fun e w' => e = .returned (.bool true) ∧ Below w.heap.size w w' := by
  have HAW := Go.Lib.hid awake_any
  have hnm : (mk n).size = n.length := size_mk n
  unfold maxLen at hn hm
  rcases h0 with h0 | ⟨h0, h1⟩
  · have e1 : (20 : Int) < (m : Int) := by omega
    clear h0
    go_enter Tryd.func7, Tryd.ntmps7
    go_wp2_with fail
    refine (HAW.out _).mono ?_; rintro e wz ⟨rfl, hx⟩
    have HXX := Go.Lib.hid hx
    clear hx
    go_wp2_with fail
    go_ret
    exact ⟨rfl, HXX.out⟩
  · have e1 : ¬ (20 : Int) < (m : Int) := by omega
    have e2 : (100 : Int) < (n.length : Int) := by omega
    clear h0 h1
    go_enter Tryd.func7, Tryd.ntmps7
    go_wp2_with fail
    refine (HAW.out _).mono ?_; rintro e wz ⟨rfl, hx⟩
    have HXX := Go.Lib.hid hx
    clear hx
    go_wp2_with fail
    go_ret
    exact ⟨rfl, HXX.out⟩

set_option maxRecDepth 100000 in
set_option maxHeartbeats 16000000 in
theorem t2 (n : List UInt8) (ad : Option Addr) (m cap : Nat) (turn more : Int) (w : World) (hm : m ≤ 20) (h0 : n.length ≤ 100)
    (HV : Hid (∀ W, Calls Tryd.prog 35 #[.string (mk n)] W fun e w' => e = .returned (.bool false) ∧ Below W.heap.size W w')) :
    Calls Tryd.prog 7 #[.string (mk n), .slice ad m cap, .int .i64 turn, .int .i64 more] w fun e w' => e = .returned (.bool true) ∧ Below w.heap.size w w' := by
  have HAW := Go.Lib.hid awake_any
  have HB := Go.Lib.hid (Below.refl w.heap.size w)
  have hnm : (mk n).size = n.length := size_mk n
  have e1 : ¬ (20 : Int) < (m : Int) := by omega
  have e2 : ¬ (100 : Int) < (n.length : Int) := by omega
  go_enter Tryd.func7, Tryd.ntmps7
  go_wp2_with fail
  refine (HV.out _).mono ?_; rintro e wb1 ⟨rfl, hx⟩
  have hb := HB.out.trans (hx.mono HB.out.size)
  clear HB
  have HB := Go.Lib.hid hb
  clear hx hb
  go_wp2_with fail
  refine (HAW.out _).mono ?_; rintro e wb2 ⟨rfl, hx⟩
  have hb := HB.out.trans (hx.mono HB.out.size)
  clear HB
  have HB := Go.Lib.hid hb
  clear hx hb
  go_wp2_with fail
  go_ret
  exact ⟨rfl, HB.out⟩

def metB (K : Int) (l : List Int) : Bool := l.any fun z => z % 50 == K

set_option maxRecDepth 100000 in
set_option maxHeartbeats 32000000 in
theorem t3 (n : List UInt8) (ad : Option Addr) (m cap : Nat) (zs : List Int) (turn more K : Int) (t : Nat) (w : World) (hst : Ints w (.slice ad m cap) zs) (hzm : zs.length = m) (hm : m ≤ 20) (h0 : n.length ≤ 100) (hK0 : 0 ≤ K) (hK1 : K < 50) (ht : t ≤ m)
    (HNL : Hid (n.length ≤ maxLen)) (HV : Hid (∀ W, Calls Tryd.prog 35 #[.string (mk n)] W fun e w' => e = .returned (.bool true) ∧ Below W.heap.size W w'))
    (HR1 : Hid (∀ W, Calls Tryd.prog 36 #[.int .i64 more, .int .i64 50] W fun e w' => e = .returned (.int .i64 K) ∧ W = w'))
    (HRZ : Hid (∀ (z : Int) W, Calls Tryd.prog 36 #[.int .i64 z, .int .i64 50] W fun e w' => e = .returned (.int .i64 (z % 50)) ∧ W = w'))
    (HRT : Hid (∀ W, Calls Tryd.prog 36 #[.int .i64 turn, .int .i64 ((m : Int) + 1)] W fun e w' => e = .returned (.int .i64 (t : Int)) ∧ W = w'))
    (HMA : Hid (∀ (z : Int), makeAN n 60 (z % 50) = ⟨n, 1, 1, 60, four (z % 50)⟩)) (HMK : Hid (makeAN n 5 K = ⟨n, 1, 1, 5, four K⟩))
    (HS : Hid (∀ L, L = setOf n zs → sameSetB L ((L.drop t ++ L.take t) ++ L) = true ∧ sameSetB ((L.drop t ++ L.take t) ++ L) L = true ∧ sameSetB L (((L.drop t ++ L.take t) ++ L) ++ [⟨n, 1, 1, 5, four K⟩]) = metB K zs ∧ sameSetB (((L.drop t ++ L.take t) ++ L) ++ [⟨n, 1, 1, 5, four K⟩]) L = metB K zs)) :
    Calls Tryd.prog 7 #[.string (mk n), .slice ad m cap, .int .i64 turn, .int .i64 more] w fun e w' => e = .returned (.bool true) ∧ Below w.heap.size w w' := by
  have HAW := Go.Lib.hid awake_any
  have HB := Go.Lib.hid (Below.refl w.heap.size w)
  have hnm : (mk n).size = n.length := size_mk n
  have e1 : ¬ (20 : Int) < (m : Int) := by omega
  have e2 : ¬ (100 : Int) < (n.length : Int) := by omega
  have HST := Go.Lib.hid hst
  have HZM := Go.Lib.hid hzm
  clear hst hzm
  go_enter Tryd.func7, Tryd.ntmps7
  go_wp2_with fail
  refine (HV.out _).mono ?_; rintro e wb3 ⟨rfl, hx⟩
  have hb := HB.out.trans (hx.mono HB.out.size)
  clear HB
  have HB := Go.Lib.hid hb
  clear hx hb
  go_wp2_with fail
  refine (HR1.out _).mono ?_; rintro e _ ⟨rfl, rfl⟩
  go_wp2_with fail
  go_loopw [9, 10, 12, 13] (fun va mb i x wr => ∃ k : Nat, i = .int .i64 k ∧ k ≤ m ∧ mb = .bool (metB K (zs.take k)) ∧ wr.ownsRow w.heap.size 23 5 va k (encR (setOf n (zs.take k))) ∧ (k = 0 → va = .slice none 0 0) ∧ Below w.heap.size w wr) (fun _ _ i _ _ => m - (intOf i).toNat)
  case atStart => exact ⟨0, rfl, by omega, rfl, World.ownsRow_nil _ _ _ _, fun _ => rfl, HB.out⟩
  case round =>
    obtain ⟨k, rfl, hk, rfl, hown, hz0, hbr⟩ := hrel
    clear HB
    have HOWN := Go.Lib.hid hown
    have HZ0 := Go.Lib.hid hz0
    have HB := Go.Lib.hid hbr
    clear hown hz0 hbr
    by_cases hlt : k < m
    · have hsw := HST.out.below HB.out (Nat.le_refl _)
      obtain ⟨b, off, rfl, hbw, hcell⟩ := Ints.at hsw (by rw [HZM.out]; omega)
      have e0 := hcell k (by rw [HZM.out]; exact hlt)
      have hsn : zs.take (k + 1) = zs.take k ++ [zs.getD k 0] := by
        rw [List.take_succ_eq_append_getElem (by rw [HZM.out]; exact hlt)]
        simp [HZM.out, hlt]
      generalize zs.getD k 0 = z at *
      clear hsw hcell
      have hmt : metB K (zs.take (k + 1)) = (metB K (zs.take k) || (z % 50 == K)) := by rw [hsn]; simp [metB]
      have hst2 : setOf n (zs.take (k + 1)) = setOf n (zs.take k) ++ [⟨n, 1, 1, 60, four (z % 50)⟩] := by rw [hsn]; simp [setOf]
      generalize metB K (zs.take k) = mb at *
      have HMT := Go.Lib.hid hmt
      have HST2 := Go.Lib.hid hst2
      clear hmt hst2
      clear hsn
      go_wp2_with fail
      refine (HRZ.out z _).mono ?_; rintro e _ ⟨rfl, rfl⟩
      go_wp2_with fail
      refine (MakeA_any n 60 (z % 50) _ HNL.out).mono ?_; rintro e wm ⟨rfl, hx⟩
      rw [HMA.out]
      have ho2 := owns_below HOWN.out hx
      have hb2 := HB.out.trans (hx.mono HB.out.size)
      have hs2 := hb2.size
      have HO2 := Go.Lib.hid ho2
      have HB2 := Go.Lib.hid hb2
      clear ho2 hb2
      clear hx
      have HONE := Go.Lib.hid (one_rr ⟨n, 1, 1, 60, four (z % 50)⟩)
      cases mb with
      | true =>
        go_wp2_with (at_builtin; refine wpList_app eiRc (.tmp 44) (.tmp 48) rfl rfl w.heap.size rfl rfl (HO2.out.alloc _) (slc_new _ 5 1 23 [.string (mk n), .int .i64 1, .int .i64 1, .int .i64 60, .string (mk (four (z % 50)))] rfl (by decide)) HONE.out (by unfold maxLen; omega) (by omega) (by simp; omega) ?_; intro v1 w1 hown1 hg1; have HG1 := Go.Lib.hid hg1; clear hg1; have HOWN1 := Go.Lib.hid hown1; clear hown1)
        have hb3 := below_app (HB2.out.alloc hs2 (.cells #[.string (mk n), .int .i64 1, .int .i64 1, .int .i64 60, .string (mk (four (z % 50)))] 23)) (HO2.out.alloc _) HG1.out (Nat.le_refl _) (by simp; omega)
        have HB3 := Go.Lib.hid hb3
        clear hb3
        go_roundw
        case rel => exact ⟨k + 1, by go_num, by omega, by rw [HMT.out]; rfl, by rw [HST2.out, encR_snoc]; exact HOWN1.out, fun h => by omega, HB3.out⟩
        case measure => simp [intOf]; omega
      | false =>
        by_cases hzk : z % 50 = K
        · have e3 : (z % 50 == K) = true := beq_iff_eq.2 hzk
          clear hzk
          go_wp2_with (at_builtin; refine wpList_app eiRc (.tmp 44) (.tmp 48) rfl rfl w.heap.size rfl rfl (HO2.out.alloc _) (slc_new _ 5 1 23 [.string (mk n), .int .i64 1, .int .i64 1, .int .i64 60, .string (mk (four (z % 50)))] rfl (by decide)) HONE.out (by unfold maxLen; omega) (by omega) (by simp; omega) ?_; intro v1 w1 hown1 hg1; have HG1 := Go.Lib.hid hg1; clear hg1; have HOWN1 := Go.Lib.hid hown1; clear hown1)
          have hb3 := below_app (HB2.out.alloc hs2 (.cells #[.string (mk n), .int .i64 1, .int .i64 1, .int .i64 60, .string (mk (four (z % 50)))] 23)) (HO2.out.alloc _) HG1.out (Nat.le_refl _) (by simp; omega)
          have HB3 := Go.Lib.hid hb3
          clear hb3
          go_roundw
          case rel => exact ⟨k + 1, by go_num, by omega, by rw [HMT.out, e3]; rfl, by rw [HST2.out, encR_snoc]; exact HOWN1.out, fun h => by omega, HB3.out⟩
          case measure => simp [intOf]; omega
        · have e3 : (z % 50 == K) = false := beq_eq_false_iff_ne.2 hzk
          clear hzk
          go_wp2_with (at_builtin; refine wpList_app eiRc (.tmp 44) (.tmp 48) rfl rfl w.heap.size rfl rfl (HO2.out.alloc _) (slc_new _ 5 1 23 [.string (mk n), .int .i64 1, .int .i64 1, .int .i64 60, .string (mk (four (z % 50)))] rfl (by decide)) HONE.out (by unfold maxLen; omega) (by omega) (by simp; omega) ?_; intro v1 w1 hown1 hg1; have HG1 := Go.Lib.hid hg1; clear hg1; have HOWN1 := Go.Lib.hid hown1; clear hown1)
          have hb3 := below_app (HB2.out.alloc hs2 (.cells #[.string (mk n), .int .i64 1, .int .i64 1, .int .i64 60, .string (mk (four (z % 50)))] 23)) (HO2.out.alloc _) HG1.out (Nat.le_refl _) (by simp; omega)
          have HB3 := Go.Lib.hid hb3
          clear hb3
          go_roundw
          case rel => exact ⟨k + 1, by go_num, by omega, by rw [HMT.out, e3]; rfl, by rw [HST2.out, encR_snoc]; exact HOWN1.out, fun h => by omega, HB3.out⟩
          case measure => simp [intOf]; omega
    · obtain rfl : m = k := by omega
      have htk : zs.take m = zs := List.take_of_length_le (by rw [HZM.out]; exact Nat.le_refl _)
      rw [htk] at HOWN ⊢
      have hll : (setOf n zs).length = m := by rw [setOf_length, HZM.out]
      have hok : ∀ r ∈ setOf n zs, RROk r := fun r hr => by
        unfold setOf at hr
        obtain ⟨z, _, rfl⟩ := List.mem_map.1 hr
        exact ⟨HNL.out, by simp [four_length, maxLen]⟩
      have hs := HS.out _ rfl
      generalize metB K zs = mb at *
      generalize setOf n zs = L at *
      have HSS := Go.Lib.hid hs
      have HOK := Go.Lib.hid hok
      have HLL := Go.Lib.hid hll
      clear hs hok hll
      clear htk HMA HRZ
      have hra : RRs wr u9 L := by
        have := SlC.of_owns HOWN.out
        unfold RRs
        rw [HLL.out]
        exact this
      obtain ⟨ga, gc, rfl, hg1, hg2⟩ := hra.slice
      rw [HLL.out] at hg1 hra ⊢
      have hra2 : SlC wr 5 (.slice ga m gc) m (encR L) := by
        have := hra
        unfold RRs at this
        rwa [HLL.out] at this
      clear hra
      have HRA := Go.Lib.hid hra2
      clear hra2
      clear HOWN
      by_cases hm0 : m = 0
      · obtain rfl : 0 = m := hm0.symm
        obtain rfl : 0 = t := by omega
        obtain rfl : L = [] := List.eq_nil_of_length_eq_zero HLL.out
        have hv0 := HZ0.out rfl
        simp only [Value.slice.injEq] at hv0
        obtain ⟨rfl, _, rfl⟩ := hv0
        have HSUB1 : Hid (SlC wr 5 (.slice none 0 0) (0 - 0) (encR (([] : List Rc.RR).drop 0))) := Go.Lib.hid (SlC.nil _ _)
        have HSUB2 : Hid (SlC wr 5 (.slice none 0 0) 0 (encR (([] : List Rc.RR).take 0))) := Go.Lib.hid (SlC.nil _ _)
        clear HZ0
        have hll1 : (([] : List Rc.RR).drop 0).length = 0 - 0 := by rw [List.length_drop, HLL.out]
        have hll2 : (([] : List Rc.RR).take 0).length = 0 := by rw [List.length_take, HLL.out]; omega
        go_wp2_with fail
        refine (HRT.out _).mono ?_; rintro e _ ⟨rfl, rfl⟩
        go_wp2_with fail
        have hb0 : Below wr.heap.size wr (wr.alloc (.cells #[] 23)).drew := ((Below.refl _ _).alloc (Nat.le_refl _) _).drew
        have HSA := Go.Lib.hid (HSUB1.out.below hb0 (Nat.le_refl _))
        refine Go.Mix.wp_region_mix (Es := [0, 4, 8, 10]) (fun _ => True) mixed (by kernel_rfl) trivial (fun _ => ?_)
        (refine Go.Mix.mix_eff rfl (fun K hK => ?_); have HKK := Go.Lib.hid hK; clear hK; go_simp; refine HKK.out _ _ trivial ?_; clear HKK K)
        iterate 3 (refine Go.Mix.mix_step rfl (fun K hK => ?_); have HKK := Go.Lib.hid hK; clear hK; go_simp; refine HKK.out _ _ ?_; clear HKK K)
        refine mix_app eiRc (.tmp 61) (.tmp 64) rfl rfl rfl wr.heap.size rfl rfl (owns_empty wr wr.heap.size 23 5 (Nat.le_refl _)).drew HSA.out (one_rrs _) (by unfold maxLen; omega) (by omega) (by simp) ?_
        intro v1 w1 hown1 hg1
        have hb1 : Below wr.heap.size wr w1 := below_app hb0 (owns_empty wr wr.heap.size 23 5 (Nat.le_refl _)).drew hg1 (Nat.le_refl _) (by simp)
        have hs1 := hb1.size
        have HO1 := Go.Lib.hid hown1
        have HB1 := Go.Lib.hid hb1
        clear hown1 hb1
        clear hg1 hb0 HSA
        refine ⟨trivial, ?_⟩
        iterate 3 (refine Go.Mix.mix_step rfl (fun K hK => ?_); have HKK := Go.Lib.hid hK; clear hK; go_simp; refine HKK.out _ _ ?_; clear HKK K)
        have HSB := Go.Lib.hid (HSUB2.out.below HB1.out (Nat.le_refl _))
        refine mix_app eiRc (.tmp 65) (.tmp 68) rfl rfl rfl wr.heap.size rfl rfl HO1.out HSB.out (one_rrs _) (by unfold maxLen; omega) (by omega) hs1 ?_
        intro v2 w2 hown2 hg2
        have hb2 : Below wr.heap.size wr w2 := below_app HB1.out HO1.out hg2 (Nat.le_refl _) hs1
        have hs2 := hb2.size
        have HO2 := Go.Lib.hid hown2
        have HB2 := Go.Lib.hid hb2
        clear hown2 hb2
        clear hg2 HO1 HB1 HSB hs1
        refine ⟨trivial, ?_⟩
        iterate 1 (refine Go.Mix.mix_step rfl (fun K hK => ?_); have HKK := Go.Lib.hid hK; clear hK; go_simp; refine HKK.out _ _ ?_; clear HKK K)
        have HSC := Go.Lib.hid (HRA.out.below HB2.out (Nat.le_refl _))
        refine mix_app eiRc (.tmp 69) (.tmp 70) rfl rfl rfl wr.heap.size rfl rfl HO2.out HSC.out (one_rrs _) (by unfold maxLen; omega) (by omega) hs2 ?_
        intro v3 w3 hown3 hg3
        have hb3 : Below wr.heap.size wr w3 := below_app HB2.out HO2.out hg3 (Nat.le_refl _) hs2
        have hbv : RRs w3 v3 ((([] : List Rc.RR).drop 0 ++ ([] : List Rc.RR).take 0) ++ ([] : List Rc.RR)) := by
          have := SlC.of_owns hown3
          unfold RRs
          rw [encR_append, encR_append, List.length_append, List.length_append, hll1, hll2, HLL.out]
          rw [show 0 - 0 + 0 + 0 = 0 + (0) + 0 + 0 by omega]
          simpa using this
        have hlb : ((([] : List Rc.RR).drop 0 ++ ([] : List Rc.RR).take 0) ++ ([] : List Rc.RR)).length ≤ 40 := by
          rw [List.length_append, List.length_append, hll1, hll2, HLL.out]
          omega
        have hra3 : RRs w3 (.slice none 0 0) ([] : List Rc.RR) := by
          have := HRA.out.below hb3 (Nat.le_refl _)
          unfold RRs
          rw [HLL.out]
          exact this
        have hbw := HB.out.trans (hb3.mono HB.out.size)
        have hokb : ∀ r ∈ (([] : List Rc.RR).drop 0 ++ ([] : List Rc.RR).take 0) ++ ([] : List Rc.RR), RROk r := fun r hr => HOK.out r (turned_mem.1 hr)
        obtain ⟨k1, k2, k3, k4⟩ := HSS.out
        clear hown3 hg3 HO2 HB2 HSC hs2 hb3 HSUB1 HSUB2 HRA HB hll1 hll2
        generalize (([] : List Rc.RR).drop 0 ++ ([] : List Rc.RR).take 0) ++ ([] : List Rc.RR) = Lb at *
        have hlbe : Lb.length = Lb.length := rfl
        have HBV := Go.Lib.hid hbv
        have HRA3 := Go.Lib.hid hra3
        have HBW := Go.Lib.hid hbw
        have HOKB := Go.Lib.hid hokb
        clear hbv hra3 hbw hokb
        refine ⟨trivial, ?_⟩
        iterate 1 (refine Go.Mix.mix_step rfl (fun K hK => ?_); have HKK := Go.Lib.hid hK; clear hK; go_simp; refine HKK.out _ _ ?_; clear HKK K)
        refine Go.Mix.mix_nil ?_
        have hba : Below w3.heap.size w3 (w3.alloc (.cells #[] 23)) := (Below.refl _ w3).alloc (Nat.le_refl _) _
        have HBE := Go.Lib.hid (HBV.out.below hba (Nat.le_refl _))
        have HBA := Go.Lib.hid hba
        clear hba
        go_wp2_with (at_builtin; refine wpList_app eiRc (.tmp 72) (.tmp 73) rfl rfl w3.heap.size rfl rfl (owns_empty w3 w3.heap.size 23 5 (Nat.le_refl _)) HBE.out (one_rrs _) (by unfold maxLen; omega) (by omega) (by simp) ?_; intro v4 w4 hown4 hg4; have HG4 := Go.Lib.hid hg4; clear hg4; have HO4 := Go.Lib.hid hown4; clear hown4)
        have hb4 := below_app HBA.out (owns_empty w3 w3.heap.size 23 5 (Nat.le_refl _)) HG4.out (Nat.le_refl _) (by simp)
        refine (MakeA_any n 5 K _ HNL.out).mono ?_; rintro e w5 ⟨rfl, hx⟩
        rw [HMK.out]
        have ho5 := owns_below HO4.out hx
        have hb5 := hb4.trans (hx.mono hb4.size)
        have hs5 := hb5.size
        clear hx hb4 HG4 HO4 HBA HBE
        have HONE := Go.Lib.hid (one_rr (⟨n, 1, 1, 5, four K⟩ : Rc.RR))
        have HO5 := Go.Lib.hid ho5
        have HB5 := Go.Lib.hid hb5
        clear ho5 hb5
        go_wp2_with (at_builtin; refine wpList_app eiRc (.tmp 74) (.tmp 78) rfl rfl w3.heap.size rfl rfl (HO5.out.alloc _) (slc_new _ 5 1 23 [.string (mk n), .int .i64 1, .int .i64 1, .int .i64 5, .string (mk (four K))] rfl (by decide)) HONE.out (by unfold maxLen; omega) (by omega) (by simp; omega) ?_; intro v6 w6 hown6 hg6; have HG6 := Go.Lib.hid hg6; clear hg6; have HO6 := Go.Lib.hid hown6; clear hown6)
        have hb6 := below_app (HB5.out.alloc hs5 (.cells #[.string (mk n), .int .i64 1, .int .i64 1, .int .i64 5, .string (mk (four K))] 23)) (HO5.out.alloc _) HG6.out (Nat.le_refl _) (by simp; omega)
        have hcv : RRs w6 v6 (Lb ++ [(⟨n, 1, 1, 5, four K⟩ : Rc.RR)]) := by
          have := SlC.of_owns HO6.out
          unfold RRs
          rw [encR_snoc, List.length_append]
          simpa using this
        have hra6 := HRA3.out.below hb6 (Nat.le_refl _)
        have hbv6 := HBV.out.below hb6 (Nat.le_refl _)
        have hbw6 := HBW.out.trans (hb6.mono HBW.out.size)
        have hokc : ∀ r ∈ Lb ++ [(⟨n, 1, 1, 5, four K⟩ : Rc.RR)], RROk r := fun r hr => by
          rcases List.mem_append.1 hr with h | h
          · exact HOKB.out r h
          · simp at h; rw [h]; exact ⟨HNL.out, by simp [four_length, maxLen]⟩
        have hlc : (Lb ++ [(⟨n, 1, 1, 5, four K⟩ : Rc.RR)]).length ≤ 41 := by simp; omega
        have n1 : ([] : List Rc.RR).length ≤ 1099511627776 := by rw [HLL.out]; omega
        have n2 : Lb.length ≤ 1099511627776 := by omega
        have n3 : (Lb ++ [(⟨n, 1, 1, 5, four K⟩ : Rc.RR)]).length ≤ 1099511627776 := by omega
        clear HG6 HO6 HO5 hs5 hb6 HB5 HBV HRA3 HBW hlbe
        generalize Lb ++ [(⟨n, 1, 1, 5, four K⟩ : Rc.RR)] = Lc at *
        have HCV := Go.Lib.hid hcv
        have HRA6 := Go.Lib.hid hra6
        have HBV6 := Go.Lib.hid hbv6
        have HBW6 := Go.Lib.hid hbw6
        have HOKC := Go.Lib.hid hokc
        have N1 := Go.Lib.hid n1
        have N2 := Go.Lib.hid n2
        have N3 := Go.Lib.hid n3
        have K1 := Go.Lib.hid k1
        have K2 := Go.Lib.hid k2
        have K3 := Go.Lib.hid k3
        have K4 := Go.Lib.hid k4
        clear hcv hra6 hbv6 hbw6 hokc n1 n2 n3 k1 k2 k3 k4
        clear hlc hlb
        refine (SameSet_any _ _ ([] : List Rc.RR) Lb _ HRA6.out HBV6.out N1.out N2.out HOK.out HOKB.out).mono ?_; rintro e X1 ⟨rfl, hx1⟩
        rw [K1.out]
        have HX1 := Go.Lib.hid hx1
        clear hx1
        go_wp2_with fail
        refine (SameSet_any _ _ Lb ([] : List Rc.RR) _ (HBV6.out.below HX1.out (Nat.le_refl _)) (HRA6.out.below HX1.out (Nat.le_refl _)) N2.out N1.out HOKB.out HOK.out).mono ?_; rintro e X2 ⟨rfl, hx⟩
        rw [K2.out]
        have hx2 := HX1.out.trans (hx.mono HX1.out.size)
        clear hx HX1
        have HX2 := Go.Lib.hid hx2
        clear hx2
        go_wp2_with fail
        refine (SameSet_any _ _ ([] : List Rc.RR) Lc _ (HRA6.out.below HX2.out (Nat.le_refl _)) (HCV.out.below HX2.out (Nat.le_refl _)) N1.out N3.out HOK.out HOKC.out).mono ?_; rintro e X3 ⟨rfl, hx⟩
        rw [K3.out]
        have hx3 := HX2.out.trans (hx.mono HX2.out.size)
        clear hx HX2
        have HX3 := Go.Lib.hid hx3
        clear hx3
        go_wp2_with fail
        refine (SameSet_any _ _ Lc ([] : List Rc.RR) _ (HCV.out.below HX3.out (Nat.le_refl _)) (HRA6.out.below HX3.out (Nat.le_refl _)) N3.out N1.out HOKC.out HOK.out).mono ?_; rintro e X4 ⟨rfl, hx⟩
        rw [K4.out]
        have hx4 := HX3.out.trans (hx.mono HX3.out.size)
        clear hx HX3
        have HX4 := Go.Lib.hid hx4
        clear hx4
        go_wp2_with fail
        refine (HAW.out _).mono ?_; rintro e X5 ⟨rfl, hx⟩
        have hx5 := HBW6.out.trans ((HX4.out.trans (hx.mono HX4.out.size)).mono HBW6.out.size)
        clear hx HX4
        have HX5 := Go.Lib.hid hx5
        clear hx5
        go_wp2_with fail
        go_ret
        exact ⟨rfl, HX5.out⟩
      · obtain ⟨_, gb, go, rfl, hgb, _⟩ := SlC.at HRA.out (by omega)
        have hrr : RRs wr (.slice (some ⟨gb, go, none⟩) L.length gc) L := by unfold RRs; rw [HLL.out]; exact HRA.out
        clear HZ0
        by_cases hcap : gc = t
        · have hcap2 := hcap.symm
          clear hcap
          subst hcap2
          have hsub1 := RRs_sub hrr (i := t) (j := L.length) (by rw [HLL.out]; omega) (Nat.le_refl _) (a' := some ⟨gb, go, none⟩) (fun h => by rw [HLL.out] at h; omega) (fun h => by cases h)
          have hsub2 := RRs_sub hrr (i := 0) (j := t) (by omega) (by rw [HLL.out]; omega) (a' := some ⟨gb, go, none⟩) (fun _ => by simp) (fun h => by cases h)
          rw [List.take_of_length_le (by rw [List.length_drop]; exact Nat.le_refl _), HLL.out, Nat.sub_self] at hsub1
          simp only [Nat.sub_zero, List.drop_zero] at hsub2
          have hmt0 : m - t = 0 := by omega
          have HSUB1 : Hid (SlC wr 5 (.slice (some ⟨gb, go, none⟩) 0 0) 0 (encR (L.drop t))) := Go.Lib.hid (by have := hsub1; unfold RRs at this; rwa [List.length_drop, HLL.out, hmt0] at this)
          clear hmt0
          have HSUB2 : Hid (SlC wr 5 (.slice (some ⟨gb, go, none⟩) t t) t (encR (L.take t))) := Go.Lib.hid (by have := hsub2; unfold RRs at this; rwa [List.length_take, HLL.out, Nat.min_eq_left ht] at this)
          clear hsub1 hsub2 hrr
          have hll1 : (L.drop t).length = m - t := by rw [List.length_drop, HLL.out]
          have hll2 : (L.take t).length = t := by rw [List.length_take, HLL.out]; omega
          go_wp2_with fail
          refine (HRT.out _).mono ?_; rintro e _ ⟨rfl, rfl⟩
          go_wp2_with fail
          have hb0 : Below wr.heap.size wr (wr.alloc (.cells #[] 23)).drew := ((Below.refl _ _).alloc (Nat.le_refl _) _).drew
          have HSA := Go.Lib.hid (HSUB1.out.below hb0 (Nat.le_refl _))
          refine Go.Mix.wp_region_mix (Es := [0, 4, 8, 10]) (fun _ => True) mixed (by kernel_rfl) trivial (fun _ => ?_)
          (refine Go.Mix.mix_eff rfl (fun K hK => ?_); have HKK := Go.Lib.hid hK; clear hK; go_simp; refine HKK.out _ _ trivial ?_; clear HKK K)
          iterate 3 (refine Go.Mix.mix_step rfl (fun K hK => ?_); have HKK := Go.Lib.hid hK; clear hK; go_simp; refine HKK.out _ _ ?_; clear HKK K)
          refine mix_app eiRc (.tmp 61) (.tmp 64) rfl rfl rfl wr.heap.size rfl rfl (owns_empty wr wr.heap.size 23 5 (Nat.le_refl _)).drew HSA.out (one_rrs _) (by unfold maxLen; omega) (by omega) (by simp) ?_
          intro v1 w1 hown1 hg1
          have hb1 : Below wr.heap.size wr w1 := below_app hb0 (owns_empty wr wr.heap.size 23 5 (Nat.le_refl _)).drew hg1 (Nat.le_refl _) (by simp)
          have hs1 := hb1.size
          have HO1 := Go.Lib.hid hown1
          have HB1 := Go.Lib.hid hb1
          clear hown1 hb1
          clear hg1 hb0 HSA
          refine ⟨trivial, ?_⟩
          iterate 3 (refine Go.Mix.mix_step rfl (fun K hK => ?_); have HKK := Go.Lib.hid hK; clear hK; go_simp; refine HKK.out _ _ ?_; clear HKK K)
          have HSB := Go.Lib.hid (HSUB2.out.below HB1.out (Nat.le_refl _))
          refine mix_app eiRc (.tmp 65) (.tmp 68) rfl rfl rfl wr.heap.size rfl rfl HO1.out HSB.out (one_rrs _) (by unfold maxLen; omega) (by omega) hs1 ?_
          intro v2 w2 hown2 hg2
          have hb2 : Below wr.heap.size wr w2 := below_app HB1.out HO1.out hg2 (Nat.le_refl _) hs1
          have hs2 := hb2.size
          have HO2 := Go.Lib.hid hown2
          have HB2 := Go.Lib.hid hb2
          clear hown2 hb2
          clear hg2 HO1 HB1 HSB hs1
          refine ⟨trivial, ?_⟩
          iterate 1 (refine Go.Mix.mix_step rfl (fun K hK => ?_); have HKK := Go.Lib.hid hK; clear hK; go_simp; refine HKK.out _ _ ?_; clear HKK K)
          have HSC := Go.Lib.hid (HRA.out.below HB2.out (Nat.le_refl _))
          refine mix_app eiRc (.tmp 69) (.tmp 70) rfl rfl rfl wr.heap.size rfl rfl HO2.out HSC.out (one_rrs _) (by unfold maxLen; omega) (by omega) hs2 ?_
          intro v3 w3 hown3 hg3
          have hb3 : Below wr.heap.size wr w3 := below_app HB2.out HO2.out hg3 (Nat.le_refl _) hs2
          have hbv : RRs w3 v3 ((L.drop t ++ L.take t) ++ L) := by
            have := SlC.of_owns hown3
            unfold RRs
            rw [encR_append, encR_append, List.length_append, List.length_append, hll1, hll2, HLL.out]
            rw [show m - t + t + m = 0 + (0) + t + m by omega]
            simpa using this
          have hlb : ((L.drop t ++ L.take t) ++ L).length ≤ 40 := by
            rw [List.length_append, List.length_append, hll1, hll2, HLL.out]
            omega
          have hra3 : RRs w3 (.slice (some ⟨gb, go, none⟩) m t) L := by
            have := HRA.out.below hb3 (Nat.le_refl _)
            unfold RRs
            rw [HLL.out]
            exact this
          have hbw := HB.out.trans (hb3.mono HB.out.size)
          have hokb : ∀ r ∈ (L.drop t ++ L.take t) ++ L, RROk r := fun r hr => HOK.out r (turned_mem.1 hr)
          obtain ⟨k1, k2, k3, k4⟩ := HSS.out
          clear hown3 hg3 HO2 HB2 HSC hs2 hb3 HSUB1 HSUB2 HRA HB hll1 hll2
          generalize (L.drop t ++ L.take t) ++ L = Lb at *
          have hlbe : Lb.length = Lb.length := rfl
          have HBV := Go.Lib.hid hbv
          have HRA3 := Go.Lib.hid hra3
          have HBW := Go.Lib.hid hbw
          have HOKB := Go.Lib.hid hokb
          clear hbv hra3 hbw hokb
          refine ⟨trivial, ?_⟩
          iterate 1 (refine Go.Mix.mix_step rfl (fun K hK => ?_); have HKK := Go.Lib.hid hK; clear hK; go_simp; refine HKK.out _ _ ?_; clear HKK K)
          refine Go.Mix.mix_nil ?_
          have hba : Below w3.heap.size w3 (w3.alloc (.cells #[] 23)) := (Below.refl _ w3).alloc (Nat.le_refl _) _
          have HBE := Go.Lib.hid (HBV.out.below hba (Nat.le_refl _))
          have HBA := Go.Lib.hid hba
          clear hba
          go_wp2_with (at_builtin; refine wpList_app eiRc (.tmp 72) (.tmp 73) rfl rfl w3.heap.size rfl rfl (owns_empty w3 w3.heap.size 23 5 (Nat.le_refl _)) HBE.out (one_rrs _) (by unfold maxLen; omega) (by omega) (by simp) ?_; intro v4 w4 hown4 hg4; have HG4 := Go.Lib.hid hg4; clear hg4; have HO4 := Go.Lib.hid hown4; clear hown4)
          have hb4 := below_app HBA.out (owns_empty w3 w3.heap.size 23 5 (Nat.le_refl _)) HG4.out (Nat.le_refl _) (by simp)
          refine (MakeA_any n 5 K _ HNL.out).mono ?_; rintro e w5 ⟨rfl, hx⟩
          rw [HMK.out]
          have ho5 := owns_below HO4.out hx
          have hb5 := hb4.trans (hx.mono hb4.size)
          have hs5 := hb5.size
          clear hx hb4 HG4 HO4 HBA HBE
          have HONE := Go.Lib.hid (one_rr (⟨n, 1, 1, 5, four K⟩ : Rc.RR))
          have HO5 := Go.Lib.hid ho5
          have HB5 := Go.Lib.hid hb5
          clear ho5 hb5
          go_wp2_with (at_builtin; refine wpList_app eiRc (.tmp 74) (.tmp 78) rfl rfl w3.heap.size rfl rfl (HO5.out.alloc _) (slc_new _ 5 1 23 [.string (mk n), .int .i64 1, .int .i64 1, .int .i64 5, .string (mk (four K))] rfl (by decide)) HONE.out (by unfold maxLen; omega) (by omega) (by simp; omega) ?_; intro v6 w6 hown6 hg6; have HG6 := Go.Lib.hid hg6; clear hg6; have HO6 := Go.Lib.hid hown6; clear hown6)
          have hb6 := below_app (HB5.out.alloc hs5 (.cells #[.string (mk n), .int .i64 1, .int .i64 1, .int .i64 5, .string (mk (four K))] 23)) (HO5.out.alloc _) HG6.out (Nat.le_refl _) (by simp; omega)
          have hcv : RRs w6 v6 (Lb ++ [(⟨n, 1, 1, 5, four K⟩ : Rc.RR)]) := by
            have := SlC.of_owns HO6.out
            unfold RRs
            rw [encR_snoc, List.length_append]
            simpa using this
          have hra6 := HRA3.out.below hb6 (Nat.le_refl _)
          have hbv6 := HBV.out.below hb6 (Nat.le_refl _)
          have hbw6 := HBW.out.trans (hb6.mono HBW.out.size)
          have hokc : ∀ r ∈ Lb ++ [(⟨n, 1, 1, 5, four K⟩ : Rc.RR)], RROk r := fun r hr => by
            rcases List.mem_append.1 hr with h | h
            · exact HOKB.out r h
            · simp at h; rw [h]; exact ⟨HNL.out, by simp [four_length, maxLen]⟩
          have hlc : (Lb ++ [(⟨n, 1, 1, 5, four K⟩ : Rc.RR)]).length ≤ 41 := by simp; omega
          have n1 : L.length ≤ 1099511627776 := by rw [HLL.out]; omega
          have n2 : Lb.length ≤ 1099511627776 := by omega
          have n3 : (Lb ++ [(⟨n, 1, 1, 5, four K⟩ : Rc.RR)]).length ≤ 1099511627776 := by omega
          clear HG6 HO6 HO5 hs5 hb6 HB5 HBV HRA3 HBW hlbe
          generalize Lb ++ [(⟨n, 1, 1, 5, four K⟩ : Rc.RR)] = Lc at *
          have HCV := Go.Lib.hid hcv
          have HRA6 := Go.Lib.hid hra6
          have HBV6 := Go.Lib.hid hbv6
          have HBW6 := Go.Lib.hid hbw6
          have HOKC := Go.Lib.hid hokc
          have N1 := Go.Lib.hid n1
          have N2 := Go.Lib.hid n2
          have N3 := Go.Lib.hid n3
          have K1 := Go.Lib.hid k1
          have K2 := Go.Lib.hid k2
          have K3 := Go.Lib.hid k3
          have K4 := Go.Lib.hid k4
          clear hcv hra6 hbv6 hbw6 hokc n1 n2 n3 k1 k2 k3 k4
          clear hlc hlb
          refine (SameSet_any _ _ L Lb _ HRA6.out HBV6.out N1.out N2.out HOK.out HOKB.out).mono ?_; rintro e X1 ⟨rfl, hx1⟩
          rw [K1.out]
          have HX1 := Go.Lib.hid hx1
          clear hx1
          go_wp2_with fail
          refine (SameSet_any _ _ Lb L _ (HBV6.out.below HX1.out (Nat.le_refl _)) (HRA6.out.below HX1.out (Nat.le_refl _)) N2.out N1.out HOKB.out HOK.out).mono ?_; rintro e X2 ⟨rfl, hx⟩
          rw [K2.out]
          have hx2 := HX1.out.trans (hx.mono HX1.out.size)
          clear hx HX1
          have HX2 := Go.Lib.hid hx2
          clear hx2
          go_wp2_with fail
          refine (SameSet_any _ _ L Lc _ (HRA6.out.below HX2.out (Nat.le_refl _)) (HCV.out.below HX2.out (Nat.le_refl _)) N1.out N3.out HOK.out HOKC.out).mono ?_; rintro e X3 ⟨rfl, hx⟩
          rw [K3.out]
          have hx3 := HX2.out.trans (hx.mono HX2.out.size)
          clear hx HX2
          have HX3 := Go.Lib.hid hx3
          clear hx3
          go_wp2_with fail
          refine (SameSet_any _ _ Lc L _ (HCV.out.below HX3.out (Nat.le_refl _)) (HRA6.out.below HX3.out (Nat.le_refl _)) N3.out N1.out HOKC.out HOK.out).mono ?_; rintro e X4 ⟨rfl, hx⟩
          rw [K4.out]
          have hx4 := HX3.out.trans (hx.mono HX3.out.size)
          clear hx HX3
          have HX4 := Go.Lib.hid hx4
          clear hx4
          go_wp2_with fail
          refine (HAW.out _).mono ?_; rintro e X5 ⟨rfl, hx⟩
          have hx5 := HBW6.out.trans ((HX4.out.trans (hx.mono HX4.out.size)).mono HBW6.out.size)
          clear hx HX4
          have HX5 := Go.Lib.hid hx5
          clear hx5
          go_wp2_with fail
          go_ret
          exact ⟨rfl, HX5.out⟩
        · have hsub1 := RRs_sub hrr (i := t) (j := L.length) (by rw [HLL.out]; omega) (Nat.le_refl _) (a' := some ⟨gb, go + t * 5, none⟩) (fun _ => rfl) (fun h => by cases h)
          have hsub2 := RRs_sub hrr (i := 0) (j := t) (by omega) (by rw [HLL.out]; omega) (a' := some ⟨gb, go, none⟩) (fun _ => by simp) (fun h => by cases h)
          rw [List.take_of_length_le (by rw [List.length_drop]; exact Nat.le_refl _), HLL.out] at hsub1
          simp only [Nat.sub_zero, List.drop_zero] at hsub2
          have HSUB1 : Hid (SlC wr 5 (.slice (some ⟨gb, go + t * 5, none⟩) (m - t) (gc - t)) (m - t) (encR (L.drop t))) := Go.Lib.hid (by have := hsub1; unfold RRs at this; rwa [List.length_drop, HLL.out] at this)
          have HSUB2 : Hid (SlC wr 5 (.slice (some ⟨gb, go, none⟩) t gc) t (encR (L.take t))) := Go.Lib.hid (by have := hsub2; unfold RRs at this; rwa [List.length_take, HLL.out, Nat.min_eq_left ht] at this)
          clear hsub1 hsub2 hrr
          have q3 : t ≤ gc := by omega
          have hll1 : (L.drop t).length = m - t := by rw [List.length_drop, HLL.out]
          have hll2 : (L.take t).length = t := by rw [List.length_take, HLL.out]; omega
          go_wp2_with fail
          refine (HRT.out _).mono ?_; rintro e _ ⟨rfl, rfl⟩
          go_wp2_with fail
          have hb0 : Below wr.heap.size wr (wr.alloc (.cells #[] 23)).drew := ((Below.refl _ _).alloc (Nat.le_refl _) _).drew
          have HSA := Go.Lib.hid (HSUB1.out.below hb0 (Nat.le_refl _))
          refine Go.Mix.wp_region_mix (Es := [0, 4, 8, 10]) (fun _ => True) mixed (by kernel_rfl) trivial (fun _ => ?_)
          (refine Go.Mix.mix_eff rfl (fun K hK => ?_); have HKK := Go.Lib.hid hK; clear hK; go_simp; refine HKK.out _ _ trivial ?_; clear HKK K)
          iterate 3 (refine Go.Mix.mix_step rfl (fun K hK => ?_); have HKK := Go.Lib.hid hK; clear hK; go_simp; refine HKK.out _ _ ?_; clear HKK K)
          refine mix_app eiRc (.tmp 61) (.tmp 64) rfl rfl rfl wr.heap.size rfl rfl (owns_empty wr wr.heap.size 23 5 (Nat.le_refl _)).drew HSA.out (one_rrs _) (by unfold maxLen; omega) (by omega) (by simp) ?_
          intro v1 w1 hown1 hg1
          have hb1 : Below wr.heap.size wr w1 := below_app hb0 (owns_empty wr wr.heap.size 23 5 (Nat.le_refl _)).drew hg1 (Nat.le_refl _) (by simp)
          have hs1 := hb1.size
          have HO1 := Go.Lib.hid hown1
          have HB1 := Go.Lib.hid hb1
          clear hown1 hb1
          clear hg1 hb0 HSA
          refine ⟨trivial, ?_⟩
          iterate 3 (refine Go.Mix.mix_step rfl (fun K hK => ?_); have HKK := Go.Lib.hid hK; clear hK; go_simp; refine HKK.out _ _ ?_; clear HKK K)
          have HSB := Go.Lib.hid (HSUB2.out.below HB1.out (Nat.le_refl _))
          refine mix_app eiRc (.tmp 65) (.tmp 68) rfl rfl rfl wr.heap.size rfl rfl HO1.out HSB.out (one_rrs _) (by unfold maxLen; omega) (by omega) hs1 ?_
          intro v2 w2 hown2 hg2
          have hb2 : Below wr.heap.size wr w2 := below_app HB1.out HO1.out hg2 (Nat.le_refl _) hs1
          have hs2 := hb2.size
          have HO2 := Go.Lib.hid hown2
          have HB2 := Go.Lib.hid hb2
          clear hown2 hb2
          clear hg2 HO1 HB1 HSB hs1
          refine ⟨trivial, ?_⟩
          iterate 1 (refine Go.Mix.mix_step rfl (fun K hK => ?_); have HKK := Go.Lib.hid hK; clear hK; go_simp; refine HKK.out _ _ ?_; clear HKK K)
          have HSC := Go.Lib.hid (HRA.out.below HB2.out (Nat.le_refl _))
          refine mix_app eiRc (.tmp 69) (.tmp 70) rfl rfl rfl wr.heap.size rfl rfl HO2.out HSC.out (one_rrs _) (by unfold maxLen; omega) (by omega) hs2 ?_
          intro v3 w3 hown3 hg3
          have hb3 : Below wr.heap.size wr w3 := below_app HB2.out HO2.out hg3 (Nat.le_refl _) hs2
          have hbv : RRs w3 v3 ((L.drop t ++ L.take t) ++ L) := by
            have := SlC.of_owns hown3
            unfold RRs
            rw [encR_append, encR_append, List.length_append, List.length_append, hll1, hll2, HLL.out]
            rw [show m - t + t + m = 0 + (m - t) + t + m by omega]
            simpa using this
          have hlb : ((L.drop t ++ L.take t) ++ L).length ≤ 40 := by
            rw [List.length_append, List.length_append, hll1, hll2, HLL.out]
            omega
          have hra3 : RRs w3 (.slice (some ⟨gb, go, none⟩) m gc) L := by
            have := HRA.out.below hb3 (Nat.le_refl _)
            unfold RRs
            rw [HLL.out]
            exact this
          have hbw := HB.out.trans (hb3.mono HB.out.size)
          have hokb : ∀ r ∈ (L.drop t ++ L.take t) ++ L, RROk r := fun r hr => HOK.out r (turned_mem.1 hr)
          obtain ⟨k1, k2, k3, k4⟩ := HSS.out
          clear hown3 hg3 HO2 HB2 HSC hs2 hb3 HSUB1 HSUB2 HRA HB hll1 hll2
          generalize (L.drop t ++ L.take t) ++ L = Lb at *
          have hlbe : Lb.length = Lb.length := rfl
          have HBV := Go.Lib.hid hbv
          have HRA3 := Go.Lib.hid hra3
          have HBW := Go.Lib.hid hbw
          have HOKB := Go.Lib.hid hokb
          clear hbv hra3 hbw hokb
          refine ⟨trivial, ?_⟩
          iterate 1 (refine Go.Mix.mix_step rfl (fun K hK => ?_); have HKK := Go.Lib.hid hK; clear hK; go_simp; refine HKK.out _ _ ?_; clear HKK K)
          refine Go.Mix.mix_nil ?_
          have hba : Below w3.heap.size w3 (w3.alloc (.cells #[] 23)) := (Below.refl _ w3).alloc (Nat.le_refl _) _
          have HBE := Go.Lib.hid (HBV.out.below hba (Nat.le_refl _))
          have HBA := Go.Lib.hid hba
          clear hba
          go_wp2_with (at_builtin; refine wpList_app eiRc (.tmp 72) (.tmp 73) rfl rfl w3.heap.size rfl rfl (owns_empty w3 w3.heap.size 23 5 (Nat.le_refl _)) HBE.out (one_rrs _) (by unfold maxLen; omega) (by omega) (by simp) ?_; intro v4 w4 hown4 hg4; have HG4 := Go.Lib.hid hg4; clear hg4; have HO4 := Go.Lib.hid hown4; clear hown4)
          have hb4 := below_app HBA.out (owns_empty w3 w3.heap.size 23 5 (Nat.le_refl _)) HG4.out (Nat.le_refl _) (by simp)
          refine (MakeA_any n 5 K _ HNL.out).mono ?_; rintro e w5 ⟨rfl, hx⟩
          rw [HMK.out]
          have ho5 := owns_below HO4.out hx
          have hb5 := hb4.trans (hx.mono hb4.size)
          have hs5 := hb5.size
          clear hx hb4 HG4 HO4 HBA HBE
          have HONE := Go.Lib.hid (one_rr (⟨n, 1, 1, 5, four K⟩ : Rc.RR))
          have HO5 := Go.Lib.hid ho5
          have HB5 := Go.Lib.hid hb5
          clear ho5 hb5
          go_wp2_with (at_builtin; refine wpList_app eiRc (.tmp 74) (.tmp 78) rfl rfl w3.heap.size rfl rfl (HO5.out.alloc _) (slc_new _ 5 1 23 [.string (mk n), .int .i64 1, .int .i64 1, .int .i64 5, .string (mk (four K))] rfl (by decide)) HONE.out (by unfold maxLen; omega) (by omega) (by simp; omega) ?_; intro v6 w6 hown6 hg6; have HG6 := Go.Lib.hid hg6; clear hg6; have HO6 := Go.Lib.hid hown6; clear hown6)
          have hb6 := below_app (HB5.out.alloc hs5 (.cells #[.string (mk n), .int .i64 1, .int .i64 1, .int .i64 5, .string (mk (four K))] 23)) (HO5.out.alloc _) HG6.out (Nat.le_refl _) (by simp; omega)
          have hcv : RRs w6 v6 (Lb ++ [(⟨n, 1, 1, 5, four K⟩ : Rc.RR)]) := by
            have := SlC.of_owns HO6.out
            unfold RRs
            rw [encR_snoc, List.length_append]
            simpa using this
          have hra6 := HRA3.out.below hb6 (Nat.le_refl _)
          have hbv6 := HBV.out.below hb6 (Nat.le_refl _)
          have hbw6 := HBW.out.trans (hb6.mono HBW.out.size)
          have hokc : ∀ r ∈ Lb ++ [(⟨n, 1, 1, 5, four K⟩ : Rc.RR)], RROk r := fun r hr => by
            rcases List.mem_append.1 hr with h | h
            · exact HOKB.out r h
            · simp at h; rw [h]; exact ⟨HNL.out, by simp [four_length, maxLen]⟩
          have hlc : (Lb ++ [(⟨n, 1, 1, 5, four K⟩ : Rc.RR)]).length ≤ 41 := by simp; omega
          have n1 : L.length ≤ 1099511627776 := by rw [HLL.out]; omega
          have n2 : Lb.length ≤ 1099511627776 := by omega
          have n3 : (Lb ++ [(⟨n, 1, 1, 5, four K⟩ : Rc.RR)]).length ≤ 1099511627776 := by omega
          clear HG6 HO6 HO5 hs5 hb6 HB5 HBV HRA3 HBW hlbe
          generalize Lb ++ [(⟨n, 1, 1, 5, four K⟩ : Rc.RR)] = Lc at *
          have HCV := Go.Lib.hid hcv
          have HRA6 := Go.Lib.hid hra6
          have HBV6 := Go.Lib.hid hbv6
          have HBW6 := Go.Lib.hid hbw6
          have HOKC := Go.Lib.hid hokc
          have N1 := Go.Lib.hid n1
          have N2 := Go.Lib.hid n2
          have N3 := Go.Lib.hid n3
          have K1 := Go.Lib.hid k1
          have K2 := Go.Lib.hid k2
          have K3 := Go.Lib.hid k3
          have K4 := Go.Lib.hid k4
          clear hcv hra6 hbv6 hbw6 hokc n1 n2 n3 k1 k2 k3 k4
          clear hlc hlb
          refine (SameSet_any _ _ L Lb _ HRA6.out HBV6.out N1.out N2.out HOK.out HOKB.out).mono ?_; rintro e X1 ⟨rfl, hx1⟩
          rw [K1.out]
          have HX1 := Go.Lib.hid hx1
          clear hx1
          go_wp2_with fail
          refine (SameSet_any _ _ Lb L _ (HBV6.out.below HX1.out (Nat.le_refl _)) (HRA6.out.below HX1.out (Nat.le_refl _)) N2.out N1.out HOKB.out HOK.out).mono ?_; rintro e X2 ⟨rfl, hx⟩
          rw [K2.out]
          have hx2 := HX1.out.trans (hx.mono HX1.out.size)
          clear hx HX1
          have HX2 := Go.Lib.hid hx2
          clear hx2
          go_wp2_with fail
          refine (SameSet_any _ _ L Lc _ (HRA6.out.below HX2.out (Nat.le_refl _)) (HCV.out.below HX2.out (Nat.le_refl _)) N1.out N3.out HOK.out HOKC.out).mono ?_; rintro e X3 ⟨rfl, hx⟩
          rw [K3.out]
          have hx3 := HX2.out.trans (hx.mono HX2.out.size)
          clear hx HX2
          have HX3 := Go.Lib.hid hx3
          clear hx3
          go_wp2_with fail
          refine (SameSet_any _ _ Lc L _ (HCV.out.below HX3.out (Nat.le_refl _)) (HRA6.out.below HX3.out (Nat.le_refl _)) N3.out N1.out HOKC.out HOK.out).mono ?_; rintro e X4 ⟨rfl, hx⟩
          rw [K4.out]
          have hx4 := HX3.out.trans (hx.mono HX3.out.size)
          clear hx HX3
          have HX4 := Go.Lib.hid hx4
          clear hx4
          go_wp2_with fail
          refine (HAW.out _).mono ?_; rintro e X5 ⟨rfl, hx⟩
          have hx5 := HBW6.out.trans ((HX4.out.trans (hx.mono HX4.out.size)).mono HBW6.out.size)
          clear hx HX4
          have HX5 := Go.Lib.hid hx5
          clear hx5
          go_wp2_with fail
          go_ret
          exact ⟨rfl, HX5.out⟩

theorem walk (s0 : ByteArray) (ad : Option Addr) (zs : List Int) (cap : Nat) (turn more : Int) (w : World) (h0 : s0.size ≤ maxLen) (hst : Ints w (.slice ad zs.length cap) zs) (_ : ∀ z ∈ zs, Fits z) (_ : Fits turn) (_ : Fits more) :
    Calls Tryd.prog 7 #[.string s0, .slice ad zs.length cap, .int .i64 turn, .int .i64 more] w fun e w' => e = .returned (.bool true) ∧ Below w.heap.size w w' := by
  obtain ⟨n, rfl⟩ : ∃ n, s0 = mk n := ⟨bl s0, (mk_bl s0).symm⟩
  rw [size_mk] at h0
  have hb := slc_bounds hst
  by_cases hl : 20 < zs.length ∨ (zs.length ≤ 20 ∧ 100 < n.length)
  · exact t1 n ad zs.length cap turn more w h0 (by omega) hl
  have l0 : zs.length ≤ 20 := by omega
  have l1 : n.length ≤ 100 := by omega
  have hv := fun (n : List UInt8) (b : Bool) (h : Nm.valid n = b) => Go.Lib.hid fun (W : World) => (by have k := refValid_any (mk n) W; rw [bl_mk, h] at k; exact k : Calls Tryd.prog 35 #[.string (mk n)] W fun e w' => e = .returned (.bool b) ∧ Below W.heap.size W w')
  cases hvn : Nm.valid n with
  | false => exact t2 n ad zs.length cap turn more w l0 l1 (hv _ _ hvn)
  | true =>
    have hK0 : 0 ≤ more % 50 := by omega
    have hK1 : more % 50 < 50 := by omega
    have ht0 : 0 ≤ turn % ((zs.length : Int) + 1) := Int.emod_nonneg _ (by omega)
    have ht1 : turn % ((zs.length : Int) + 1) < (zs.length : Int) + 1 := Int.emod_lt_of_pos _ (by omega)
    obtain ⟨t, ht⟩ : ∃ t : Nat, turn % ((zs.length : Int) + 1) = (t : Int) := ⟨(turn % ((zs.length : Int) + 1)).toNat, by omega⟩
    have hr1 := Go.Lib.hid fun (W : World) => Round_any more 50 W (by decide) (by decide)
    have hrz := Go.Lib.hid fun (z : Int) (W : World) => Round_any z 50 W (by decide) (by decide)
    have hrt := Go.Lib.hid fun (W : World) => (by have h := Round_any turn ((zs.length : Int) + 1) W (by omega) (by omega); rw [ht] at h; exact h : Calls Tryd.prog 36 #[.int .i64 turn, .int .i64 ((zs.length : Int) + 1)] W fun e w' => e = .returned (.int .i64 (t : Int)) ∧ W = w')
    exact t3 n ad zs.length cap zs turn more (more % 50) t w hst rfl l0 l1 hK0 hK1 (by omega) (Go.Lib.hid h0) (hv _ _ hvn) hr1 hrz hrt (Go.Lib.hid fun z => makeA_ok hvn (by omega) (by omega) (by decide)) (Go.Lib.hid (makeA_ok hvn hK0 (by omega) (by decide)))
      (Go.Lib.hid fun L hL => by rw [hL]; exact sets_ok ⟨hK0, hK1⟩ zs t)

set_option maxRecDepth 100000 in
theorem lifted (os : Os) (started : os.Started) (H : Type) (enc : TypeId × Value → H) :
    ReturnsInHanded {} Tryd.checked os 7 .any (fun w args => (Rows.recordSetsSpec.pre enc Tryd.prog Tryd.f7 [] false w args ∧ laidMetH Tryd.prog laidL w) ∧ sizedMet enc Tryd.prog Tryd.f7 (OpenSpec.ofChange Rows.recordSetsSpec) false w args) (Rows.recordSetsSpec.post enc Tryd.prog Tryd.f7 false true false false) := by
  refine returnsInHanded_of_change_and (C := Tryd.checked) (X := fun w _ => laidMetH Tryd.prog laidL w) (fun _ _ _ hh h => h.of_heap hh) own started (by kernel_rfl) Tryd.func7
    (ChangeSpec.witness_shaped (enc := enc) (C := Tryd.checked) (os := os) (X := fun w _ => laidMetH Tryd.prog laidL w) false (World.doorLaid Tryd.prog 400 os) #[.string ⟨#[]⟩, .slice none 0 0, .int .i64 0, .int .i64 0] 8 rfl (World.shaped_of_RefB (by kernel_rfl) (by kernel_rfl)) (by kernel_rfl) (by kernel_rfl) (by kernel_rfl) (door_met os _)) ?_
  intro W base args ds gs before hval0 hW _ _ hL _
  have hval : ∀ (j : Nat) t v, Tryd.f7.params[j]? = some t → args[j]? = some v → Value.okWide Tryd.prog W .any base t v := hval0
  refine law_post enc 4 (by kernel_rfl) rfl rfl (by kernel_rfl) (fun ds h => match ds, h with | [_, _, _, _], _ => rfl) hW ?_
  obtain ⟨p, q, hA0, hV, rfl, _, _⟩ := hW
  have hA : DataW.TrodAll enc Tryd.prog W 0 (fun _ => true) true Tryd.f7.params.toList args.toList ds p := hA0
  rw [Tryd.params7] at hA hval
  obtain ⟨v0, vs0, d0, ds0, p0, q0, hargs, rfl, rfl, h0, r0⟩ := trodAll_cons hA
  obtain ⟨v1, vs1, d1, ds1, p1, q1, rfl, rfl, rfl, h1, r1⟩ := trodAll_cons r0
  obtain ⟨v2, vs2, d2, ds2, p2, q2, rfl, rfl, rfl, h2, r2⟩ := trodAll_cons r1
  obtain ⟨v3, vs3, d3, ds3, p3, q3, rfl, rfl, rfl, h3, r3⟩ := trodAll_cons r2
  obtain ⟨rfl, rfl, rfl⟩ := trodAll_nil r3
  obtain rfl : args = #[v0, v1, v2, v3] := by cases args; simp_all
  obtain ⟨s0, rfl, rfl, rfl, w0⟩ := open_string Tryd.underlying9 (hval 0 9 v0 rfl rfl) h0
  obtain ⟨a1, z1, c1, rfl, w1, f1⟩ := open_Ints Tryd.underlying48 Tryd.underlying3 (by kernel_rfl) (hval 1 48 v1 rfl rfl) h1
  obtain ⟨a2, rfl, rfl, rfl, w2⟩ := open_int Tryd.underlying3 (hval 2 3 v2 rfl rfl) h2
  obtain ⟨a3, rfl, rfl, rfl, w3⟩ := open_int Tryd.underlying3 (hval 3 3 v3 rfl rfl) h3
  exact walk s0 a1 z1 c1 a2 a3 W w0 w1 f1 (fits_of_wf w2) (fits_of_wf w3)

theorem over : Rows.recordSetsRow.holds Tryd.pinned (OpenSpec.ofChange Rows.recordSetsSpec) :=
  OpenClaim.holds_of_wide 7 Tryd.f7 rfl rfl rfl rfl rfl rfl rfl ⟨rfl, rfl, rfl, rfl, rfl⟩ rfl rfl rfl rfl rfl (by kernel_rfl) Tryd.func7 (by kernel_rfl)
    (of_decide_eq_true (by kernel_rfl)) (by unfold Func.isWrapper; first | (rw [if_pos (by decide +kernel)]; kernel_rfl) | (rw [if_neg (by decide +kernel)]; exact ⟨rfl, rfl⟩))
    (fun os started H enc _ => lifted os started H enc)

/-- the statement: the row, its listed variables tied to the text -/
theorem proved : Rows.RecordSetsCardSaid :=
  Claim7.holds_tied_plain_at .later [] [.data, .data, .data] true _ false
    over (fun _ h => by cases h) (by kernel_rfl) (fun _ h => by cases h) recordSets_row_tie rfl ⟨rfl, rfl⟩ (by kernel_rfl) rfl
    (fun f fn hf hfn => by
      obtain rfl : f = 7 := Option.some.inj ((show Tryd.prog.funcNamed "freshet/freshetlaw3.RecordSets" = some 7 by kernel_rfl).symm.trans hf) |>.symm
      obtain rfl : fn = Tryd.f7 := (Option.some.inj (Tryd.func7.symm.trans hfn)).symm
      exact ⟨by kernel_rfl, fun j t ht => by
        rw [Tryd.params7] at ht
        have hm : t ∈ [9, 48, 3, 3] := by simpa using Array.mem_of_getElem? ht
        have hall : ([9, 48, 3, 3].all fun u => !Tryd.prog.wantsStandIn u) = true := by kernel_rfl
        exact (show Tryd.prog.wantsStandIn t = false by simpa using List.all_eq_true.1 hall t hm)⟩)
    (by kernel_rfl)
#print axioms proved
end Go.Proofs.YthfpijacemkbbaaDoor.recordSets

