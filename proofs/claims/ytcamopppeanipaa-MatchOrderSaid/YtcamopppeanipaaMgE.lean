/- The contract of freshetlaw5.same, at groups that are alike. -/
import Derived.Test.YtcamopppeanipaaMgD
import Derived.Test.YtcamopppeanipaaAlkB
namespace Go.Proofs.Ytcamopppeanipaa
open Go.RowKit Go.Shelf Go.Sq
set_option linter.unusedVariables false

theorem encQ_eq : ∀ ps : List (Gr × Value), encQ ps = encG (ps.map Prod.fst) (ps.map Prod.snd)
  | [] => rfl
  | p :: ps => by
    have e : encQ (p :: ps) = [.string (mk p.1.name), .int .i64 p.1.ty, p.2] ++ encQ ps := rfl
    have e2 : encG ((p :: ps).map Prod.fst) ((p :: ps).map Prod.snd) = [.string (mk p.1.name), .int .i64 p.1.ty, p.2] ++ encG (ps.map Prod.fst) (ps.map Prod.snd) := rfl
    rw [e, e2, encQ_eq ps]
/-- the three cells of a group, and its list -/
theorem GrpV.at {w : World} {a : Option Addr} {m cap : Nat} {gs : List Gr} (h : GrpV w (.slice a m cap) gs) (hn : 0 < gs.length) :
    m = gs.length ∧ ∃ b off, a = some ⟨b, off, none⟩ ∧ b < w.heap.size ∧ ∀ j, j < gs.length → ∃ a' c', w.cell? ⟨b, off + j * 3, none⟩ = some (.string (mk (gs.getD j g0).name)) ∧ w.cell? ⟨b, off + j * 3 + 1, none⟩ = some (.int .i64 (gs.getD j g0).ty) ∧
      w.cell? ⟨b, off + j * 3 + 2, none⟩ = some (.slice a' (gs.getD j g0).l.length c') ∧ RRs w (.slice a' (gs.getD j g0).l.length c') (gs.getD j g0).l := by
  obtain ⟨ps, rfl, hs, hl⟩ := h
  have hlen : (ps.map Prod.fst).length = ps.length := by simp
  obtain ⟨hm, b, off, ha, hlt, hc⟩ := SlC.at hs (by omega)
  refine ⟨by omega, b, off, ha, hlt, fun j hj => ?_⟩
  rw [encQ_eq] at hc
  obtain ⟨e0, e1, e2⟩ := encG_get (ps.map Prod.fst) (ps.map Prod.snd) j (by simp) hj
  have hjp : j < ps.length := by omega
  have hmem : ps[j] ∈ ps := List.getElem_mem hjp
  have hr := hl _ hmem
  obtain ⟨a', c', hv, _, _⟩ := hr.slice
  have hg : (ps.map Prod.fst).getD j g0 = ps[j].1 := by simp [List.getD_eq_getElem?_getD, hjp]
  have hv2 : (ps.map Prod.snd).getD j nilV = ps[j].2 := by simp [List.getD_eq_getElem?_getD, hjp]
  rw [hg] at e0 e1 ⊢
  rw [hv2] at e2
  rw [hv] at e2 hr
  refine ⟨a', c', ?_, ?_, ?_, hr⟩
  · rw [hc (j * 3) (by omega), e0]
  · rw [Nat.add_assoc, hc (j * 3 + 1) (by omega), e1]
  · rw [Nat.add_assoc, hc (j * 3 + 2) (by omega), e2]
theorem GrpV.slice {w : World} {v : Value} {gs : List Gr} (h : GrpV w v gs) : ∃ a c, v = .slice a gs.length c ∧ gs.length ≤ c ∧ c ≤ maxLen := by
  obtain ⟨ps, rfl, hs, _⟩ := h
  obtain ⟨a, c, rfl, h1, h2⟩ := hs.slice
  exact ⟨a, c, by simp, by simpa using h1, h2⟩

set_option maxRecDepth 100000 in
set_option maxHeartbeats 4000000 in
theorem lawSame_same (gs : List Gr) (a1 a2 : Option Addr) (c1 c2 : Nat) (w : World) (hx : GrpV w (.slice a1 gs.length c1) gs) (hy : GrpV w (.slice a2 gs.length c2) gs) :
    Calls Try.prog 20 #[.slice a1 gs.length c1, .slice a2 gs.length c2] w fun e w' => e = .returned (.bool true) ∧ Below w.heap.size w w' := by
  have hc1 : gs.length ≤ maxLen := by
    obtain ⟨a, c, h, h1, h2⟩ := hx.slice
    exact Nat.le_trans h1 h2
  have HB := Go.Lib.hid (Below.refl w.heap.size w)
  generalize hn : gs.length = n at *
  have HX := Go.Lib.hid hx
  have HY := Go.Lib.hid hy
  clear hx hy
  have HN := Go.Lib.hid hn
  clear hn
  unfold maxLen at hc1
  go_enter Try.func20, Try.ntmps20
  go_wp2_with fail
  go_loopw [5] (fun i wr => ∃ k : Nat, i = .int .i64 k ∧ k ≤ n ∧ Below w.heap.size w wr) (fun i _ => n - (intOf i).toNat)
  case atStart => exact ⟨0, rfl, by omega, HB.out⟩
  case round =>
    obtain ⟨k, rfl, hk, hbr⟩ := hrel
    clear HB
    have HB := Go.Lib.hid hbr
    clear hbr
    by_cases hlt : k < n
    · have hst := HX.out.below HB.out (Nat.le_refl _)
      have hsu := HY.out.below HB.out (Nat.le_refl _)
      obtain ⟨hm1, b, off, rfl, hbw, hcell⟩ := GrpV.at hst (by rw [HN.out]; omega)
      obtain ⟨hm2, b', off', rfl, hbw', hcell'⟩ := GrpV.at hsu (by rw [HN.out]; omega)
      clear hm1 hm2
      obtain ⟨la, lc, e0, e1, e2, hr1⟩ := hcell k (by rw [HN.out]; exact hlt)
      obtain ⟨la', lc', f0, f1, f2, hr2⟩ := hcell' k (by rw [HN.out]; exact hlt)
      clear hst hsu hcell hcell'
      generalize gs.getD k g0 = x at *
      obtain ⟨xn, xt, xl⟩ := x
      simp only at e0 e1 e2 f0 f1 f2 hr1 hr2
      have hrr := fun (W : World) (h : Below wr.heap.size wr W) => RRs_same xl la la' lc lc' W (hr1.below h (Nat.le_refl _)) (hr2.below h (Nat.le_refl _))
      generalize xl.length = nl at *
      have E0 := BelowC.cell (W := wr) e0 hbw
      have E1 := BelowC.cell (W := wr) e1 hbw
      have E2 := BelowC.cell (W := wr) e2 hbw
      have F0 := BelowC.cell (W := wr) f0 hbw'
      have F1 := BelowC.cell (W := wr) f1 hbw'
      have F2 := BelowC.cell (W := wr) f2 hbw'
      have hne : Nonempty (Subtype (Below wr.heap.size wr)) := ⟨⟨wr, Below.refl _ _⟩⟩
      have HBC := Go.Lib.hid (show Below wr.heap.size wr wr.drew from (Below.refl wr.heap.size wr).drew)
      have HLT := Go.Lib.hid hlt
      have HRR := Go.Lib.hid hrr
      clear hrr
      clear e0 e1 e2 f0 f1 f2 hr1 hr2
      go_wp2_with fail
      refine Go.Mix.wp_region_mix (Es := [22]) (Below wr.heap.size wr) mixed (by kernel_rfl) (Below.refl _ _).drew (fun _ => ?_)
      iterate 22 (refine Go.Mix.mix_step rfl (fun K hK => ?_); have HKK := Go.Lib.hid hK; clear hK; go_simp; refine HKK.out _ _ ?_; clear HKK K)
      refine Go.Mix.mix_eff rfl (fun K hK => ?_)
      have HKK := Go.Lib.hid hK
      clear hK
      go_simp
      refine (HRR.out _ HBC.out).mono ?_; rintro e wb1 ⟨rfl, hx⟩
      have hb := HBC.out.trans (hx.mono HBC.out.size)
      clear HBC
      have HBC := Go.Lib.hid hb
      clear hx hb
      go_simp
      refine HKK.out _ _ HBC.out ?_
      clear HKK K
      iterate 2 (refine Go.Mix.mix_step rfl (fun K hK => ?_); have HKK := Go.Lib.hid hK; clear hK; go_simp; refine HKK.out _ _ ?_; clear HKK K)
      refine Go.Mix.mix_nil ?_
      have hbn := HB.out.trans (HBC.out.mono HB.out.size)
      have HBN := Go.Lib.hid hbn
      clear hbn
      go_wp2_with fail
      go_roundw
      case rel => exact ⟨k + 1, by go_num, HLT.out, HBN.out⟩
      case measure => have := HLT.out; simp [intOf]; omega
    · obtain rfl : k = n := by omega
      go_wp2_with fail
      go_ret
      exact ⟨rfl, HB.out⟩
end Go.Proofs.Ytcamopppeanipaa

