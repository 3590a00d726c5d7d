/- The contract of record.Same: whether two records are alike. -/
import Derived.Test.YthfpijacemkbbaaDoorRecC
namespace Go.Proofs.YthfpijacemkbbaaDoor
open Go.RowKit Go.Shelf Go.Sq
set_option linter.unusedVariables false

/-- a record as a value, and as cells -/
def rrC (r : Rc.RR) : Array Value := #[.string (mk r.name), .int .i64 r.ty, .int .i64 r.cl, .int .i64 r.ttl, .string (mk r.data)]
abbrev rrV (r : Rc.RR) : Value := .agg #[.string (mk r.name), .int .i64 r.ty, .int .i64 r.cl, .int .i64 r.ttl, .string (mk r.data)]
/-- its texts are texts of a machine -/
def RROk (r : Rc.RR) : Prop := r.name.length ≤ maxLen ∧ r.data.length ≤ maxLen

theorem two_boxes (w : World) (x y : Array Value) (T : TypeId) :
    ((w.alloc (.cells x T)).alloc (.cells y T)).heap[w.heap.size]? = some (.cells x T (0, 0)) ∧ ((w.alloc (.cells x T)).alloc (.cells y T)).heap[w.heap.size + 1]? = some (.cells y T (0, 0)) := by
  constructor
  · exact (Below.heap_alloc _ _ _ (by simp)).trans (World.alloc_heap_new w _)
  · have := World.alloc_heap_new (w.alloc (.cells x T)) (.cells y T)
    rwa [World.size_alloc] at this
theorem cell_of_heap {W : World} {B : Nat} {cs : Array Value} {T : TypeId} (h : W.heap[B]? = some (.cells cs T (0, 0))) (j : Nat) : W.cell? ⟨B, j, none⟩ = cs[j]? := by
  simp [World.cell?, h]

set_option maxRecDepth 100000 in
set_option maxHeartbeats 4000000 in
theorem recSame_any (a b : Rc.RR) (w : World) (ha : RROk a) (hb : RROk b) :
    Calls Tryd.prog 25 #[rrV a, rrV b] w fun e w' => e = .returned (.bool (Rc.sameRR a b)) ∧ Below w.heap.size w w' := by
  obtain ⟨ha1, ha2⟩ := ha
  obtain ⟨hb1, hb2⟩ := hb
  have hn1 := fun w => Fold_any (mk a.name) w (by rw [size_mk]; exact ha1)
  have hn2 := fun w => Fold_any (mk b.name) w (by rw [size_mk]; exact hb1)
  have hd1 := fun w => recFold_any a.ty (mk a.data) w (by rw [size_mk]; exact ha2)
  have hd2 := fun w => recFold_any b.ty (mk b.data) w (by rw [size_mk]; exact hb2)
  rw [bl_mk] at hn1 hn2 hd1 hd2
  have hres : Rc.sameRR a b = ((Nm.foldN a.name == Nm.foldN b.name) && (a.ty == b.ty) && (a.cl == b.cl) && (Rc.foldD a.ty a.data == Rc.foldD b.ty b.data)) := rfl
  obtain ⟨h1, h2⟩ := two_boxes w (rrC a) (rrC b) 23
  have h0 : Below w.heap.size w ((w.alloc (.cells (rrC a) 23)).alloc (.cells (rrC b) 23)) := ((Below.refl _ w).alloc (Nat.le_refl _) _).alloc (by simp) _
  unfold rrC at h1 h2 h0
  obtain ⟨an, aty, acl, attl, ad⟩ := a
  obtain ⟨bn, bty, bcl, bttl, bd⟩ := b
  simp only at *
  generalize Rc.sameRR _ _ = res at *
  have hnn : ((mk (Nm.foldN an)).toList == (mk (Nm.foldN bn)).toList) = (Nm.foldN an == Nm.foldN bn) := eqs _ _
  have hdd : ((mk (Rc.foldD aty ad)).toList == (mk (Rc.foldD bty bd)).toList) = (Rc.foldD aty ad == Rc.foldD bty bd) := eqs _ _
  generalize mk (Nm.foldN an) = fan at *
  generalize mk (Nm.foldN bn) = fbn at *
  generalize mk (Rc.foldD aty ad) = fad at *
  generalize mk (Rc.foldD bty bd) = fbd at *
  generalize (Nm.foldN an == Nm.foldN bn) = q1 at *
  generalize (Rc.foldD aty ad == Rc.foldD bty bd) = q4 at *
  have HRES := Go.Lib.hid hres
  have HN1 := Go.Lib.hid hn1
  have HN2 := Go.Lib.hid hn2
  have HD1 := Go.Lib.hid hd1
  have HD2 := Go.Lib.hid hd2
  have H0 := Go.Lib.hid h0
  clear hres hn1 hn2 hd1 hd2 h0
  clear ha1 ha2 hb1 hb2
  have hg1 := cell_of_heap h1
  have hg2 := cell_of_heap h2
  have hlt1 := (Array.getElem?_eq_some_iff.1 h1).1
  have hlt2 := (Array.getElem?_eq_some_iff.1 h2).1
  have HX1 := Go.Lib.hid h1
  have HX2 := Go.Lib.hid h2
  clear h1 h2
  go_enter Tryd.func25, Tryd.ntmps25
  go_wp2_with fail
  generalize (w.alloc (.cells #[.string (mk an), .int .i64 aty, .int .i64 acl, .int .i64 attl, .string (mk ad)] 23)).alloc (.cells #[.string (mk bn), .int .i64 bty, .int .i64 bcl, .int .i64 bttl, .string (mk bd)] 23) = W at *
  have a0 : ∀ w3 : Subtype (Below W.heap.size W), w3.1.cell? ⟨w.heap.size, 0, none⟩ = some (.string (mk an)) := BelowC.cell (hg1 0) hlt1
  have a1 : ∀ w3 : Subtype (Below W.heap.size W), w3.1.cell? ⟨w.heap.size, 1, none⟩ = some (.int .i64 aty) := BelowC.cell (hg1 1) hlt1
  have a2 : ∀ w3 : Subtype (Below W.heap.size W), w3.1.cell? ⟨w.heap.size, 2, none⟩ = some (.int .i64 acl) := BelowC.cell (hg1 2) hlt1
  have a4 : ∀ w3 : Subtype (Below W.heap.size W), w3.1.cell? ⟨w.heap.size, 4, none⟩ = some (.string (mk ad)) := BelowC.cell (hg1 4) hlt1
  have b0 : ∀ w3 : Subtype (Below W.heap.size W), w3.1.cell? ⟨w.heap.size + 1, 0, none⟩ = some (.string (mk bn)) := BelowC.cell (hg2 0) hlt2
  have b1 : ∀ w3 : Subtype (Below W.heap.size W), w3.1.cell? ⟨w.heap.size + 1, 1, none⟩ = some (.int .i64 bty) := BelowC.cell (hg2 1) hlt2
  have b2 : ∀ w3 : Subtype (Below W.heap.size W), w3.1.cell? ⟨w.heap.size + 1, 2, none⟩ = some (.int .i64 bcl) := BelowC.cell (hg2 2) hlt2
  have b4 : ∀ w3 : Subtype (Below W.heap.size W), w3.1.cell? ⟨w.heap.size + 1, 4, none⟩ = some (.string (mk bd)) := BelowC.cell (hg2 4) hlt2
  have HBC := Go.Lib.hid (show Below W.heap.size W W.drew from (Below.refl W.heap.size W).drew)
  clear hg1 hg2
  cases q1 with
  | false =>
    have hr : res = false := by rw [HRES.out]; rfl
    have HR := Go.Lib.hid hr
    clear hr
    refine Go.Mix.wp_region_mix (Es := [2, 5, 26, 31]) (Below W.heap.size W) mixed (by kernel_rfl) (Below.refl _ _).drew (fun _ => ?_)
    iterate 2 (refine Go.Mix.mix_step rfl (fun K hK => ?_); have HKK := Go.Lib.hid hK; clear hK; go_simp; refine HKK.out _ _ ?_; clear HKK K)
    refine Go.Mix.mix_eff rfl (fun K hK => ?_)
    have HKK := Go.Lib.hid hK
    clear hK
    go_simp
    refine (HN1.out _).mono ?_; rintro e wb1 ⟨rfl, hx⟩
    have hb := HBC.out.trans (hx.mono HBC.out.size)
    clear HBC
    have HBC := Go.Lib.hid hb
    clear hx hb
    go_simp
    refine HKK.out _ _ HBC.out ?_
    clear HKK K
    iterate 2 (refine Go.Mix.mix_step rfl (fun K hK => ?_); have HKK := Go.Lib.hid hK; clear hK; go_simp; refine HKK.out _ _ ?_; clear HKK K)
    refine Go.Mix.mix_eff rfl (fun K hK => ?_)
    have HKK := Go.Lib.hid hK
    clear hK
    go_simp
    refine (HN2.out _).mono ?_; rintro e wb2 ⟨rfl, hx⟩
    have hb := HBC.out.trans (hx.mono HBC.out.size)
    clear HBC
    have HBC := Go.Lib.hid hb
    clear hx hb
    go_simp
    refine HKK.out _ _ HBC.out ?_
    clear HKK K
    iterate 20 (refine Go.Mix.mix_step rfl (fun K hK => ?_); have HKK := Go.Lib.hid hK; clear hK; go_simp; refine HKK.out _ _ ?_; clear HKK K)
    refine Go.Mix.mix_eff rfl (fun K hK => ?_)
    have HKK := Go.Lib.hid hK
    clear hK
    go_simp
    refine HKK.out _ _ HBC.out ?_
    clear HKK K
    iterate 4 (refine Go.Mix.mix_step rfl (fun K hK => ?_); have HKK := Go.Lib.hid hK; clear hK; go_simp; refine HKK.out _ _ ?_; clear HKK K)
    refine Go.Mix.mix_eff rfl (fun K hK => ?_)
    have HKK := Go.Lib.hid hK
    clear hK
    go_simp
    refine HKK.out _ _ HBC.out ?_
    clear HKK K
    iterate 3 (refine Go.Mix.mix_step rfl (fun K hK => ?_); have HKK := Go.Lib.hid hK; clear hK; go_simp; refine HKK.out _ _ ?_; clear HKK K)
    refine Go.Mix.mix_nil ?_
    go_wp2_with fail
    go_ret
    exact ⟨ret_bool HR.out.symm, H0.out.trans (HBC.out.mono H0.out.size)⟩
  | true =>
    by_cases ht : aty = bty
    · subst ht
      have e1 : (aty == aty) = true := beq_self_eq_true _
      by_cases hc : acl = bcl
      · subst hc
        have e2 : (acl == acl) = true := beq_self_eq_true _
        have hr : res = q4 := by rw [HRES.out, e1, e2]; simp
        have HR := Go.Lib.hid hr
        clear hr
        refine Go.Mix.wp_region_mix (Es := [2, 5, 26, 31]) (Below W.heap.size W) mixed (by kernel_rfl) (Below.refl _ _).drew (fun _ => ?_)
        iterate 2 (refine Go.Mix.mix_step rfl (fun K hK => ?_); have HKK := Go.Lib.hid hK; clear hK; go_simp; refine HKK.out _ _ ?_; clear HKK K)
        refine Go.Mix.mix_eff rfl (fun K hK => ?_)
        have HKK := Go.Lib.hid hK
        clear hK
        go_simp
        refine (HN1.out _).mono ?_; rintro e wb3 ⟨rfl, hx⟩
        have hb := HBC.out.trans (hx.mono HBC.out.size)
        clear HBC
        have HBC := Go.Lib.hid hb
        clear hx hb
        go_simp
        refine HKK.out _ _ HBC.out ?_
        clear HKK K
        iterate 2 (refine Go.Mix.mix_step rfl (fun K hK => ?_); have HKK := Go.Lib.hid hK; clear hK; go_simp; refine HKK.out _ _ ?_; clear HKK K)
        refine Go.Mix.mix_eff rfl (fun K hK => ?_)
        have HKK := Go.Lib.hid hK
        clear hK
        go_simp
        refine (HN2.out _).mono ?_; rintro e wb4 ⟨rfl, hx⟩
        have hb := HBC.out.trans (hx.mono HBC.out.size)
        clear HBC
        have HBC := Go.Lib.hid hb
        clear hx hb
        go_simp
        refine HKK.out _ _ HBC.out ?_
        clear HKK K
        iterate 20 (refine Go.Mix.mix_step rfl (fun K hK => ?_); have HKK := Go.Lib.hid hK; clear hK; go_simp; refine HKK.out _ _ ?_; clear HKK K)
        refine Go.Mix.mix_eff rfl (fun K hK => ?_)
        have HKK := Go.Lib.hid hK
        clear hK
        go_simp
        refine (HD1.out _).mono ?_; rintro e wb5 ⟨rfl, hx⟩
        have hb := HBC.out.trans (hx.mono HBC.out.size)
        clear HBC
        have HBC := Go.Lib.hid hb
        clear hx hb
        go_simp
        refine HKK.out _ _ HBC.out ?_
        clear HKK K
        iterate 4 (refine Go.Mix.mix_step rfl (fun K hK => ?_); have HKK := Go.Lib.hid hK; clear hK; go_simp; refine HKK.out _ _ ?_; clear HKK K)
        refine Go.Mix.mix_eff rfl (fun K hK => ?_)
        have HKK := Go.Lib.hid hK
        clear hK
        go_simp
        refine (HD2.out _).mono ?_; rintro e wb6 ⟨rfl, hx⟩
        have hb := HBC.out.trans (hx.mono HBC.out.size)
        clear HBC
        have HBC := Go.Lib.hid hb
        clear hx hb
        go_simp
        refine HKK.out _ _ HBC.out ?_
        clear HKK K
        iterate 3 (refine Go.Mix.mix_step rfl (fun K hK => ?_); have HKK := Go.Lib.hid hK; clear hK; go_simp; refine HKK.out _ _ ?_; clear HKK K)
        refine Go.Mix.mix_nil ?_
        go_wp2_with fail
        go_ret
        exact ⟨ret_bool HR.out.symm, H0.out.trans (HBC.out.mono H0.out.size)⟩
      · have e2 : (acl == bcl) = false := beq_eq_false_iff_ne.2 hc
        have hr : res = false := by rw [HRES.out, e1, e2]; simp
        have HR := Go.Lib.hid hr
        clear hr
        refine Go.Mix.wp_region_mix (Es := [2, 5, 26, 31]) (Below W.heap.size W) mixed (by kernel_rfl) (Below.refl _ _).drew (fun _ => ?_)
        iterate 2 (refine Go.Mix.mix_step rfl (fun K hK => ?_); have HKK := Go.Lib.hid hK; clear hK; go_simp; refine HKK.out _ _ ?_; clear HKK K)
        refine Go.Mix.mix_eff rfl (fun K hK => ?_)
        have HKK := Go.Lib.hid hK
        clear hK
        go_simp
        refine (HN1.out _).mono ?_; rintro e wb7 ⟨rfl, hx⟩
        have hb := HBC.out.trans (hx.mono HBC.out.size)
        clear HBC
        have HBC := Go.Lib.hid hb
        clear hx hb
        go_simp
        refine HKK.out _ _ HBC.out ?_
        clear HKK K
        iterate 2 (refine Go.Mix.mix_step rfl (fun K hK => ?_); have HKK := Go.Lib.hid hK; clear hK; go_simp; refine HKK.out _ _ ?_; clear HKK K)
        refine Go.Mix.mix_eff rfl (fun K hK => ?_)
        have HKK := Go.Lib.hid hK
        clear hK
        go_simp
        refine (HN2.out _).mono ?_; rintro e wb8 ⟨rfl, hx⟩
        have hb := HBC.out.trans (hx.mono HBC.out.size)
        clear HBC
        have HBC := Go.Lib.hid hb
        clear hx hb
        go_simp
        refine HKK.out _ _ HBC.out ?_
        clear HKK K
        iterate 20 (refine Go.Mix.mix_step rfl (fun K hK => ?_); have HKK := Go.Lib.hid hK; clear hK; go_simp; refine HKK.out _ _ ?_; clear HKK K)
        refine Go.Mix.mix_eff rfl (fun K hK => ?_)
        have HKK := Go.Lib.hid hK
        clear hK
        go_simp
        refine HKK.out _ _ HBC.out ?_
        clear HKK K
        iterate 4 (refine Go.Mix.mix_step rfl (fun K hK => ?_); have HKK := Go.Lib.hid hK; clear hK; go_simp; refine HKK.out _ _ ?_; clear HKK K)
        refine Go.Mix.mix_eff rfl (fun K hK => ?_)
        have HKK := Go.Lib.hid hK
        clear hK
        go_simp
        refine HKK.out _ _ HBC.out ?_
        clear HKK K
        iterate 3 (refine Go.Mix.mix_step rfl (fun K hK => ?_); have HKK := Go.Lib.hid hK; clear hK; go_simp; refine HKK.out _ _ ?_; clear HKK K)
        refine Go.Mix.mix_nil ?_
        go_wp2_with fail
        go_ret
        exact ⟨ret_bool HR.out.symm, H0.out.trans (HBC.out.mono H0.out.size)⟩
    · have e1 : (aty == bty) = false := beq_eq_false_iff_ne.2 ht
      have hr : res = false := by rw [HRES.out, e1]; simp
      have HR := Go.Lib.hid hr
      clear hr
      refine Go.Mix.wp_region_mix (Es := [2, 5, 26, 31]) (Below W.heap.size W) mixed (by kernel_rfl) (Below.refl _ _).drew (fun _ => ?_)
      iterate 2 (refine Go.Mix.mix_step rfl (fun K hK => ?_); have HKK := Go.Lib.hid hK; clear hK; go_simp; refine HKK.out _ _ ?_; clear HKK K)
      refine Go.Mix.mix_eff rfl (fun K hK => ?_)
      have HKK := Go.Lib.hid hK
      clear hK
      go_simp
      refine (HN1.out _).mono ?_; rintro e wb9 ⟨rfl, hx⟩
      have hb := HBC.out.trans (hx.mono HBC.out.size)
      clear HBC
      have HBC := Go.Lib.hid hb
      clear hx hb
      go_simp
      refine HKK.out _ _ HBC.out ?_
      clear HKK K
      iterate 2 (refine Go.Mix.mix_step rfl (fun K hK => ?_); have HKK := Go.Lib.hid hK; clear hK; go_simp; refine HKK.out _ _ ?_; clear HKK K)
      refine Go.Mix.mix_eff rfl (fun K hK => ?_)
      have HKK := Go.Lib.hid hK
      clear hK
      go_simp
      refine (HN2.out _).mono ?_; rintro e wb10 ⟨rfl, hx⟩
      have hb := HBC.out.trans (hx.mono HBC.out.size)
      clear HBC
      have HBC := Go.Lib.hid hb
      clear hx hb
      go_simp
      refine HKK.out _ _ HBC.out ?_
      clear HKK K
      iterate 20 (refine Go.Mix.mix_step rfl (fun K hK => ?_); have HKK := Go.Lib.hid hK; clear hK; go_simp; refine HKK.out _ _ ?_; clear HKK K)
      refine Go.Mix.mix_eff rfl (fun K hK => ?_)
      have HKK := Go.Lib.hid hK
      clear hK
      go_simp
      refine HKK.out _ _ HBC.out ?_
      clear HKK K
      iterate 4 (refine Go.Mix.mix_step rfl (fun K hK => ?_); have HKK := Go.Lib.hid hK; clear hK; go_simp; refine HKK.out _ _ ?_; clear HKK K)
      refine Go.Mix.mix_eff rfl (fun K hK => ?_)
      have HKK := Go.Lib.hid hK
      clear hK
      go_simp
      refine HKK.out _ _ HBC.out ?_
      clear HKK K
      iterate 3 (refine Go.Mix.mix_step rfl (fun K hK => ?_); have HKK := Go.Lib.hid hK; clear hK; go_simp; refine HKK.out _ _ ?_; clear HKK K)
      refine Go.Mix.mix_nil ?_
      go_wp2_with fail
      go_ret
      exact ⟨ret_bool HR.out.symm, H0.out.trans (HBC.out.mono H0.out.size)⟩
end Go.Proofs.YthfpijacemkbbaaDoor

