/- The contracts of the reference's CheckRR, word, made, MakeA, MakeName, MakeSOA. -/
import Derived.Test.YthfpijacemkbbaaDoorRpA
import Derived.Test.YthfpijacemkbbaaDoorRqN
namespace Go.Proofs.YthfpijacemkbbaaDoor
open Go.RowKit
set_option linter.unusedVariables false

set_option maxRecDepth 100000 in
set_option maxHeartbeats 8000000 in
theorem refCheck_any (r : Rc.RR) (w : World) (hr : RROk r) : Calls Tryd.prog 14 #[rrV r] w fun e w' => e = .returned (.bool (checkB r)) ∧ Below w.heap.size w w' := by
  obtain ⟨rn, ty, cl, tl, rd⟩ := r
  obtain ⟨h1, h2⟩ := hr
  simp only at h1 h2
  simp only [rrV]
  have hp := fun W => Parts_any ty (mk rd) W
  have hv := fun W => refValid_any (mk rn) W
  rw [bl_mk] at hp hv
  have hH := World.alloc_heap_new w (.cells (rrC ⟨rn, ty, cl, tl, rd⟩) 23)
  have h0 : Below w.heap.size w (w.alloc (.cells (rrC ⟨rn, ty, cl, tl, rd⟩) 23)) := (Below.refl _ w).alloc (Nat.le_refl _) _
  have hck : checkB ⟨rn, ty, cl, tl, rd⟩ = (Nm.valid rn && decide (1 ≤ ty ∧ ty ≤ 65535) && (ty != 41) && decide (0 ≤ cl ∧ cl ≤ 65535) && decide (0 ≤ tl ∧ tl ≤ 2147483647) && Rc.dataB ty rd) := rfl
  have hpd := Rc.partsN_isSome ty rd
  generalize Rc.partsN ty rd = ps at *
  generalize Rc.dataB ty rd = db at *
  generalize Nm.valid rn = vb at *
  generalize checkB ⟨rn, ty, cl, tl, rd⟩ = res at *
  rw [← hpd] at hck
  have HP := Go.Lib.hid hp
  have HV := Go.Lib.hid hv
  have HH := Go.Lib.hid hH
  have H0 := Go.Lib.hid h0
  have HCK := Go.Lib.hid hck
  clear hp hv hH h0 hck
  clear hpd
  have key : ps.isSome = false ∨ (ps.isSome = true ∧ vb = false) ∨ (ps.isSome = true ∧ vb = true) := by cases ps.isSome <;> cases vb <;> simp
  rcases key with k1 | ⟨k1, k2⟩ | ⟨k1, k2⟩
  · have hres : Hid (res = false) := Go.Lib.hid (by rw [HCK.out, k1]; simp)
    clear HCK
    go_enter Tryd.func14, Tryd.ntmps14
    go_wp2_with fail
    change Calls _ _ _ (w.alloc (.cells (rrC ⟨rn, ty, cl, tl, rd⟩) 23)) _
    generalize w.alloc (.cells (rrC ⟨rn, ty, cl, tl, rd⟩) 23) = X at *
    refine (HP.out _).mono ?_; rintro e X1 ⟨v, rfl, _, hx⟩
    rw [k1]
    have HX := Go.Lib.hid hx
    clear hx
    go_wp2_with fail
    go_ret
    exact ⟨ret_bool hres.out.symm, H0.out.trans (HX.out.mono H0.out.size)⟩
  · have hres : Hid (res = false) := Go.Lib.hid (by rw [HCK.out, k2]; simp)
    clear HCK
    go_enter Tryd.func14, Tryd.ntmps14
    go_wp2_with fail
    change Calls _ _ _ (w.alloc (.cells (rrC ⟨rn, ty, cl, tl, rd⟩) 23)) _
    generalize w.alloc (.cells (rrC ⟨rn, ty, cl, tl, rd⟩) 23) = X at *
    obtain ⟨c0, c1, c2, c3, c4⟩ := rr_cells HH.out
    refine (HP.out _).mono ?_; rintro e X1 ⟨v, rfl, _, hx⟩
    rw [k1]
    go_wp2_with fail
    refine (HV.out _).mono ?_; rintro e X2 ⟨rfl, hx2⟩
    rw [k2]
    have hb := H0.out.trans ((hx.trans (hx2.mono hx.size)).mono H0.out.size)
    have HB := Go.Lib.hid hb
    clear hb
    clear hx hx2
    go_wp2_with fail
    go_ret
    exact ⟨ret_bool hres.out.symm, HB.out⟩
  · have key : (ty < 1) ∨ (1 ≤ ty ∧ 65535 < ty) ∨ (1 ≤ ty ∧ ty ≤ 65535 ∧ (ty != 41) = false ∧ ty = 41) ∨ (1 ≤ ty ∧ ty ≤ 65535 ∧ (ty != 41) = true ∧ cl < 0) ∨ (1 ≤ ty ∧ ty ≤ 65535 ∧ (ty != 41) = true ∧ 0 ≤ cl ∧ 65535 < cl) ∨
        (1 ≤ ty ∧ ty ≤ 65535 ∧ (ty != 41) = true ∧ 0 ≤ cl ∧ cl ≤ 65535 ∧ tl < 0) ∨ (1 ≤ ty ∧ ty ≤ 65535 ∧ (ty != 41) = true ∧ 0 ≤ cl ∧ cl ≤ 65535 ∧ 0 ≤ tl ∧ 2147483648 ≤ tl) ∨ (1 ≤ ty ∧ ty ≤ 65535 ∧ (ty != 41) = true ∧ 0 ≤ cl ∧ cl ≤ 65535 ∧ 0 ≤ tl ∧ tl < 2147483648) := by
      by_cases h41 : ty = 41
      · have : (ty != 41) = false := by simp [h41]
        rw [this]; simp; omega
      · have : (ty != 41) = true := by simp [h41]
        rw [this]; simp; omega
    rcases key with p1 | ⟨p1, p2⟩ | ⟨p1, p2, p3, p3'⟩ | ⟨p1, p2, p3, p4⟩ | ⟨p1, p2, p3, p4, p5⟩ | ⟨p1, p2, p3, p4, p5, p6⟩ | ⟨p1, p2, p3, p4, p5, p6, p7⟩ | ⟨p1, p2, p3, p4, p5, p6, p7⟩
    case inr.inr.inr.inr.inr.inr.inr =>
      have hres : Hid (res = true) := Go.Lib.hid (by rw [HCK.out, k1, k2, p3]; simp; omega)
      clear HCK
      go_enter Tryd.func14, Tryd.ntmps14
      go_wp2_with fail
      change Calls _ _ _ (w.alloc (.cells (rrC ⟨rn, ty, cl, tl, rd⟩) 23)) _
      generalize w.alloc (.cells (rrC ⟨rn, ty, cl, tl, rd⟩) 23) = X at *
      obtain ⟨c0, c1, c2, c3, c4⟩ := rr_cells HH.out
      refine (HP.out _).mono ?_; rintro e X1 ⟨v, rfl, _, hx⟩
      rw [k1]
      go_wp2_with fail
      refine (HV.out _).mono ?_; rintro e X2 ⟨rfl, hx2⟩
      rw [k2]
      have hx3 := hx.trans (hx2.mono hx.size)
      have hb := H0.out.trans (hx3.mono H0.out.size)
      have HB := Go.Lib.hid hb
      clear hb
      clear hx hx2
      go_wp2_with fail
      go_ret
      exact ⟨ret_bool (by have h := hres.out; first | (rw [h]; done) | (simp [h]; done) | (simp [h]; omega)), HB.out⟩
    all_goals
      have hres : Hid (res = false) := Go.Lib.hid (by rw [HCK.out, k1, k2]; simp; omega)
      try clear p3'
      clear HCK
      go_enter Tryd.func14, Tryd.ntmps14
      go_wp2_with fail
      change Calls _ _ _ (w.alloc (.cells (rrC ⟨rn, ty, cl, tl, rd⟩) 23)) _
      generalize w.alloc (.cells (rrC ⟨rn, ty, cl, tl, rd⟩) 23) = X at *
      obtain ⟨c0, c1, c2, c3, c4⟩ := rr_cells HH.out
      refine (HP.out _).mono ?_; rintro e X1 ⟨v, rfl, _, hx⟩
      rw [k1]
      go_wp2_with fail
      refine (HV.out _).mono ?_; rintro e X2 ⟨rfl, hx2⟩
      rw [k2]
      have hx3 := hx.trans (hx2.mono hx.size)
      have HB := Go.Lib.hid (H0.out.trans (hx3.mono H0.out.size))
      clear hx hx2
      go_wp2_with fail
      go_ret
      exact ⟨ret_bool (by have h := hres.out; first | (rw [h]; done) | (simp [h]; done) | (simp [h]; omega)), HB.out⟩
theorem word_any (n : Int) (w : World) : Calls Tryd.prog 58 #[.int .i64 n] w fun e w' => e = .returned (.bool (decide (0 ≤ n ∧ n ≤ 4294967295))) ∧ w = w' := by
  by_cases h1 : 0 ≤ n
  · by_cases h2 : n < 4294967296
    · have hr : Hid (decide (0 ≤ n ∧ n ≤ 4294967295) = true) := Go.Lib.hid (decide_eq_true ⟨h1, by omega⟩)
      go_enter Tryd.func58, Tryd.ntmps58
      go_wp2_with fail
      go_ret
      exact ⟨ret_bool (by have h := hr.out; first | (rw [h]; done) | (simp; done) | (simp; omega)), rfl⟩
    · have hr : Hid (decide (0 ≤ n ∧ n ≤ 4294967295) = false) := Go.Lib.hid (decide_eq_false fun h => by omega)
      go_enter Tryd.func58, Tryd.ntmps58
      go_wp2_with fail
      go_ret
      exact ⟨ret_bool (by have h := hr.out; first | (rw [h]; done) | (simp; done) | (simp; omega)), rfl⟩
  · have hr : Hid (decide (0 ≤ n ∧ n ≤ 4294967295) = false) := Go.Lib.hid (decide_eq_false fun h => h1 h.1)
    go_enter Tryd.func58, Tryd.ntmps58
    go_wp2_with fail
    go_ret
    exact ⟨ret_bool (by have h := hr.out; first | (rw [h]; done) | (simp; done) | (simp; omega)), rfl⟩
def madeM (r : Rc.RR) (more : Bool) : Rc.RR := if more && checkB r then r else rZ
set_option maxRecDepth 100000 in
set_option maxHeartbeats 8000000 in
theorem refMade_any (r : Rc.RR) (more : Bool) (w : World) (hr : RROk r) : Calls Tryd.prog 56 #[rrV r, .bool more] w fun e w' => e = .returned (rrV (madeM r more)) ∧ Below w.heap.size w w' := by
  have hc := fun W => refCheck_any r W hr
  have hm : madeM r more = if more && checkB r then r else rZ := rfl
  obtain ⟨hR, hZ⟩ := two_boxes w (rrC r) (rrC rZ) 23
  have hb0 : Below w.heap.size w ((w.alloc (.cells (rrC r) 23)).alloc (.cells (rrC rZ) 23)) := ((Below.refl _ w).alloc (Nat.le_refl _) _).alloc (by simp) _
  have hone1 := one_rrC rZ
  have hone2 := one_rrC r
  generalize checkB r = cb at *
  obtain ⟨n, t, c, l, d⟩ := r
  have hck := rr_cells hR
  generalize hres : madeM ⟨n, t, c, l, d⟩ more = res at *
  simp only [rrV] at hc ⊢
  have HC := Go.Lib.hid hc
  have HM := Go.Lib.hid hm
  have HRES := Go.Lib.hid hres
  clear hc hm hres
  cases more with
  | false =>
    have hr : Hid (res = rZ) := Go.Lib.hid (by rw [HM.out]; rfl)
    clear HRES HM hck hR HC
    have HZ := Go.Lib.hid hZ
    have HB0 := Go.Lib.hid hb0
    have HONE1 := Go.Lib.hid hone1
    clear hZ hb0 hone1
    go_enter Tryd.func56, Tryd.ntmps56
    go_wp2_with (refine wpList_store_row rfl 23 (.tmp 4) (.tmp 12) rfl (w.heap.size + 1) (rrC rZ) rfl rfl _ _ HZ.out infoR5 rfl HONE1.out ?_)
    refine ret_rr (r := rZ) rfl rfl rfl (setRow_heap _ (w.heap.size + 1) _ (rrC rZ) _ _ HZ.out) ⟨by rw [hr.out], below_setRow HB0.out (by omega) _⟩
  | true =>
    obtain ⟨c0, c1, c2, c3, c4⟩ := hck
    have hrx := Below.refl ((w.alloc (.cells (rrC ⟨n, t, c, l, d⟩) 23)).alloc (.cells (rrC rZ) 23)).heap.size ((w.alloc (.cells (rrC ⟨n, t, c, l, d⟩) 23)).alloc (.cells (rrC rZ) 23))
    have d0 := c0 _ hrx
    have d1 := c1 _ hrx
    have d2 := c2 _ hrx
    have d3 := c3 _ hrx
    have d4 := c4 _ hrx
    have HZ := Go.Lib.hid hZ
    have HB0 := Go.Lib.hid hb0
    have HONE1 := Go.Lib.hid hone1
    have HONE2 := Go.Lib.hid hone2
    clear hZ hb0 hone1 hone2
    clear hrx hR
    cases cb with
    | false =>
      have hr : Hid (res = rZ) := Go.Lib.hid (by rw [HM.out]; rfl)
      clear HRES HM
      go_enter Tryd.func56, Tryd.ntmps56
      go_wp2_with fail
      clear d0 d1 d2 d3 d4
      change Calls _ _ _ ((w.alloc (.cells (rrC ⟨n, t, c, l, d⟩) 23)).alloc (.cells (rrC rZ) 23)) _
      generalize (w.alloc (.cells (rrC ⟨n, t, c, l, d⟩) 23)).alloc (.cells (rrC rZ) 23) = X at *
      refine (HC.out _).mono ?_; rintro e X1 ⟨rfl, hx⟩
      have hZ1 := heap_later (B := 0) HZ.out hx
      have hb1 := HB0.out.trans (hx.mono HB0.out.size)
      have HZ1 := Go.Lib.hid hZ1
      have HB1 := Go.Lib.hid hb1
      clear hZ1 hb1
      go_wp2_with (refine wpList_store_row rfl 23 (.tmp 4) (.tmp 12) rfl (w.heap.size + 1) (rrC rZ) rfl rfl _ _ HZ1.out infoR5 rfl HONE1.out ?_)
      refine ret_rr (r := rZ) rfl rfl rfl (setRow_heap _ (w.heap.size + 1) _ (rrC rZ) _ _ HZ1.out) ⟨by rw [hr.out], below_setRow HB1.out (by omega) _⟩
    | true =>
      have hr : Hid (res = ⟨n, t, c, l, d⟩) := Go.Lib.hid (by rw [HM.out]; rfl)
      clear HRES HM
      go_enter Tryd.func56, Tryd.ntmps56
      go_wp2_with fail
      clear d0 d1 d2 d3 d4
      change Calls _ _ _ ((w.alloc (.cells (rrC ⟨n, t, c, l, d⟩) 23)).alloc (.cells (rrC rZ) 23)) _
      generalize (w.alloc (.cells (rrC ⟨n, t, c, l, d⟩) 23)).alloc (.cells (rrC rZ) 23) = X at *
      refine (HC.out _).mono ?_; rintro e X1 ⟨rfl, hx⟩
      have hZ1 := heap_later (B := 0) HZ.out hx
      have hb1 := HB0.out.trans (hx.mono HB0.out.size)
      have HZ1 := Go.Lib.hid hZ1
      have HB1 := Go.Lib.hid hb1
      clear hZ1 hb1
      go_wp2_with (refine wpList_store_row rfl 23 (.tmp 4) (.tmp 13) rfl (w.heap.size + 1) (rrC ⟨n, t, c, l, d⟩) rfl rfl _ _ HZ1.out infoR5 rfl HONE2.out ?_)
      refine ret_rr (r := ⟨n, t, c, l, d⟩) rfl rfl rfl (setRow_heap _ (w.heap.size + 1) _ (rrC ⟨n, t, c, l, d⟩) _ _ HZ1.out) ⟨by rw [hr.out], below_setRow HB1.out (by omega) _⟩
end Go.Proofs.YthfpijacemkbbaaDoor

