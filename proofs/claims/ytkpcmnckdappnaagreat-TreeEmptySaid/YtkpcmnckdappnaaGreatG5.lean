/- Merged texts of the seat, in their order: TrI, Opn, OrdR, MgB, Msg, OrdC, OrdD. -/
import Derived.Test.YtkpcmnckdappnaaGreatG1
import Derived.Test.YtkpcmnckdappnaaGreatG3
import Derived.Test.YtkpcmnckdappnaaGreatG4
import Derived.Deep.Slices
import Derived.Deep.Fields
import Derived.Laws.Rows
import Derived.Laws.Tables
import Derived.Laws.CopyOwn
/- Tree: the contract of may. -/
namespace Go.Proofs.YtkpcmnckdappnaaGreat
open Go.RowKit Go.Sort Go.Lib
set_option maxRecDepth 100000
set_option linter.unusedVariables false
set_option linter.unusedSimpArgs false

theorem heap_later {w w' : World} {g : Nat} {o : Obj} (hb : Below w.heap.size w w') (h : w.heap[g]? = some o) : w'.heap[g]? = some o := (hb.block _ (Array.getElem?_eq_some_iff.1 h).1).trans h
set_option maxHeartbeats 8000000 in
/-- is a record bad in a zone? The zone lies in a box of its own, and so does the pointer at the tree. -/
theorem may1_any (tb zb tp : Nat) (T : List Zn) (z : Zn) (r : Rc.RR) (w : World) (ht : TRo tb T w) (hnm : z.nm.length ≤ maxLen) (hr : RROk r) (hzb : w.cell? ⟨zb, 0, none⟩ = some (.string (mk z.nm))) (hzl : zb < w.heap.size) (htp : w.cell? ⟨tp, 0, none⟩ = some (.pointer (some ⟨tb, 0, none⟩))) (htl : tp < w.heap.size) :
    Calls Tryz.prog 63 #[rrV r, .pointer (some ⟨zb, 0, none⟩), .pointer (some ⟨tp, 0, none⟩)] w fun e w' => e = .returned (.bool (badP (T.map Zn.p) z.p r)) ∧ Below w.heap.size w w' := by
  have hdef : badP (T.map Zn.p) z.p r = (!checkB r || (!decide (r.cl = 1) || (decide (r.ty = 2) || (decide (r.ty = 6) || (!Nm.underN r.name z.nm || (belowP (T.map Zn.p) z.nm r.name).isSome))))) := rfl
  have hck := fun W => Check_any r W hr
  obtain ⟨Y, hY⟩ : ∃ Y, w.alloc (.cells #[.string (mk r.name), .int .i64 r.ty, .int .i64 r.cl, .int .i64 r.ttl, .string (mk r.data)] 43) = Y := ⟨_, rfl⟩
  have gY : Y.heap[w.heap.size]? = some (.cells #[.string (mk r.name), .int .i64 r.ty, .int .i64 r.cl, .int .i64 r.ttl, .string (mk r.data)] 43 (0, 0)) := by rw [← hY]; exact World.alloc_heap_new _ _
  have hbY : Below w.heap.size w Y := by rw [← hY]; exact (Below.refl _ w).alloc (Nat.le_refl _) _
  have hrn := hr.1
  have htY := fun W (h : Below Y.heap.size Y W) => ht.below (hbY.trans (h.mono hbY.size))
  have hun := fun W => underM r.name z.nm W hrn hnm
  have hbl := fun W (h : Below Y.heap.size Y W) => below_any tb T z.nm r.name W (htY W h) hnm hrn
  generalize badP (T.map Zn.p) z.p r = R at *
  generalize checkB r = b1 at *
  generalize belowP (T.map Zn.p) z.nm r.name = o at *
  obtain ⟨rn, ty, cl, tl, rd⟩ := r
  simp only at hdef hun hbl hY gY
  generalize z.nm = zn at *
  generalize Nm.underN rn zn = u at *
  have z0 := (hbY.cell (p := ⟨zb, 0, none⟩) hzl).trans hzb
  have t0 := (hbY.cell (p := ⟨tp, 0, none⟩) htl).trans htp
  have k0 : Y.cell? ⟨w.heap.size, 0, none⟩ = some (.string (mk rn)) := row_cell gY 0 _ rfl
  have k1 : Y.cell? ⟨w.heap.size, 1, none⟩ = some (.int .i64 ty) := row_cell gY 1 _ rfl
  have k2 : Y.cell? ⟨w.heap.size, 2, none⟩ = some (.int .i64 cl) := row_cell gY 2 _ rfl
  have k3 : Y.cell? ⟨w.heap.size, 3, none⟩ = some (.int .i64 tl) := row_cell gY 3 _ rfl
  have k4 : Y.cell? ⟨w.heap.size, 4, none⟩ = some (.string (mk rd)) := row_cell gY 4 _ rfl
  have hlY := (Array.getElem?_eq_some_iff.1 gY).1
  have hlZ := Nat.lt_of_lt_of_le hzl hbY.size
  have hlT := Nat.lt_of_lt_of_le htl hbY.size
  clear ht hr hzb htp htY gY
  simp only [rrV] at hck ⊢
  have HBY := Go.Lib.hid hbY
  have HCK := Go.Lib.hid hck
  have HUN := Go.Lib.hid hun
  have HBL := Go.Lib.hid hbl
  have HDEF := Go.Lib.hid hdef
  clear hbY hck hun hbl hdef
  cases b1 with
  | false =>
    have HFIN : Hid (R = true) := Go.Lib.hid (by rw [HDEF.out]; rfl)
    go_enter Tryz.func63, Tryz.ntmps63
    go_wp2_with fail
    refine (HCK.out _).mono ?_; rintro e W1 ⟨rfl, hx⟩
    have HX1 := Go.Lib.hid hx
    clear hx
    go_wp2_with fail
    go_ret
    exact ⟨ret_bool HFIN.out.symm, HBY.out.trans (HX1.out.mono HBY.out.size)⟩
  | true =>
  by_cases h1 : cl = 1
  · subst h1
    by_cases h2 : ty = 2
    · subst h2
      have HFIN : Hid (R = true) := Go.Lib.hid (by rw [HDEF.out]; simp)
      go_enter Tryz.func63, Tryz.ntmps63
      go_wp2_with fail
      refine (HCK.out _).mono ?_; rintro e W1 ⟨rfl, hx⟩
      have HX1 := Go.Lib.hid hx
      have m0 := (hx.cell (p := ⟨w.heap.size, 0, none⟩) hlY).trans k0
      have m1 := (hx.cell (p := ⟨w.heap.size, 1, none⟩) hlY).trans k1
      have m2 := (hx.cell (p := ⟨w.heap.size, 2, none⟩) hlY).trans k2
      have n0 := (hx.cell (p := ⟨zb, 0, none⟩) hlZ).trans z0
      have n1 := (hx.cell (p := ⟨tp, 0, none⟩) hlT).trans t0
      clear hx
      go_wp2_with fail
      go_ret
      exact ⟨ret_bool HFIN.out.symm, HBY.out.trans (HX1.out.mono HBY.out.size)⟩
    · by_cases h3 : ty = 6
      · subst h3
        clear h2
        have HFIN : Hid (R = true) := Go.Lib.hid (by rw [HDEF.out]; simp)
        go_enter Tryz.func63, Tryz.ntmps63
        go_wp2_with fail
        refine (HCK.out _).mono ?_; rintro e W1 ⟨rfl, hx⟩
        have HX1 := Go.Lib.hid hx
        have m0 := (hx.cell (p := ⟨w.heap.size, 0, none⟩) hlY).trans k0
        have m1 := (hx.cell (p := ⟨w.heap.size, 1, none⟩) hlY).trans k1
        have m2 := (hx.cell (p := ⟨w.heap.size, 2, none⟩) hlY).trans k2
        have n0 := (hx.cell (p := ⟨zb, 0, none⟩) hlZ).trans z0
        have n1 := (hx.cell (p := ⟨tp, 0, none⟩) hlT).trans t0
        clear hx
        go_wp2_with fail
        go_ret
        exact ⟨ret_bool HFIN.out.symm, HBY.out.trans (HX1.out.mono HBY.out.size)⟩
      · have q1 : (ty == 2) = false := beq_eq_false_iff_ne.2 h2
        have q2 : (ty == 6) = false := beq_eq_false_iff_ne.2 h3
        cases u with
        | false =>
          have HFIN : Hid (R = true) := Go.Lib.hid (by rw [HDEF.out]; simp)
          clear h2 h3
          go_enter Tryz.func63, Tryz.ntmps63
          go_wp2_with fail
          refine (HCK.out _).mono ?_; rintro e W1 ⟨rfl, hx⟩
          have HX1 := Go.Lib.hid hx
          have m0 := (hx.cell (p := ⟨w.heap.size, 0, none⟩) hlY).trans k0
          have m1 := (hx.cell (p := ⟨w.heap.size, 1, none⟩) hlY).trans k1
          have m2 := (hx.cell (p := ⟨w.heap.size, 2, none⟩) hlY).trans k2
          have n0 := (hx.cell (p := ⟨zb, 0, none⟩) hlZ).trans z0
          have n1 := (hx.cell (p := ⟨tp, 0, none⟩) hlT).trans t0
          clear hx
          go_wp2_with fail
          refine (HUN.out _).mono ?_; rintro e W2 ⟨rfl, hx⟩
          have HX2 := Go.Lib.hid (HX1.out.trans (hx.mono HX1.out.size))
          clear hx
          go_wp2_with fail
          go_ret
          exact ⟨ret_bool HFIN.out.symm, HBY.out.trans (HX2.out.mono HBY.out.size)⟩
        | true =>
          have HFIN : Hid (R = o.isSome) := Go.Lib.hid (by rw [HDEF.out]; simp [h2, h3])
          clear h2 h3
          go_enter Tryz.func63, Tryz.ntmps63
          go_wp2_with fail
          refine (HCK.out _).mono ?_; rintro e W1 ⟨rfl, hx⟩
          have HX1 := Go.Lib.hid hx
          have m0 := (hx.cell (p := ⟨w.heap.size, 0, none⟩) hlY).trans k0
          have m1 := (hx.cell (p := ⟨w.heap.size, 1, none⟩) hlY).trans k1
          have m2 := (hx.cell (p := ⟨w.heap.size, 2, none⟩) hlY).trans k2
          have n0 := (hx.cell (p := ⟨zb, 0, none⟩) hlZ).trans z0
          have n1 := (hx.cell (p := ⟨tp, 0, none⟩) hlT).trans t0
          clear hx
          go_wp2_with fail
          refine (HUN.out _).mono ?_; rintro e W2 ⟨rfl, hx⟩
          have HX2 := Go.Lib.hid (HX1.out.trans (hx.mono HX1.out.size))
          clear m0 m1 m2 n0 n1
          have hx := HX2.out
          have m0 := (hx.cell (p := ⟨w.heap.size, 0, none⟩) hlY).trans k0
          have m1 := (hx.cell (p := ⟨w.heap.size, 1, none⟩) hlY).trans k1
          have m2 := (hx.cell (p := ⟨w.heap.size, 2, none⟩) hlY).trans k2
          have n0 := (hx.cell (p := ⟨zb, 0, none⟩) hlZ).trans z0
          have n1 := (hx.cell (p := ⟨tp, 0, none⟩) hlT).trans t0
          clear hx
          go_wp2_with fail
          refine (HBL.out _ HX2.out).mono ?_; rintro e W3 ⟨v, rfl, hpz, hx⟩
          have HX3 := Go.Lib.hid (HX2.out.trans (hx.mono HX2.out.size))
          clear hx
          cases o with
          | none =>
            have hv : _ = Value.pointer none := hpz
            clear hpz
            subst hv
            go_wp2_with fail
            go_ret
            exact ⟨ret_bool HFIN.out.symm, HBY.out.trans (HX3.out.mono HBY.out.size)⟩
          | some y =>
            obtain ⟨yn, b2, o2, rfl, rfl, hyp, hyo⟩ := hpz
            clear hyp hyo
            go_wp2_with fail
            go_ret
            exact ⟨ret_bool HFIN.out.symm, HBY.out.trans (HX3.out.mono HBY.out.size)⟩
  · have HFIN : Hid (R = true) := Go.Lib.hid (by rw [HDEF.out]; simp [h1])
    have q1 : (cl == 1) = false := beq_eq_false_iff_ne.2 h1
    have q2 : (cl != 1) = true := bne_iff_ne.2 h1
    go_enter Tryz.func63, Tryz.ntmps63
    go_wp2_with fail
    refine (HCK.out _).mono ?_; rintro e W1 ⟨rfl, hx⟩
    have HX1 := Go.Lib.hid hx
    have m0 := (hx.cell (p := ⟨w.heap.size, 0, none⟩) hlY).trans k0
    have m1 := (hx.cell (p := ⟨w.heap.size, 1, none⟩) hlY).trans k1
    have m2 := (hx.cell (p := ⟨w.heap.size, 2, none⟩) hlY).trans k2
    have n0 := (hx.cell (p := ⟨zb, 0, none⟩) hlZ).trans z0
    have n1 := (hx.cell (p := ⟨tp, 0, none⟩) hlT).trans t0
    clear hx
    go_wp2_with fail
    go_ret
    exact ⟨ret_bool HFIN.out.symm, HBY.out.trans (HX1.out.mono HBY.out.size)⟩
set_option maxHeartbeats 8000000 in
theorem may_any (tb : Nat) (T : List Zn) (z : Zn) (w : World) (ht : TRo tb T w) (hz : ZnAt w z) (hzo : ZnOk z) :
    Calls Tryz.prog 31 #[.pointer (some ⟨tb, 0, none⟩), znV z] w fun e w' => e = .returned (.bool (mayP (T.map Zn.p) z.p)) ∧ Below w.heap.size w w' := by
  have hdef : mayP (T.map Zn.p) z.p = (decide (z.rs.length ≤ 100) && (srvP z.sv && (aliP z.p && !z.rs.any (badP (T.map Zn.p) z.p)))) := rfl
  have hnm := hzo.nmM
  obtain ⟨X, hX⟩ : ∃ X, w.alloc (.cells #[.pointer (some ⟨tb, 0, none⟩)] 22) = X := ⟨_, rfl⟩
  have gX : X.heap[w.heap.size]? = some (.cells #[.pointer (some ⟨tb, 0, none⟩)] 22 (0, 0)) := by rw [← hX]; exact World.alloc_heap_new _ _
  have hbX : Below w.heap.size w X := by rw [← hX]; exact (Below.refl _ w).alloc (Nat.le_refl _) _
  have hxs : X.heap.size = w.heap.size + 1 := by rw [← hX]; simp
  obtain ⟨Y, hY⟩ : ∃ Y, X.alloc (.cells #[.string (mk z.nm), .slice z.ra z.rs.length z.rc, .slice z.sa z.sv.length z.sc] 50) = Y := ⟨_, rfl⟩
  have gY : Y.heap[X.heap.size]? = some (.cells #[.string (mk z.nm), .slice z.ra z.rs.length z.rc, .slice z.sa z.sv.length z.sc] 50 (0, 0)) := by rw [← hY]; exact World.alloc_heap_new _ _
  have hbY : Below X.heap.size X Y := by rw [← hY]; exact (Below.refl _ X).alloc (Nat.le_refl _) _
  have gX := heap_later hbY gX
  have hbw : Below w.heap.size w Y := hbX.trans (hbY.mono hbX.size)
  have hzY := fun W (h : Below Y.heap.size Y W) => (hz.below hbw).below h
  have htY := fun W (h : Below Y.heap.size Y W) => (ht.below hbw).below h
  have hsv := fun W (h : Below Y.heap.size Y W) => servers_any z.sv z.sa z.sc W (hzY W h).sv (fun s hs => by have := hzo.sv s hs; unfold maxLen; omega) hzo.l2
  have hal := fun W (h : Below Y.heap.size Y W) => aliases_any z W (hzY W h) hzo
  have hl1 := hzo.l1
  have hc : ∀ W, Below Y.heap.size Y W → W.cell? ⟨X.heap.size, 0, none⟩ = some (.string (mk z.nm)) ∧ W.cell? ⟨X.heap.size, 1, none⟩ = some (.slice z.ra z.rs.length z.rc) ∧ W.cell? ⟨X.heap.size, 2, none⟩ = some (.slice z.sa z.sv.length z.sc) ∧ W.cell? ⟨w.heap.size, 0, none⟩ = some (.pointer (some ⟨tb, 0, none⟩)) := fun W h =>
    ⟨row_cell (heap_later h gY) 0 _ rfl, row_cell (heap_later h gY) 1 _ rfl, row_cell (heap_later h gY) 2 _ rfl, row_cell (heap_later h gX) 0 _ rfl⟩
  have hlX := (Array.getElem?_eq_some_iff.1 gX).1
  have hlY := (Array.getElem?_eq_some_iff.1 gY).1
  have hbad := fun W (h : Below Y.heap.size Y W) => hasR_any 63 #[.pointer (some ⟨X.heap.size, 0, none⟩), .pointer (some ⟨w.heap.size, 0, none⟩)] (badP (T.map Zn.p) z.p) z.ra z.rc z.rs W (hzY W h).rs (by omega) (enters_of Tryz.func63 (by kernel_rfl) rfl)
    (fun W' r hr hb => may1_any tb X.heap.size w.heap.size T z r W' (htY W' (h.trans (hb.mono h.size))) hnm (hzo.rs r hr) (hc W' (h.trans (hb.mono h.size))).1 (Nat.lt_of_lt_of_le hlY (h.trans (hb.mono h.size)).size) (hc W' (h.trans (hb.mono h.size))).2.2.2 (Nat.lt_of_lt_of_le hlX (h.trans (hb.mono h.size)).size))
  generalize mayP (T.map Zn.p) z.p = R at *
  generalize srvP z.sv = b1 at *
  generalize aliP z.p = b2 at *
  generalize z.rs.any (badP (T.map Zn.p) z.p) = b3 at *
  clear hz hzo ht htY hzY hnm gX gY hbX hbY hlX hlY
  obtain ⟨zn, ra, rc, rs, sa, sc, sv⟩ := z
  simp only at hdef hY hsv hal hc hbad hl1
  show Calls Tryz.prog 31 #[.pointer (some ⟨tb, 0, none⟩), .agg #[.string (mk zn), .slice ra rs.length rc, .slice sa sv.length sc]] w _
  simp only [znV] at hal
  generalize rs.length = N at *
  generalize sv.length = M at *
  clear hxs
  obtain ⟨c0, c1, c2, c3⟩ := hc Y (Below.refl _ _)
  have HBW := Go.Lib.hid hbw
  have HDEF := Go.Lib.hid hdef
  have HSV := Go.Lib.hid hsv
  have HAL := Go.Lib.hid hal
  have HC := Go.Lib.hid hc
  have HBAD := Go.Lib.hid hbad
  clear hbw hdef hsv hal hc hbad
  by_cases h1 : N ≤ 100
  · have h2 : ¬ (N : Int) > 100 := by omega
    have h3 : ¬ (100 : Int) < N := by omega
    cases b1 with
    | false =>
      have HFIN : Hid (R = false) := Go.Lib.hid (by rw [HDEF.out]; simp)
      go_enter Tryz.func31, Tryz.ntmps31
      go_wp2_with fail
      refine (HSV.out _ (Below.refl _ _)).mono ?_; rintro e W1 ⟨rfl, hx⟩
      have HX := Go.Lib.hid hx
      clear hx
      go_wp2_with fail
      go_ret
      exact ⟨ret_bool HFIN.out.symm, HBW.out.trans (HX.out.mono HBW.out.size)⟩
    | true =>
    cases b2 with
    | false =>
      have HFIN : Hid (R = false) := Go.Lib.hid (by rw [HDEF.out]; simp)
      go_enter Tryz.func31, Tryz.ntmps31
      go_wp2_with fail
      refine (HSV.out _ (Below.refl _ _)).mono ?_; rintro e W1 ⟨rfl, hx⟩
      obtain ⟨e0, e1, e2, e3⟩ := HC.out W1 hx
      have HX := Go.Lib.hid hx
      clear hx
      go_wp2_with fail
      refine (HAL.out _ HX.out).mono ?_; rintro e W2 ⟨rfl, hx⟩
      have HX2 := Go.Lib.hid (HX.out.trans (hx.mono HX.out.size))
      clear hx
      go_wp2_with fail
      go_ret
      exact ⟨ret_bool HFIN.out.symm, HBW.out.trans (HX2.out.mono HBW.out.size)⟩
    | true =>
      have HFIN : Hid (R = !b3) := Go.Lib.hid (by rw [HDEF.out]; simp [h1])
      cases b3 <;>
      · go_enter Tryz.func31, Tryz.ntmps31
        go_wp2_with fail
        refine (HSV.out _ (Below.refl _ _)).mono ?_; rintro e W1 ⟨rfl, hx⟩
        obtain ⟨e0, e1, e2, e3⟩ := HC.out W1 hx
        have HX := Go.Lib.hid hx
        clear hx
        go_wp2_with fail
        refine (HAL.out _ HX.out).mono ?_; rintro e W2 ⟨rfl, hx⟩
        have HX2 := Go.Lib.hid (HX.out.trans (hx.mono HX.out.size))
        obtain ⟨f0, f1, f2, f3⟩ := HC.out W2 HX2.out
        clear hx e0 e1 e2 e3
        go_wp2_with fail
        refine (HBAD.out _ HX2.out).mono ?_; rintro e W3 ⟨rfl, hx⟩
        have HX3 := Go.Lib.hid (HX2.out.trans (hx.mono HX2.out.size))
        clear hx f0 f1 f2 f3
        go_wp2_with fail
        go_ret
        exact ⟨ret_bool HFIN.out.symm, HBW.out.trans (HX3.out.mono HBW.out.size)⟩
  · have h2 : (N : Int) > 100 := by omega
    have h3 : (100 : Int) < N := by omega
    have HFIN : Hid (R = false) := Go.Lib.hid (by rw [HDEF.out]; simp [h1])
    go_enter Tryz.func31, Tryz.ntmps31
    go_wp2_with fail
    go_ret
    exact ⟨ret_bool HFIN.out.symm, HBW.out⟩
end Go.Proofs.YtkpcmnckdappnaaGreat

/- Arguments opened: records, questions, messages, and slices of structs of one-cell fields. No conditions. -/
namespace Go.Proofs.YtkpcmnckdappnaaGreat
set_option maxRecDepth 100000
open Go.RowKit Go.ChangeShapes Go.WideShapes Go.Deep
set_option linter.unusedVariables false

/-! ### structs of one-cell fields -/
theorem openS {H : Type} {enc : TypeId × Value → H} {P : Program} {w : World} {base b0 : Nat} {spare : Nat → Bool} {held : Bool} {r : Reach} {t : TypeId} {fs : Array Field} {v : Value} {d : DataW H} {p : List MemPlace}
    (hs : P.underlying t = some (.struct fs)) (hone : oneCellFields P fs = true) (hC : P.cellsOf t = fs.size) (hv : Value.okWide P w r b0 t v) (h : DataW.Trod enc P w base spare held t v d p) :
    ∃ cs : List Value, v = .agg cs.toArray ∧ cs.length = fs.size ∧ ∃ n, ∀ (j : Nat) (f : Field), fs[j]? = some f → ∃ u y, cs[j]? = some u ∧ DataW.trod enc P w base spare held n f.type [u] = some y := by
  obtain ⟨cs, rfl, hsz⟩ := okWide_struct hs hv
  obtain ⟨l⟩ := cs
  obtain ⟨fuel, hf⟩ := h
  obtain ⟨xs, n, _, _, hl, hlen, hg⟩ := DataW.trod_struct hs hf
  have hll : l.length = fs.size := by simpa [hC] using hsz
  refine ⟨l, rfl, hll, n, fun j f hj => ?_⟩
  obtain ⟨o, k⟩ := hone_of hone j f hj
  have hjl : j < fs.size := (Array.getElem?_eq_some_iff.1 hj).1
  have h1 := hg j f hj
  rw [o, k] at h1
  have hcells : (Value.agg (Array.mk l)).cells.toList = l := rfl
  rw [hcells] at h1
  have h2 : (l.drop j).take 1 = [l[j]'(by omega)] := by
    rw [List.drop_eq_getElem_cons (by omega)]
    rfl
  rw [h2, List.getElem?_eq_getElem (by omega)] at h1
  exact ⟨_, _, List.getElem?_eq_getElem (by omega), h1⟩

/-- an element's cells, field by field -/
theorem openE {H : Type} {enc : TypeId × Value → H} {P : Program} {w : World} {base : Nat} {spare : Nat → Bool} {held : Bool} {e : TypeId} {fs : Array Field} {fuel : Nat} {cs : List Value} {x : DataW H × List MemPlace}
    (hs : P.underlying e = some (.struct fs)) (hone : oneCellFields P fs = true) (hC : P.cellsOf e = fs.size) (h : DataW.trod enc P w base spare held fuel e cs = some x) :
    cs.length = fs.size ∧ ∃ n, ∀ (j : Nat) (f : Field), fs[j]? = some f → ∃ u y, cs[j]? = some u ∧ DataW.trod enc P w base spare held n f.type [u] = some y := by
  obtain ⟨xs, n, _, _, hl, hlen, hg⟩ := DataW.trod_struct hs h
  rw [hC] at hl
  refine ⟨hl, n, fun j f hj => ?_⟩
  obtain ⟨o, k⟩ := hone_of hone j f hj
  have hjl : j < fs.size := (Array.getElem?_eq_some_iff.1 hj).1
  have h1 := hg j f hj
  rw [o, k] at h1
  have h2 : (cs.drop j).take 1 = [cs[j]'(by omega)] := by
    rw [List.drop_eq_getElem_cons (by omega)]
    rfl
  rw [h2, List.getElem?_eq_getElem (by omega)] at h1
  exact ⟨_, _, List.getElem?_eq_getElem (by omega), h1⟩

theorem list_of_elems {α : Type} (sz : Nat) (enc : α → List Value) (hsz : ∀ a, (enc a).length = sz) (good : α → Prop) (w : World) (x : Addr) : ∀ m : Nat,
    (∀ i, i < m → ∃ a, good a ∧ ∀ j, j < sz → w.cell? (x.add (i * sz + j)) = (enc a)[j]?) →
    ∃ l : List α, l.length = m ∧ (∀ a ∈ l, good a) ∧ (l.flatMap enc).length = m * sz ∧ ∀ j, j < m * sz → w.cell? (x.add j) = (l.flatMap enc)[j]?
  | 0, _ => ⟨[], rfl, by simp, by simp, by intro j hj; omega⟩
  | m + 1, h => by
    obtain ⟨l, h1, h2, h3, h4⟩ := list_of_elems sz enc hsz good w x m (fun i hi => h i (by omega))
    obtain ⟨a, g, hc⟩ := h m (by omega)
    refine ⟨l ++ [a], by simp [h1], fun b hb => ?_, by simp [h3, hsz, Nat.succ_mul], fun j hj => ?_⟩
    · rcases List.mem_append.1 hb with hb | hb
      · exact h2 b hb
      · simp at hb; rw [hb]; exact g
    · rw [List.flatMap_append]
      by_cases hlt : j < m * sz
      · rw [h4 j hlt, List.getElem?_append_left (by omega)]
      · have h5 := hc (j - m * sz) (by rw [Nat.succ_mul] at hj; omega)
        rw [show m * sz + (j - m * sz) = j by omega] at h5
        rw [h5, List.getElem?_append_right (by omega), h3]
        simp

/-- a slice, opened -/
theorem open_slc {α : Type} {H : Type} {enc : TypeId × Value → H} {P : Program} {w : World} {base : Nat} {held : Bool} {t e : TypeId} {fuel : Nat} {v : Value} {y : DataW H × List MemPlace} (sz : Nat) (h0 : 0 < sz) (en : α → List Value) (hen : ∀ a, (en a).length = sz) (good : α → Prop)
    (ht : P.underlying t = some (.slice e)) (hC : P.cellsOf e = sz)
    (hel : ∀ n cs y, DataW.trod enc P w base (fun _ => true) held n e cs = some y → ∃ a, good a ∧ cs = en a)
    (hd : DataW.trod enc P w base (fun _ => true) held fuel t [v] = some y) :
    ∃ a l cap, v = .slice a (l : List α).length cap ∧ SlC w sz v l.length (l.flatMap en) ∧ ∀ x ∈ l, good x := by
  rcases open_slice ht hd with ⟨hcs, _⟩ | ⟨x, len, cap, m, n, D, Pl, hcs, _, hl, hm, hmm, _, hi⟩
  · simp only [List.cons.injEq, and_true] at hcs
    subst hcs
    exact ⟨none, [], 0, rfl, SlC.nil _ _, by simp⟩
  · simp only [List.cons.injEq, and_true] at hcs
    subst hcs
    simp only [if_true] at hmm
    subst hmm
    rw [hC] at hi
    obtain ⟨l, h1, h2, h3, h4⟩ := list_of_elems sz en hen good w x m (fun i him => by
      obtain ⟨cs', hc, hy⟩ := hi i him
      obtain ⟨a, g, rfl⟩ := hel _ _ _ hy
      obtain ⟨_, hcl, hat⟩ := World.cells?_some hc
      refine ⟨a, g, fun j hj => ?_⟩
      rw [← hat j hj, Go.Deep.add_add])
    have hlen : (l.take len).length = len := by rw [List.length_take]; omega
    have htk : ∀ (l : List α) k, (l.take k).flatMap en = (l.flatMap en).take (k * sz) := by
      intro l
      induction l with
      | nil => intro k; simp
      | cons b l ih =>
        intro k
        cases k with
        | zero => simp
        | succ k =>
          simp only [List.take_succ_cons, List.flatMap_cons, ih]
          rw [List.take_append, hen, Nat.succ_mul, List.take_of_length_le (l := en b) (by rw [hen]; omega)]
          congr 2
          omega
    have hle : len * sz ≤ m * sz := Nat.mul_le_mul_right _ hl
    refine ⟨some x, l.take len, m, by rw [hlen], ?_, fun a ha => h2 a (List.mem_of_mem_take ha)⟩
    rw [hlen]
    exact slc_of_cells h0 hl hm (by rw [htk]) (by omega) (fun i hi => h4 i (by omega))

/-! ### records -/
def RRFit (r : Rc.RR) : Prop := RROk r ∧ Fits r.ty ∧ Fits r.cl ∧ Fits r.ttl
def en5 (r : Rc.RR) : List Value := [.string (mk r.name), .int .i64 r.ty, .int .i64 r.cl, .int .i64 r.ttl, .string (mk r.data)]
theorem five {α : Type} {l : List α} (h : l.length = 5) : ∃ a b c d e, l = [a, b, c, d, e] := by
  match l, h with
  | [a, b, c, d, e], _ => exact ⟨a, b, c, d, e, rfl⟩
theorem three {α : Type} {l : List α} (h : l.length = 3) : ∃ a b c, l = [a, b, c] := by
  match l, h with
  | [a, b, c], _ => exact ⟨a, b, c, rfl⟩
theorem mk_of (s : ByteArray) : s = mk (bl s) := (mk_bl s).symm

section
variable {H : Type} {enc : TypeId × Value → H} {w : World} {base b0 : Nat} {spare : Nat → Bool} {held : Bool}
theorem tInt {n : Nat} {u : Value} {y : DataW H × List MemPlace} (h : DataW.trod enc Tryz.prog w base spare held n 3 [u] = some y) : ∃ a, u = .int .i64 a ∧ Fits a := by
  obtain ⟨a, h1, _, hw⟩ := DataW.trod_int Tryz.underlying3 h
  simp only [List.cons.injEq, and_true] at h1
  exact ⟨a, h1, fits_of_wf hw⟩
theorem tStr {n : Nat} {u : Value} {y : DataW H × List MemPlace} (h : DataW.trod enc Tryz.prog w base spare held n 9 [u] = some y) : ∃ s : List UInt8, u = .string (mk s) ∧ s.length ≤ maxLen := by
  obtain ⟨s, h1, _, hw⟩ := DataW.trod_string Tryz.underlying9 h
  simp only [List.cons.injEq, and_true] at h1
  exact ⟨bl s, by rw [h1, mk_bl], by rw [← size_bl]; exact hw⟩
theorem tBool {n : Nat} {u : Value} {y : DataW H × List MemPlace} (h : DataW.trod enc Tryz.prog w base spare held n 4 [u] = some y) : ∃ a, u = .bool a := by
  obtain ⟨a, h1, _⟩ := DataW.trod_bool underBool h
  simp only [List.cons.injEq, and_true] at h1
  exact ⟨a, h1⟩

theorem rr_elem {n : Nat} {cs : List Value} {y : DataW H × List MemPlace} (h : DataW.trod enc Tryz.prog w base spare held n 43 cs = some y) : ∃ r, RRFit r ∧ cs = en5 r := by
  obtain ⟨hl, n, hf⟩ := openE Tryz.underlying43 (by kernel_rfl) (by kernel_rfl) h
  obtain ⟨u0, y0, e0, h0⟩ := hf 0 _ rfl
  obtain ⟨u1, y1, e1, h1⟩ := hf 1 _ rfl
  obtain ⟨u2, y2, e2, h2⟩ := hf 2 _ rfl
  obtain ⟨u3, y3, e3, h3⟩ := hf 3 _ rfl
  obtain ⟨u4, y4, e4, h4⟩ := hf 4 _ rfl
  obtain ⟨a, b, c, d, e, rfl⟩ := five (show cs.length = 5 from hl)
  obtain rfl : a = u0 := Option.some.inj e0
  obtain rfl : b = u1 := Option.some.inj e1
  obtain rfl : c = u2 := Option.some.inj e2
  obtain rfl : d = u3 := Option.some.inj e3
  obtain rfl : e = u4 := Option.some.inj e4
  obtain ⟨s, rfl, hs⟩ := tStr h0
  obtain ⟨i, rfl, hi⟩ := tInt h1
  obtain ⟨j, rfl, hj⟩ := tInt h2
  obtain ⟨k, rfl, hk⟩ := tInt h3
  obtain ⟨q, rfl, hq⟩ := tStr h4
  exact ⟨⟨s, i, j, k, q⟩, ⟨⟨hs, hq⟩, hi, hj, hk⟩, rfl⟩

/-- a slice of records -/
theorem openRRs {fuel : Nat} {v : Value} {y : DataW H × List MemPlace} (hd : DataW.trod enc Tryz.prog w base (fun _ => true) held fuel 32 [v] = some y) :
    ∃ a l cap, v = .slice a (l : List Rc.RR).length cap ∧ RRs w v l ∧ ∀ r ∈ l, RRFit r :=
  open_slc 5 (by omega) en5 (fun _ => rfl) RRFit Tryz.underlying32 (by kernel_rfl) (fun _ _ _ h => rr_elem h) hd
theorem open_RRs {v : Value} {d : DataW H} {p : List MemPlace} (hv : Value.okWide Tryz.prog w .any b0 32 v) (h : DataW.Trod enc Tryz.prog w base (fun _ => true) held 32 v d p) :
    ∃ a l cap, v = .slice a (l : List Rc.RR).length cap ∧ RRs w v l ∧ ∀ r ∈ l, RRFit r := by
  obtain ⟨a, len, cap, rfl⟩ := okWide_slice Tryz.underlying32 hv
  obtain ⟨fuel, hf⟩ := h
  exact openRRs hf
end
theorem open_RR {H : Type} {enc : TypeId × Value → H} {w : World} {base b0 : Nat} {spare : Nat → Bool} {held : Bool} {v : Value} {d : DataW H} {p : List MemPlace} (hv : Value.okWide Tryz.prog w .any b0 43 v) (h : DataW.Trod enc Tryz.prog w base spare held 43 v d p) :
    ∃ r, v = rrV r ∧ RRFit r := by
  obtain ⟨cs, rfl, hl, n, hf⟩ := openS Tryz.underlying43 (by kernel_rfl) (by kernel_rfl) hv h
  obtain ⟨u0, y0, e0, h0⟩ := hf 0 _ rfl
  obtain ⟨u1, y1, e1, h1⟩ := hf 1 _ rfl
  obtain ⟨u2, y2, e2, h2⟩ := hf 2 _ rfl
  obtain ⟨u3, y3, e3, h3⟩ := hf 3 _ rfl
  obtain ⟨u4, y4, e4, h4⟩ := hf 4 _ rfl
  obtain ⟨a, b, c, d, e, rfl⟩ := five (show cs.length = 5 from hl)
  obtain rfl : a = u0 := Option.some.inj e0
  obtain rfl : b = u1 := Option.some.inj e1
  obtain rfl : c = u2 := Option.some.inj e2
  obtain rfl : d = u3 := Option.some.inj e3
  obtain rfl : e = u4 := Option.some.inj e4
  obtain ⟨s, rfl, hs⟩ := tStr h0
  obtain ⟨i, rfl, hi⟩ := tInt h1
  obtain ⟨j, rfl, hj⟩ := tInt h2
  obtain ⟨k, rfl, hk⟩ := tInt h3
  obtain ⟨q, rfl, hq⟩ := tStr h4
  exact ⟨⟨s, i, j, k, q⟩, rfl, ⟨hs, hq⟩, hi, hj, hk⟩
end Go.Proofs.YtkpcmnckdappnaaGreat

/- A region whose order is left open, with several effects that need not wait for one another: each effect leaves a fact that all others keep (rely and guarantee); walked once, in the order of the text, over whatever values the effects yield. No conditions beside. -/
namespace Go.Mix
open Go
section
variable {P : Program} {ops : Array Oper} {md : Region.Mode} {E : Nat → Bool} {G : World → World → Prop} {w0 : World} {F : Nat → Value → World → Prop} {Sp : Nat → Value → Prop}

/-- what an effect's outcome leaves: its value, and the world -/
def EffR (P : Program) (R : Value → World → Prop) : Result Next → Prop
  | .ok (.value v) w' => R v w'
  | .ok .skip w' => R undef w'
  | .ok (.enter f args) w' => Calls P f args w' fun e w'' => match e with | .returned v => R v w'' | _ => False
  | .ok (.row row args) w' => Rows P row args w' R
  | _ => False
theorem EffR.upon {R : Value → World → Prop} {r : Result Next} {o : Oper} {a : Act} {K : Act → World → Prop} {Q : Exit → Act → World → Prop} (h : EffR P R r) (hK : ∀ v w', R v w' → K (a.put o.dst v) w') : o.upon P a K Q r := by
  cases r with
  | ok n w' =>
    cases n <;> simp only [EffR] at h
    case value v => exact hK _ _ h
    case skip => exact hK _ _ h
    case enter f args =>
      refine Calls.mono h fun e w'' he => ?_
      cases e with
      | returned v => exact hK _ _ he
      | panicked c => exact he.elim
      | outgrown => exact he.elim
    case row r args => exact Rows.mono h fun v w'' he => hK _ _ he
  | halt x w' => cases x <;> exact h.elim

/-- in whatever world of the class: the effect stays in it, and leaves its fact -/
def Eff (P : Program) (G : World → World → Prop) (w0 : World) (Fi : Value → World → Prop) (x : Sem Next) : Prop := ∀ w, G w0 w → EffR P (fun v w' => G w w' ∧ Fi v w') (x.run P w)

/-- operation i comes up; the facts so far: Φ -/
def rOp (P : Program) (ops : Array Oper) (E : Nat → Bool) (G : World → World → Prop) (w0 : World) (F : Nat → Value → World → Prop) (Sp : Nat → Value → Prop) (i : Nat) (K : Act → (World → Prop) → Prop) (a : Act) (Φ : World → Prop) : Prop :=
  match ops[i]? with
  | none => K a Φ
  | some o =>
    if Region.wanted o (yielded ops a.tmps) then
      if E i then Eff P G w0 (fun v w => Sp i v ∧ F i v w) (execOp a.eval o) ∧ ∀ v, Sp i v → K (a.put o.dst v) (fun w => Φ w ∧ F i v w)
      else ∃ v, (∀ w2, G w0 w2 → (execOp a.eval o).run P w2 = .ok (.value v) w2) ∧ K (a.put o.dst v) Φ
    else K (a.put o.dst undef) Φ

theorem rOp_mono {i : Nat} {K K' : Act → (World → Prop) → Prop} {a : Act} {Φ : World → Prop} (h : ∀ a Φ, K a Φ → K' a Φ) (hh : rOp P ops E G w0 F Sp i K a Φ) : rOp P ops E G w0 F Sp i K' a Φ := by
  unfold rOp at *
  split
  · rename_i ho; simp only [ho] at hh; exact h _ _ hh
  · rename_i o ho
    simp only [ho] at hh
    split
    · rename_i hw
      simp only [hw, if_true] at hh
      split
      · rename_i hE
        simp only [hE, if_true] at hh
        exact ⟨hh.1, fun v hv => h _ _ (hh.2 v hv)⟩
      · rename_i hE
        simp only [hE] at hh
        obtain ⟨v, h1, h2⟩ := hh
        exact ⟨v, h1, h _ _ h2⟩
    · rename_i hw
      simp only [hw] at hh
      exact h _ _ hh

/-- K is none the less true where more is known -/
def Anti (K : Act → (World → Prop) → Prop) : Prop := ∀ a (Φ Φ' : World → Prop), K a Φ → (∀ w, Φ' w → Φ w) → K a Φ'
theorem rOp_anti {i : Nat} {K : Act → (World → Prop) → Prop} (hK : Anti K) : Anti (rOp P ops E G w0 F Sp i K) := by
  intro a Φ Φ' h hi
  unfold rOp at *
  split
  · rename_i ho; simp only [ho] at h; exact hK _ _ _ h hi
  · rename_i o ho
    simp only [ho] at h
    split
    · rename_i hw
      simp only [hw, if_true] at h
      split
      · rename_i hE
        simp only [hE, if_true] at h
        exact ⟨h.1, fun v hv => hK _ _ _ (h.2 v hv) fun w hw => ⟨hi w hw.1, hw.2⟩⟩
      · rename_i hE
        simp only [hE] at h
        obtain ⟨v, h1, h2⟩ := h
        exact ⟨v, h1, hK _ _ _ h2 hi⟩
    · rename_i hw
      simp only [hw] at h
      exact hK _ _ _ h hi

def LeavesG (P : Program) (ops : Array Oper) (G : World → World → Prop) (w0 : World) (o : Oper) (v : Value) (a : Act) : Prop :=
  (Region.wanted o (yielded ops a.tmps) = true ∧ ∀ w2, G w0 w2 → (execOp a.eval o).run P w2 = .ok (.value v) w2) ∨ (Region.wanted o (yielded ops a.tmps) = false ∧ v = undef)

/-- what operation i does, apart from its way through 'match' -/
def rKind (P : Program) (ops : Array Oper) (E : Nat → Bool) (G : World → World → Prop) (w0 : World) (F : Nat → Value → World → Prop) (Sp : Nat → Value → Prop) (i : Nat) (o : Oper) (a : Act) (S : Value → Prop) (T : Value → World → Prop) : Prop :=
  (Region.wanted o (yielded ops a.tmps) = true ∧ E i = true ∧ Eff P G w0 (fun v w => Sp i v ∧ F i v w) (execOp a.eval o) ∧ (S = Sp i) ∧ T = F i) ∨
  (Region.wanted o (yielded ops a.tmps) = true ∧ E i = false ∧ ∃ v, (∀ w2, G w0 w2 → (execOp a.eval o).run P w2 = .ok (.value v) w2) ∧ (S = fun u => u = v) ∧ T = fun _ _ => True) ∨
  (Region.wanted o (yielded ops a.tmps) = false ∧ (S = fun u => u = undef) ∧ T = fun _ _ => True)

theorem rOp_kind {i : Nat} {o : Oper} (hi : ops[i]? = some o) {K : Act → (World → Prop) → Prop} (hK : Anti K) {a : Act} {Φ : World → Prop} :
    rOp P ops E G w0 F Sp i K a Φ ↔ ∃ S T, rKind P ops E G w0 F Sp i o a S T ∧ ∀ v, S v → K (a.put o.dst v) (fun w => Φ w ∧ T v w) := by
  unfold rOp rKind
  rw [hi]
  simp only
  constructor
  · intro h
    split at h
    · rename_i hw
      split at h
      · rename_i hE
        exact ⟨_, _, .inl ⟨hw, hE, h.1, rfl, rfl⟩, fun v hv => h.2 v hv⟩
      · rename_i hE
        obtain ⟨v, h1, h2⟩ := h
        exact ⟨_, _, .inr (.inl ⟨hw, by simpa using hE, v, h1, rfl, rfl⟩), fun u hu => by subst hu; exact hK _ _ _ h2 fun w hw => hw.1⟩
    · rename_i hw
      exact ⟨_, _, .inr (.inr ⟨by simpa using hw, rfl, rfl⟩), fun u hu => by subst hu; exact hK _ _ _ h fun w hw => hw.1⟩
  · rintro ⟨S, T, (⟨hw, hE, he, rfl, rfl⟩ | ⟨hw, hE, v, hv, rfl, rfl⟩ | ⟨hw, rfl, rfl⟩), hk⟩
    · simp only [hw, hE, if_true]
      exact ⟨he, fun v hv => hk v hv⟩
    · simp only [hw, hE, if_true, Bool.false_eq_true, if_false]
      exact ⟨v, hv, hK _ _ _ (hk v rfl) fun w hw => ⟨hw, trivial⟩⟩
    · simp only [hw, Bool.false_eq_true, if_false]
      exact hK _ _ _ (hk _ rfl) fun w hw => ⟨hw, trivial⟩

theorem rKind_put {i : Nat} {o : Oper} (hsel : ∀ cs b, o.op ≠ .select cs b) {x : Option Tmp} (h1 : ∀ d, x = some d → d ∉ o.looksAt ops) {a : Act} {u : Value} {S : Value → Prop} {T : Value → World → Prop} :
    rKind P ops E G w0 F Sp i o (a.put x u) S T ↔ rKind P ops E G w0 F Sp i o a S T := by
  unfold rKind
  rw [execOp_put (ops := ops) o hsel a x u h1, wanted_put o a x u h1]

theorem rKind_inh (hS : ∀ i, ∃ v, Sp i v) {i : Nat} {o : Oper} {a : Act} {S : Value → Prop} {T : Value → World → Prop} (h : rKind P ops E G w0 F Sp i o a S T) : ∃ v, S v := by
  rcases h with ⟨_, _, _, rfl, _⟩ | ⟨_, _, v, _, rfl, _⟩ | ⟨_, rfl, _⟩
  · exact hS i
  · exact ⟨v, rfl⟩
  · exact ⟨_, rfl⟩
theorem rKind_one {i : Nat} {o : Oper} {a : Act} {S S' : Value → Prop} {T T' : Value → World → Prop} (hr : G w0 w0) (h : rKind P ops E G w0 F Sp i o a S T) (h' : rKind P ops E G w0 F Sp i o a S' T') : S = S' ∧ T = T' := by
  rcases h with ⟨a1, a2, _, rfl, rfl⟩ | ⟨a1, a2, v, a3, rfl, rfl⟩ | ⟨a1, rfl, rfl⟩ <;> rcases h' with ⟨b1, b2, _, rfl, rfl⟩ | ⟨b1, b2, v', b3, rfl, rfl⟩ | ⟨b1, rfl, rfl⟩
  · exact ⟨rfl, rfl⟩
  · rw [a2] at b2; cases b2
  · rw [a1] at b1; cases b1
  · rw [a2] at b2; cases b2
  · have := (a3 w0 hr).symm.trans (b3 w0 hr)
    simp only [Result.ok.injEq, Next.value.injEq, and_true] at this
    subst this
    exact ⟨rfl, rfl⟩
  · rw [a1] at b1; cases b1
  · rw [a1] at b1; cases b1
  · rw [a1] at b1; cases b1
  · exact ⟨rfl, rfl⟩

theorem rOp_comm (hS : ∀ i, ∃ v, Sp i v) {i j : Nat} {oi oj : Oper} (hr : G w0 w0) (hi : ops[i]? = some oi) (hj : ops[j]? = some oj) (hap : oi.apart ops oj = true)
    (hsi : ∀ cs b, oi.op ≠ .select cs b) (hsj : ∀ cs b, oj.op ≠ .select cs b) {K : Act → (World → Prop) → Prop} (hK : Anti K) {a : Act} {Φ : World → Prop}
    (h : rOp P ops E G w0 F Sp i (rOp P ops E G w0 F Sp j K) a Φ) : rOp P ops E G w0 F Sp j (rOp P ops E G w0 F Sp i K) a Φ := by
  obtain ⟨h1, h2, h3⟩ := Oper.apart_spec hap
  rw [rOp_kind hi (rOp_anti hK)] at h
  obtain ⟨S, T, hk, h⟩ := h
  obtain ⟨v0, hv0⟩ := rKind_inh hS hk
  have hj0 := h v0 hv0
  rw [rOp_kind hj hK] at hj0
  obtain ⟨S', T', hk', _⟩ := hj0
  rw [rKind_put hsj h1] at hk'
  rw [rOp_kind hj (rOp_anti hK)]
  refine ⟨S', T', hk', fun u hu => ?_⟩
  rw [rOp_kind hi hK]
  refine ⟨S, T, (rKind_put hsi h3).2 hk, fun v hv => ?_⟩
  have h4 := h v hv
  rw [rOp_kind hj hK] at h4
  obtain ⟨S2, T2, hk2, h5⟩ := h4
  rw [rKind_put hsj h1] at hk2
  obtain ⟨rfl, rfl⟩ := rKind_one hr hk' hk2
  have h6 := h5 u hu
  rw [Act.put_comm a v u h2] at h6
  exact hK _ _ _ h6 fun w hw => ⟨⟨hw.1.1, hw.2⟩, hw.1.2⟩

/-! ### any order -/
def wpAnyR (P : Program) (md : Region.Mode) (ops : Array Oper) (E : Nat → Bool) (G : World → World → Prop) (w0 : World) (F : Nat → Value → World → Prop) (Sp : Nat → Value → Prop) (Q : Act → World → Prop) (tl : Nat) : Nat → Array Bool → Act → (World → Prop) → Prop
  | 0, listed, a, Φ => Region.ready md ops listed = [] ∧ ∀ w, G w0 w → Φ w → Q a w
  | fuel + 1, listed, a, Φ =>
    (Region.ready md ops listed = [] → ∀ w, G w0 w → Φ w → Q a w) ∧
    ∀ i ∈ Region.ready md ops listed, (i = tl → Region.ready md ops (listed.setIfInBounds i true) = [] ∧ ∀ w, G w0 w → Φ w → tOp P ops i Q a w) ∧
      (i ≠ tl → rOp P ops E G w0 F Sp i (wpAnyR P md ops E G w0 F Sp Q tl fuel (listed.setIfInBounds i true)) a Φ)

theorem wpAnyR_anti {Q : Act → World → Prop} {tl : Nat} : ∀ (fuel : Nat) (listed : Array Bool), Anti (wpAnyR P md ops E G w0 F Sp Q tl fuel listed)
  | 0, _ => fun _ _ _ h hi => ⟨h.1, fun w hg hw => h.2 w hg (hi w hw)⟩
  | fuel + 1, _ => fun _ _ _ h hi => ⟨fun h0 w hg hw => h.1 h0 w hg (hi w hw), fun i hir => ⟨fun hit => ⟨((h.2 i hir).1 hit).1, fun w hg hw => ((h.2 i hir).1 hit).2 w hg (hi w hw)⟩,
      fun hit => rOp_anti (wpAnyR_anti fuel _) _ _ _ ((h.2 i hir).2 hit) hi⟩⟩

theorem wpAny_of_wpAnyR {Q : Act → World → Prop} {Q' : Exit → Act → World → Prop} {tl : Nat} (hGt : ∀ {A B C : World}, G A B → G B C → G A C) (hGr : ∀ A, G A A) (hF : ∀ i v w w', F i v w → G w w' → F i v w') (hQ : ∀ a w, Q a w → Q' .normal a w) :
    ∀ (fuel : Nat) (listed : Array Bool) (a : Act) (w : World) (Φ : World → Prop), G w0 w → Φ w → (∀ w w', Φ w → G w w' → Φ w') → wpAnyR P md ops E G w0 F Sp Q tl fuel listed a Φ → wpAny P md ops Q' fuel listed a w
  | 0, _, _, _, _, hw, hp, _, h => ⟨h.1, hQ _ _ (h.2 _ hw hp)⟩
  | fuel + 1, listed, a, w, Φ, hw, hp, hst, h => ⟨fun h0 => hQ _ _ (h.1 h0 _ hw hp), fun i hi => by
      by_cases hit : i = tl
      · obtain ⟨h1, h2⟩ := (h.2 i hi).1 hit
        exact wpOp_of_tOp (fun a' w' hq => wpAny_end h1 fuel (hQ _ _ hq)) (h2 w hw hp)
      · have h3 := (h.2 i hi).2 hit
        unfold rOp at h3
        unfold wpOp
        split
        · rename_i ho
          simp only [ho] at h3
          exact wpAny_of_wpAnyR hGt hGr hF hQ fuel _ a w Φ hw hp hst h3
        · rename_i o ho
          simp only [ho] at h3
          split
          · rename_i hwt
            simp only [hwt, if_true] at h3
            refine .inl ?_
            split at h3
            · obtain ⟨he, hk⟩ := h3
              unfold Oper.wp
              refine (he w hw).upon fun v w' hv => ?_
              exact wpAny_of_wpAnyR hGt hGr hF hQ fuel _ _ w' _ (hGt hw hv.1) ⟨hst _ _ hp hv.1, hv.2.2⟩ (fun x y hx hg => ⟨hst _ _ hx.1 hg, hF _ _ _ _ hx.2 hg⟩) (hk v hv.2.1)
            · obtain ⟨v, h1, h2⟩ := h3
              unfold Oper.wp
              rw [h1 w hw]
              exact wpAny_of_wpAnyR hGt hGr hF hQ fuel _ _ w Φ hw hp hst h2
          · rename_i hwt
            simp only [hwt] at h3
            exact wpAny_of_wpAnyR hGt hGr hF hQ fuel _ _ w Φ hw hp hst h3⟩

theorem rOp_ex (hS : ∀ i, ∃ v, Sp i v) {i : Nat} {K : Act → (World → Prop) → Prop} {a : Act} {Φ : World → Prop} (h : rOp P ops E G w0 F Sp i K a Φ) : ∃ a' Φ', K a' Φ' := by
  unfold rOp at h
  split at h
  · exact ⟨_, _, h⟩
  · split at h
    · split at h
      · obtain ⟨v, hv⟩ := hS i
        exact ⟨_, _, h.2 v hv⟩
      · obtain ⟨v, _, h⟩ := h
        exact ⟨_, _, h⟩
    · exact ⟨_, _, h⟩

theorem wpAnyR_first (hS : ∀ i, ∃ v, Sp i v) {Q : Act → World → Prop} {n tl : Nat} (hr0 : G w0 w0) (htl : Tail md ops n tl) {i : Nat} {oi : Oper} (hi : ops[i]? = some oi) (hit : i ≠ tl)
    (hsel : ∀ (j : Nat) (o : Oper) cs b, ops[j]? = some o → o.op ≠ .select cs b) :
    ∀ (fuel : Nat) (listed : Array Bool) (a : Act) (Φ : World → Prop), Down md ops listed →
      (∀ j oj, ops[j]? = some oj → j ≠ i → listed.getD j true = false → (∀ e ∈ oj.after, Region.binds md e = true → e.on ≠ i) → oi.apart ops oj = true) →
      i ∈ Region.ready md ops listed →
      rOp P ops E G w0 F Sp i (wpAnyR P md ops E G w0 F Sp Q tl fuel (listed.setIfInBounds i true)) a Φ → wpAnyR P md ops E G w0 F Sp Q tl (fuel + 1) listed a Φ := by
  intro fuel
  induction fuel with
  | zero =>
    intro listed a Φ _ _ hr H
    refine ⟨fun h => (by rw [h] at hr; cases hr), fun j hj => ?_⟩
    by_cases hji : j = i
    · subst hji; exact ⟨fun h => absurd h hit, fun _ => H⟩
    · have := ready_mono hj hji
      obtain ⟨a', w', hK⟩ := rOp_ex hS H
      rw [hK.1] at this
      cases this
  | succ fuel ih =>
    intro listed a Φ hdn hfree hr H
    refine ⟨fun h => (by rw [h] at hr; cases hr), fun j hj => ?_⟩
    by_cases hji : j = i
    · subst hji; exact ⟨fun h => absurd h hit, fun _ => H⟩
    · obtain ⟨hjun, oj, hoj, hall⟩ := mem_ready.1 hj
      have hiun := (mem_ready.1 hr).1
      have hjt : j ≠ tl := by
        intro hjt
        subst hjt
        have h1 := htl i (Array.getElem?_eq_some_iff.1 hi).1 hit
        rw [dep_ready hdn (getD_true_false hiun) hj n] at h1
        cases h1
      refine ⟨fun h => absurd h hjt, fun _ => ?_⟩
      have hnot : ∀ e ∈ oj.after, Region.binds md e = true → e.on ≠ i := fun e he hb heq => by
        have h1 := hall e he hb
        rw [heq, getD_true_false hiun] at h1
        cases h1
      have hap := hfree j oj hoj hji hjun hnot
      have H1 : rOp P ops E G w0 F Sp i (rOp P ops E G w0 F Sp j (wpAnyR P md ops E G w0 F Sp Q tl fuel ((listed.setIfInBounds i true).setIfInBounds j true))) a Φ :=
        rOp_mono (fun a' Φ' hK => (hK.2 j (ready_mono hj hji)).2 hjt) H
      have H2 := rOp_comm hS hr0 hi hoj hap (fun cs b => hsel i oi cs b hi) (fun cs b => hsel j oj cs b hoj) (wpAnyR_anti fuel _) H1
      have hfree' : ∀ k ok, ops[k]? = some ok → k ≠ i → (listed.setIfInBounds j true).getD k true = false →
          (∀ e ∈ ok.after, Region.binds md e = true → e.on ≠ i) → oi.apart ops ok = true := fun k ok hk hki hun hno => by
        refine hfree k ok hk hki ?_ hno
        by_cases hjk : j = k
        · subst hjk; exact hjun
        · rw [getD_set_ne true hjk] at hun; exact hun
      refine rOp_mono (fun a' Φ' h3 => ih (listed.setIfInBounds j true) a' Φ' (hdn.ready hj) hfree' (ready_mono hr (Ne.symm hji)) ?_) H2
      rw [Array.setIfInBounds_comm _ _ hji]
      exact h3

/-- THE WALK IN THE ORDER OF THE TEXT -/
def wpMixR (P : Program) (ops : Array Oper) (E : Nat → Bool) (G : World → World → Prop) (w0 : World) (F : Nat → Value → World → Prop) (Sp : Nat → Value → Prop) (Q : Act → World → Prop) (tl : Nat) : Nat → List Oper → Act → (World → Prop) → Prop
  | _, [], a, Φ => ∀ w, G w0 w → Φ w → Q a w
  | k, o :: rest, a, Φ =>
    (k = tl → ∀ w, G w0 w → Φ w → if Region.wanted o (yielded ops a.tmps) then o.wp P a w Q NoExit else Q (a.put o.dst undef) w) ∧
    (k ≠ tl → if Region.wanted o (yielded ops a.tmps) then
      if E k then Eff P G w0 (fun v w => Sp k v ∧ F k v w) (execOp a.eval o) ∧ ∀ v, Sp k v → wpMixR P ops E G w0 F Sp Q tl (k + 1) rest (a.put o.dst v) (fun w => Φ w ∧ F k v w)
      else ∃ v, (∀ w2, G w0 w2 → (execOp a.eval o).run P w2 = .ok (.value v) w2) ∧ wpMixR P ops E G w0 F Sp Q tl (k + 1) rest (a.put o.dst v) Φ
    else wpMixR P ops E G w0 F Sp Q tl (k + 1) rest (a.put o.dst undef) Φ)

theorem wpAnyR_lex (hS : ∀ i, ∃ v, Sp i v) {Q : Act → World → Prop} {n tl : Nat} (hr0 : G w0 w0) (htl : Tail md ops n tl) (hlast : tl + 1 = ops.size) (hs : Region.noSelect ops = true) :
    ∀ (l : List Oper) (k : Nat) (listed : Array Bool) (a : Act) (Φ : World → Prop), (∀ j, l[j]? = ops[k + j]?) → (∀ j, j < k → listed.getD j true = true) → Down md ops listed →
      Region.lexFrom md ops l.length k listed = true → wpMixR P ops E G w0 F Sp Q tl k l a Φ → wpAnyR P md ops E G w0 F Sp Q tl l.length listed a Φ
  | [], _, _, _, _, _, _, _, hB, h => ⟨by simpa [Region.lexFrom] using hB, h⟩
  | o :: l, k, listed, a, Φ, hl, hbf, hdn, hB, h => by
    have h0 : ops[k]? = some o := by simpa using (hl 0).symm
    have hklt : k < ops.size := (Array.getElem?_eq_some_iff.1 h0).1
    simp only [List.length_cons, Region.lexFrom, Bool.and_eq_true] at hB
    obtain ⟨⟨hr, hf⟩, hB'⟩ := hB
    have hr' : k ∈ Region.ready md ops listed := by simpa using hr
    have hbf' : ∀ j, j < k + 1 → (listed.setIfInBounds k true).getD j true = true := fun j hj => by
      by_cases hjk : k = j
      · subst hjk
        cases hg : (listed.setIfInBounds k true).getD k true with
        | true => rfl
        | false =>
          exfalso
          rcases Nat.lt_or_ge k listed.size with h1 | h1
          · simp [h1] at hg
          · simp [h1] at hg
      · rw [getD_set_ne true hjk]; exact hbf j (by omega)
    by_cases hkt : k = tl
    · have hnil : ∀ j, j ∈ Region.ready md ops (listed.setIfInBounds k true) → False := fun j hj => by
        obtain ⟨hun, oj, hoj, _⟩ := mem_ready.1 hj
        have := (Array.getElem?_eq_some_iff.1 hoj).1
        rw [hbf' j (by omega)] at hun
        cases hun
      have hnil' : Region.ready md ops (listed.setIfInBounds k true) = [] := List.eq_nil_iff_forall_not_mem.2 fun j hj => hnil j hj
      refine ⟨fun h1 => (by rw [h1] at hr'; cases hr'), fun i hi => ?_⟩
      have hik : i = k := by
        obtain ⟨hun, oi, hoi, _⟩ := mem_ready.1 hi
        have := (Array.getElem?_eq_some_iff.1 hoi).1
        rcases Nat.lt_or_ge i k with h1 | h1
        · rw [hbf i h1] at hun; cases hun
        · omega
      subst hik
      refine ⟨fun _ => ⟨hnil', fun w hg hw => ?_⟩, fun h1 => absurd hkt h1⟩
      unfold tOp
      rw [h0]
      unfold wpMixR at h
      exact h.1 hkt w hg hw
    · have hm : rOp P ops E G w0 F Sp k (wpMixR P ops E G w0 F Sp Q tl (k + 1) l) a Φ := by
        unfold rOp
        rw [h0]
        unfold wpMixR at h
        exact h.2 hkt
      refine wpAnyR_first hS hr0 htl h0 hkt (Region.noSelect_spec hs) l.length listed a Φ hdn (Region.free_spec h0 hf) hr' ?_
      exact rOp_mono (fun a' Φ' hK => wpAnyR_lex hS hr0 htl hlast hs l (k + 1) _ a' Φ' (fun j => by have := hl (j + 1); simpa [Nat.add_assoc, Nat.add_comm 1 j] using this) hbf' (hdn.ready hr') hB' hK) hm

structure MixR (P : Program) (ops : Array Oper) (E : Nat → Bool) (G : World → World → Prop) (w0 : World) (F : Nat → Value → World → Prop) (Sp : Nat → Value → Prop) (Q : Act → World → Prop) (tl k : Nat) (rest : List Oper) (a : Act) (Φ : World → Prop) : Prop where
  out : wpMixR P ops E G w0 F Sp Q tl k rest a Φ

theorem wp_region_mixR {id : Nat} {l : List Oper} (Es : List Nat) (tl : Nat) (G : World → World → Prop) (F : Nat → Value → World → Prop) (Sp : Nat → Value → Prop) {Q : Exit → Act → World → Prop} {a : Act} {w : World} (hm : P.follows .mixedOrders = true)
    (hB : (Region.lexB .any l.toArray && tailB .any l.toArray tl) = true) (hGt : ∀ {A B C : World}, G A B → G B C → G A C) (hGr : ∀ A, G A A) (hF : ∀ i v w w', F i v w → G w w' → F i v w') (hS : ∀ i, ∃ v, Sp i v)
    (h : MixR P l.toArray (fun k => Es.contains k) G w.drew F Sp (fun a' w' => Q .normal a' w') tl 0 l a (fun _ => True)) : (Code.region id l.toArray true).wp P Q a w := by
  simp only [Region.lexB, Bool.and_eq_true] at hB
  obtain ⟨ht1, ht2⟩ := tail_of hB.2
  refine wp_region_any hm (wpAny_of_wpAnyR (Q := fun a' w' => Q .normal a' w') (E := fun k => Es.contains k) (tl := tl) (w0 := w.drew) (F := F) (G := G) (Sp := Sp) hGt hGr hF (fun _ _ h => h) _ _ _ _ (fun _ => True) (hGr _) trivial (fun _ _ _ _ => trivial) ?_)
  have := wpAnyR_lex (P := P) (G := G) (F := F) (Sp := Sp) hS (Q := fun a' w' => Q .normal a' w') (md := .any) (hGr w.drew) ht1 ht2 hB.1.1 l 0 (Array.replicate l.toArray.size false) a (fun _ => True) (by simp) (fun j hj => by omega) (Down.start _) (by simpa using hB.1.2) h.out
  simpa using this

section
variable {Es : List Nat} {Q : Act → World → Prop} {o : Oper} {rest : List Oper} {a : Act} {k tl : Nat} {Φ : World → Prop}

theorem mixR_step (hk : (Es.contains k || k == tl) = false) (h : ∀ K : Act → Prop, (∀ a, MixR P ops (fun k => Es.contains k) G w0 F Sp Q tl (k + 1) rest a Φ → K a) →
      if Region.wanted o (yielded ops a.tmps) then ∃ v, (∀ w2 : Subtype (G w0), (execOp a.eval o).run P w2.1 = .ok (.value v) w2.1) ∧ K (a.put o.dst v) else K (a.put o.dst undef)) :
    MixR P ops (fun k => Es.contains k) G w0 F Sp Q tl k (o :: rest) a Φ := by
  have := h (fun a => wpMixR P ops (fun k => Es.contains k) G w0 F Sp Q tl (k + 1) rest a Φ) (fun _ h => h.out)
  rw [Bool.or_eq_false_iff] at hk
  have hkt : k ≠ tl := by simpa using hk.2
  refine ⟨?_⟩
  unfold wpMixR
  refine ⟨fun h => absurd h hkt, fun _ => ?_⟩
  simp only [hk.1]
  split
  · rename_i hw
    rw [if_pos hw] at this
    obtain ⟨v, h1, h2⟩ := this
    exact ⟨v, fun w2 hw2 => h1 ⟨w2, hw2⟩, h2⟩
  · rename_i hw
    rw [if_neg hw] at this
    exact this

/-- an effect that is made -/
theorem mixR_eff (hk : (Es.contains k && !(k == tl)) = true) (hw : Region.wanted o (yielded ops a.tmps) = true) (he : ∀ w, G w0 w → EffR P (fun v w' => G w w' ∧ Sp k v ∧ F k v w') ((execOp a.eval o).run P w))
    (h : ∀ v, Sp k v → MixR P ops (fun k => Es.contains k) G w0 F Sp Q tl (k + 1) rest (a.put o.dst v) (fun w => Φ w ∧ F k v w)) :
    MixR P ops (fun k => Es.contains k) G w0 F Sp Q tl k (o :: rest) a Φ := by
  rw [Bool.and_eq_true] at hk
  have hkt : k ≠ tl := by simpa using hk.2
  refine ⟨?_⟩
  unfold wpMixR
  refine ⟨fun h => absurd h hkt, fun _ => ?_⟩
  simp only [hk.1, hw, if_true]
  exact ⟨he, fun v hv => (h v hv).out⟩

/-- the last one -/
theorem mixR_last (hk : (k == tl) = true) (h : ∀ w, G w0 w → Φ w → ∀ K : Act → World → Prop, (∀ a w, Q a w → K a w) →
      if Region.wanted o (yielded ops a.tmps) then o.wp P a w K NoExit else K (a.put o.dst undef) w) :
    MixR P ops (fun k => Es.contains k) G w0 F Sp Q tl k [o] a Φ := by
  have hkt : k = tl := by simpa using hk
  refine ⟨?_⟩
  unfold wpMixR
  exact ⟨fun _ w hg hw => h w hg hw Q (fun _ _ h => h), fun h => absurd hkt h⟩
end
end
end Go.Mix

/- Small words of other texts (laid by slim.py). -/
namespace Go.Proofs.YtkpcmnckdappnaaGreat
open Go.RowKit Go.Shelf Go.Sq
set_option linter.unusedVariables false

theorem infoRR : (Tryz.prog.info? 43).map (fun i => (i.zero, i.size, i.bytes)) = some (some (.agg #[.string ⟨#[]⟩, .int .i64 0, .int .i64 0, .int .i64 0, .string ⟨#[]⟩]), 5, 56) := by kernel_rfl
theorem eiRR : EI Tryz.prog 32 43 5 56 := ei_of Tryz.underlying32 infoRR rfl (by decide)
/-- nothing that was there is changed -/
def GB (w w' : World) : Prop := Below w.heap.size w w'
theorem GB.trans {A B C : World} (h : GB A B) (k : GB B C) : GB A C := Below.trans h (Below.mono k (Below.size h))
theorem GB.refl (A : World) : GB A A := Below.refl _ _
theorem GB.size {A B : World} (h : GB A B) : A.heap.size ≤ B.heap.size := Below.size h
theorem GB.cell {W : World} {p : Addr} {v : Value} (h : W.cell? p = some v) (hp : p.block < W.heap.size) (w3 : Subtype (GB W.drew)) : w3.1.cell? p = some v := (Below.cell w3.2 (p := p) hp).trans h
theorem GB.heap {A B : World} (h : GB A B) {k : Nat} {o : Obj} (hk : A.heap[k]? = some o) : B.heap[k]? = some o := (Below.block h k (Array.getElem?_eq_some_iff.1 hk).1).trans hk
theorem getD_snoc_lt {α : Type} (l : List α) (x d : α) {i : Nat} (h : i < l.length) : (l ++ [x]).getD i d = l.getD i d := by
  rw [List.getD_eq_getElem?_getD, List.getElem?_append_left h, ← List.getD_eq_getElem?_getD]
theorem getD_snoc_eq {α : Type} (l : List α) (x d : α) : (l ++ [x]).getD l.length d = x := by simp
/-- a record put to a group's list -/
theorem getD_set_eq' {α : Type} (l : List α) (d x : α) {q : Nat} (h : q < l.length) : (l.set q x).getD q d = x := by simp [List.getD_eq_getElem?_getD, h]
theorem getD_set_ne' {α : Type} (l : List α) (d x : α) {q i : Nat} (h : i ≠ q) : (l.set q x).getD i d = l.getD i d := by simp [List.getD_eq_getElem?_getD, Ne.symm h]
theorem heap_kept {W W' : World} {k : Nat} {cs : Array Value} {T : TypeId} {fr : Nat × Nat} (h : W.heap[k]? = some (.cells cs T fr)) {base e sz n : Nat} {v : Value} {xs : List Value} (hown : W.ownsRow base e sz v n xs) (hT : T ≠ e) (hg : W.grownBy W' v.ownBlock) : W'.heap[k]? = some (.cells cs T fr) := by
  refine (hg.block k (Array.getElem?_eq_some_iff.1 h).1 ?_).trans h
  rcases hown.2 with ⟨rfl, _⟩ | ⟨g, cap, cur, rfl, _, hgh, _⟩
  · simp [Value.ownBlock]
  · intro e'
    simp only [Value.ownBlock, Option.some.injEq] at e'
    subst e'
    rw [h] at hgh
    simp only [Option.some.injEq, Obj.cells.injEq] at hgh
    exact hT hgh.2.1
theorem heap_old {W : World} {k : Nat} {o : Obj} (h : W.heap[k]? = some o) (o' : Obj) : (W.alloc o').heap[k]? = some o := (Below.heap_alloc _ _ _ (Array.getElem?_eq_some_iff.1 h).1).trans h
theorem getD_mem' {α : Type} {l : List α} {q : Nat} {d : α} (h : q < l.length) : l.getD q d ∈ l := by
  rw [List.getD_eq_getElem?_getD, List.getElem?_eq_getElem h]
  simp
end Go.Proofs.YtkpcmnckdappnaaGreat

/- Messages in memory; the contracts of slices.Clone, match.Ask, Reply, Refuse, and of the reference's. -/
namespace Go.Proofs.YtkpcmnckdappnaaGreat
open Go.RowKit Go.Shelf Go.Sq
set_option linter.unusedVariables false

/-- a question -/
structure Qn where
  name : List UInt8
  ty : Int
  cl : Int
deriving DecidableEq
def en3 (q : Qn) : List Value := [.string (mk q.name), .int .i64 q.ty, .int .i64 q.cl]
def encQn (l : List Qn) : List Value := l.flatMap en3
theorem encQn_length (l : List Qn) : (encQn l).length = l.length * 3 := by
  induction l with
  | nil => rfl
  | cons q l ih =>
    have : encQn (q :: l) = en3 q ++ encQn l := rfl
    rw [this, List.length_append, ih]
    simp [en3]
    omega
def Qns (w : World) (v : Value) (l : List Qn) : Prop := SlC w 3 v l.length (encQn l)
theorem Qns.below {B : Nat} {w w' : World} {v : Value} {l : List Qn} (h : Qns w v l) (hb : Below B w w') (hB : w.heap.size ≤ B) : Qns w' v l := SlC.below h hb hB
def q0 : Qn := ⟨[], 0, 0⟩
theorem one_qs (l : List Qn) : ∀ u ∈ encQn l, u.oneCell' = true := by
  intro u hu
  obtain ⟨r, _, h⟩ := List.mem_flatMap.1 hu
  simp [en3] at h
  rcases h with rfl | rfl | rfl <;> rfl
theorem encQn_get : ∀ (l : List Qn) (j : Nat), j < l.length → (encQn l)[j * 3]? = some (.string (mk (l.getD j q0).name)) ∧ (encQn l)[j * 3 + 1]? = some (.int .i64 (l.getD j q0).ty) ∧ (encQn l)[j * 3 + 2]? = some (.int .i64 (l.getD j q0).cl)
  | [], j, h => by simp at h
  | p :: l, 0, _ => ⟨rfl, rfl, rfl⟩
  | p :: l, j + 1, h => by
    have := encQn_get l j (by simpa using h)
    have e : encQn (p :: l) = en3 p ++ encQn l := rfl
    have key : ∀ i, (encQn (p :: l))[(j + 1) * 3 + i]? = (encQn l)[j * 3 + i]? := fun i => by
      rw [e, List.getElem?_append_right (by simp [en3]; omega)]
      congr 1
      simp [en3]
      omega
    have k0 := key 0
    simp only [Nat.add_zero] at k0
    rw [k0, key 1, key 2]
    simpa using this
/-- the three cells of an element -/
def QnAt (w : World) (b off : Nat) (q : Qn) : Prop := w.cell? ⟨b, off, none⟩ = some (.string (mk q.name)) ∧ w.cell? ⟨b, off + 1, none⟩ = some (.int .i64 q.ty) ∧ w.cell? ⟨b, off + 2, none⟩ = some (.int .i64 q.cl)
theorem Qns.at {w : World} {a : Option Addr} {m cap : Nat} {l : List Qn} (h : Qns w (.slice a m cap) l) (hn : 0 < l.length) :
    ∃ b off, a = some ⟨b, off, none⟩ ∧ b < w.heap.size ∧ ∀ j, j < l.length → QnAt w b (off + j * 3) (l.getD j q0) := by
  obtain ⟨_, b, off, ha, hlt, h4⟩ := SlC.at h hn
  refine ⟨b, off, ha, hlt, fun j hj => ?_⟩
  obtain ⟨e0, e1, e2⟩ := encQn_get l j hj
  refine ⟨by rw [h4 (j * 3) (by omega), e0], ?_, ?_⟩
  · rw [Nat.add_assoc, h4 (j * 3 + 1) (by omega), e1]
  · rw [Nat.add_assoc, h4 (j * 3 + 2) (by omega), e2]

/-! ### a slice, and the type of its block -/
def SlT (w : World) (e sz : Nat) (v : Value) (n : Nat) (cs : List Value) : Prop := SlC w sz v n cs ∧ ∀ a m c, v = .slice (some a) m c → 0 < m → ∃ xs fr, w.heap[a.block]? = some (.cells xs e fr)
theorem SlT.below {w w' : World} {e sz n : Nat} {v : Value} {cs : List Value} (h : SlT w e sz v n cs) (hb : Below w.heap.size w w') : SlT w' e sz v n cs :=
  ⟨h.1.below hb (Nat.le_refl _), fun a m c hv hm => by
    obtain ⟨xs, fr, hx⟩ := h.2 a m c hv hm
    exact ⟨xs, fr, (hb.block _ (Array.getElem?_eq_some_iff.1 hx).1).trans hx⟩⟩
theorem SlT.nil (w : World) (e sz : Nat) : SlT w e sz (.slice none 0 0) 0 [] := ⟨SlC.nil _ _, fun a m c h => by cases h⟩
theorem SlT.of_owns {w : World} {base e sz n : Nat} {v : Value} {cs : List Value} (h : w.ownsRow base e sz v n cs) : SlT w e sz v n cs := by
  refine ⟨SlC.of_owns h, fun a m c hv hm => ?_⟩
  rcases h.2 with ⟨h1, _⟩ | ⟨g, cap, cur, h1, _, hg, _⟩
  · rw [hv] at h1; cases h1
  · rw [hv] at h1
    simp only [Value.slice.injEq, Option.some.injEq] at h1
    obtain ⟨rfl, _, _⟩ := h1
    exact ⟨_, _, hg⟩
theorem SlT.setRow {w : World} {e sz n g T : Nat} {v : Value} {cs : List Value} {old new : Array Value} {fr : Nat × Nat} (h : SlT w e sz v n cs) (hg : w.heap[g]? = some (.cells old T fr)) (hT : T ≠ e) : SlT (w.setRow g new) e sz v n cs := by
  obtain ⟨⟨h1, a, cap, rfl, h2, h3, hz, h4⟩, h5⟩ := h
  have key : ∀ x, a = some x → 0 < n → x.block ≠ g := fun x hx hn e' => by
    obtain ⟨xs, fr', hh⟩ := h5 x n cap (by rw [hx]) hn
    rw [e', hg] at hh
    simp only [Option.some.injEq, Obj.cells.injEq] at hh
    exact hT hh.2.1
  refine ⟨⟨h1, a, cap, rfl, h2, h3, hz, ?_⟩, fun x m c hv hm => ?_⟩
  · rcases h4 with h4 | ⟨b, off, ha, hlt, h4⟩
    · exact .inl h4
    · by_cases hn : n = 0
      · exact .inl hn
      · refine .inr ⟨b, off, ha, by simpa using hlt, fun j hj => ?_⟩
        rw [cell_setRow_other _ _ _ ⟨b, off + j, none⟩ (show b ≠ g from key _ ha (by omega))]
        exact h4 j hj
  · obtain ⟨xs, fr', hh⟩ := h5 x m c hv hm
    simp only [Value.slice.injEq] at hv
    obtain ⟨rfl, rfl, rfl⟩ := hv
    exact ⟨xs, fr', (setRow_other _ _ _ _ (key _ rfl hm)).trans hh⟩
theorem SlT.setCell {w : World} {e sz n g i T : Nat} {v u : Value} {cs : List Value} {old : Array Value} {fr : Nat × Nat} (h : SlT w e sz v n cs) (hg : w.heap[g]? = some (.cells old T fr)) (hT : T ≠ e) : SlT (w.setCell ⟨g, i, none⟩ u) e sz v n cs := by
  rw [setCell_eq_setRow w g i old T fr u hg]
  exact h.setRow hg hT
theorem slt_new (w : World) (sz n e : Nat) (cs : List Value) (h : cs.length = n * sz) (hn : n ≤ maxLen) : SlT (w.alloc (.cells cs.toArray e)) e sz (.slice (some ⟨w.heap.size, 0, none⟩) n n) n cs :=
  ⟨slc_new w sz n e cs h hn, fun a m c hv hm => by
    simp only [Value.slice.injEq, Option.some.injEq] at hv
    obtain ⟨rfl, _, _⟩ := hv
    exact ⟨_, _, World.alloc_heap_new _ _⟩⟩

/-- a message -/
structure Msg where
  id : Int
  resp : Bool
  op : Int
  auth : Bool
  cut : Bool
  des : Bool
  avail : Bool
  code : Int
  qs : List Qn
  an : List Rc.RR
  sv : List Rc.RR
  ad : List Rc.RR
  edns : Bool
  size : Int
/-- as cells, with the places of its lists -/
abbrev MC (m : Msg) (q a s d : Value) : Array Value := #[.int .i64 m.id, .bool m.resp, .int .i64 m.op, .bool m.auth, .bool m.cut, .bool m.des, .bool m.avail, .int .i64 m.code, q, a, s, d, .bool m.edns, .int .i64 m.size]
abbrev MV (m : Msg) (q a s d : Value) : Value := .agg (MC m q a s d)
structure MsgL (w : World) (m : Msg) (q a s d : Value) : Prop where
  qs : Qns w q m.qs
  an : RRs w a m.an
  sv : RRs w s m.sv
  ad : RRs w d m.ad
theorem MsgL.below {B : Nat} {w w' : World} {m : Msg} {q a s d : Value} (h : MsgL w m q a s d) (hb : Below B w w') (hB : w.heap.size ≤ B) : MsgL w' m q a s d := ⟨h.qs.below hb hB, h.an.below hb hB, h.sv.below hb hB, h.ad.below hb hB⟩
/-- the same, with the types of the lists' blocks -/
structure MsgT (w : World) (m : Msg) (q a s d : Value) : Prop where
  qs : SlT w 29 3 q m.qs.length (encQn m.qs)
  an : SlT w 43 5 a m.an.length (encR m.an)
  sv : SlT w 43 5 s m.sv.length (encR m.sv)
  ad : SlT w 43 5 d m.ad.length (encR m.ad)
theorem MsgT.lies {w : World} {m : Msg} {q a s d : Value} (h : MsgT w m q a s d) : MsgL w m q a s d := ⟨h.qs.1, h.an.1, h.sv.1, h.ad.1⟩
theorem MsgT.below {w w' : World} {m : Msg} {q a s d : Value} (h : MsgT w m q a s d) (hb : Below w.heap.size w w') : MsgT w' m q a s d := ⟨h.qs.below hb, h.an.below hb, h.sv.below hb, h.ad.below hb⟩
theorem MsgT.setRow {w : World} {m : Msg} {q a s d : Value} {g : Nat} {old new : Array Value} {fr : Nat × Nat} (h : MsgT w m q a s d) (hg : w.heap[g]? = some (.cells old 34 fr)) : MsgT (w.setRow g new) m q a s d :=
  ⟨h.qs.setRow hg (by decide), h.an.setRow hg (by decide), h.sv.setRow hg (by decide), h.ad.setRow hg (by decide)⟩
/-- it returns a message, in new memory -/
def RetM (w : World) (m : Msg) (e : Ending) (w' : World) : Prop := ∃ q a s d, e = .returned (MV m q a s d) ∧ MsgT w' m q a s d ∧ Below w.heap.size w w'

def askN (id : Int) (q : Qn) : Msg := ⟨id, false, 0, false, false, false, false, 0, [q], [], [], [], true, 1232⟩

theorem undMsg : ∃ fs, Tryz.prog.underlying 34 = some (.struct fs) := ⟨_, Tryz.underlying34⟩
theorem infoMsg : (Tryz.prog.info? 34).map (·.size) = some 14 := by kernel_rfl
/-- where a function's result lies in a variable of its own -/
theorem ret_msg {fn : Func} {p : Tmp} {a : Act} {W : World} {R : Ending → World → Prop} {m : Msg} {q an s d : Value} {g : Nat} (hr : fn.results = #[.cell p 34]) (hp : a.tmps.getD p undef = .pointer (some ⟨g, 0, none⟩)) (hd : a.defers = [])
    (hg : W.heap[g]? = some (.cells (MC m q an s d) 34 (0, 0))) (h : R (.returned (MV m q an s d)) W) : bodyPost Tryz.prog fn R Exit.ret a W := by
  obtain ⟨fs, hu⟩ := undMsg
  exact bodyPost_ret (results_cell_row hr _ _ g _ _ (0, 0) _ hp hg hu rfl infoMsg) hd h
theorem heap_new1 (w : World) (o1 o2 : Obj) : ((w.alloc o1).alloc o2).heap[w.heap.size + 1]? = some o2 := by
  have := World.alloc_heap_new (w.alloc o1) o2
  rwa [World.size_alloc] at this

set_option maxRecDepth 100000 in
set_option maxHeartbeats 1000000 in
theorem Ask_any (id : Int) (q : Qn) (w : World) :
    Calls Tryz.prog 34 #[.int .i64 id, .agg #[.string (mk q.name), .int .i64 q.ty, .int .i64 q.cl]] w (RetM w (askN (bits .and .i64 id 65535) q)) := by
  obtain ⟨qn, qt, qc⟩ := q
  generalize hid : bits .and .i64 id 65535 = i2
  go_enter Tryz.func34, Tryz.ntmps34
  go_wp2_with fail
  refine ret_msg (m := askN i2 ⟨qn, qt, qc⟩) rfl rfl rfl (heap_old (heap_new1 _ _ _) _) ⟨_, _, _, _, rfl, ⟨?_, SlT.nil _ _ _, SlT.nil _ _ _, SlT.nil _ _ _⟩, ?_⟩
  · have := slt_new ((w.alloc (.cells #[.string (mk qn), .int .i64 qt, .int .i64 qc] 29)).alloc (.cells (MC (askN i2 ⟨qn, qt, qc⟩) (.slice (some ⟨w.heap.size + 1 + 1, 0, none⟩) 1 1) (.slice none 0 0) (.slice none 0 0) (.slice none 0 0)) 34)) 3 1 29 (en3 ⟨qn, qt, qc⟩) rfl (by decide)
    rw [World.size_alloc, World.size_alloc] at this
    exact this
  · exact (((Below.refl _ w).alloc (Nat.le_refl _) _).alloc (by simp) _).alloc (by simp; omega) _

/-! ### append to an empty slice that was built just now -/
theorem run_app0 {P : Program} {t e sz bytes : Nat} (ei : EI P t e sz bytes) (w : World) (ty g : Nat) {src : Value} {m : Nat} {news : List Value}
    (hsrc : SlC w sz src m news) (h1 : ∀ u ∈ news, u.oneCell' = true) (h63 : m ≤ maxLen) (hbytes : m * bytes ≤ 140737488355328) :
    ∃ v' w', (Builtin.append_ #[t, t] ty #[.slice (some ⟨g, 0, none⟩) 0 0, src]).run P w = .ok v' w' ∧ (∃ a c, v' = .slice a m c) ∧ SlT w' e sz v' m news ∧ Below w.heap.size w w' := by
  obtain ⟨i, z, ht, hi, hz, hsz, hby, hzs, hpos⟩ := ei
  obtain ⟨hl, a, cap, rfl, hm, hcm, hz0, hc⟩ := hsrc
  by_cases h0 : m = 0
  · subst h0
    have hn : news = [] := List.eq_nil_of_length_eq_zero (by simpa using hl)
    subst hn
    have hrun : (Builtin.append_ #[t, t] ty #[.slice (some ⟨g, 0, none⟩) 0 0, .slice a 0 cap]).run P w = .ok (.slice (some ⟨g, 0, none⟩) 0 0) w := by
      cases a with
      | some x =>
        have hfc := run_firstCells_some (P := P) w i.size 0 x 0 cap [] (by simp) (fun j u h => by simp at h)
        simp [Builtin.append_, run_underlying ht, sizeOf, typeInfo, hi, Builtin.lenOf, hfc, storeCells]
      | none =>
        obtain rfl := hz0 rfl
        have hfc : (Builtin.firstCells i.size 0 (.slice none 0 0)).run P w = .ok #[] w := by simp [Builtin.firstCells]
        simp [Builtin.append_, run_underlying ht, sizeOf, typeInfo, hi, Builtin.lenOf, hfc, storeCells]
    exact ⟨_, _, hrun, ⟨_, _, rfl⟩, ⟨(show SlC w sz _ 0 [] from ⟨by simp, some ⟨g, 0, none⟩, 0, rfl, Nat.le_refl _, Nat.zero_le _, fun h => (by cases h), Or.inl rfl⟩), fun a m c hv hm => by cases hv; omega⟩, Below.refl _ _⟩
  · cases a with
    | none => have := hz0 rfl; omega
    | some x =>
      have hnews : ∀ j u, news[j]? = some u → w.cell? (x.add j) = some u := by
        intro j u hu
        have hj : j < news.length := (List.getElem?_eq_some_iff.1 hu).1
        rcases hc with rfl | ⟨b, off, hx, _, hcell⟩
        · omega
        · simp only [Option.some.injEq] at hx
          subst hx
          rw [Addr.add_lit, hcell j (by omega)]
          exact hu
      obtain ⟨v', w', hrun, ho, hg⟩ := run_append_arg_grows (P := P) (w := w) t ty e i z sz bytes ht hi hz hsz hby hzs hpos ⟨g, 0, none⟩ 0 0 [] (by simp) (fun j u h => by simp at h) x m cap news hl hnews (by omega) (by omega) (by rw [Nat.zero_add]; exact hbytes)
      have hs := SlT.of_owns ho
      rw [Nat.zero_add, List.nil_append] at hs
      obtain ⟨a', c', hv', _, _⟩ := hs.1.slice
      exact ⟨v', w', hrun, ⟨a', c', hv'⟩, hs, ⟨hg.os, hg.tape, hg.output, hg.size, fun k hk => hg.block k hk (by simp)⟩⟩
theorem wp_app0 {P : Program} {t e sz bytes : Nat} (ei : EI P t e sz bytes) {w : World} {ops : Array Oper} {rest : List Oper} {o : Oper} {a : Act} {Q : Exit → Act → World → Prop} (s x : Operand) (hgd : o.guard = none)
    (ho : o.op = .call { callee := .builtin .append, args := #[s, x], argTypes := #[t, t] }) (g : Nat) {src : Value} {m : Nat} {news : List Value} (hs : a.eval s = .slice (some ⟨g, 0, none⟩) 0 0) (hx : a.eval x = src)
    (hsrc : SlC w sz src m news) (h1 : ∀ u ∈ news, u.oneCell' = true) (h63 : m ≤ maxLen) (hbytes : m * bytes ≤ 140737488355328)
    (h : ∀ a' c' w', SlT w' e sz (.slice a' m c') m news → Below w.heap.size w w' → wpList P ops Q rest (a.put o.dst (.slice a' m c')) w') : wpList P ops Q (o :: rest) a w :=
  wpList_plain hgd fun K hK => by
    obtain ⟨v', w', hr, ⟨a', c', rfl⟩, h2, h3⟩ := run_app0 ei w o.type g hsrc h1 h63 hbytes
    unfold Oper.wp execOp
    simp only [ho, resolve, invoke, builtin, Sem.run_bind, Sem.run_pure, Result.andThen_ok, List.map_toArray, List.map_cons, List.map_nil, hs, hx, hr]
    exact hK _ _ (h a' c' w' h2 h3)

theorem infoQn : (Tryz.prog.info? 29).map (fun i => (i.zero, i.size, i.bytes)) = some (some (.agg #[.string ⟨#[]⟩, .int .i64 0, .int .i64 0]), 3, 32) := by kernel_rfl
theorem eiQn : EI Tryz.prog 31 29 3 32 := ei_of Tryz.underlying31 infoQn rfl (by decide)

/-! ### slices.Clone -/
theorem run_eql_sliceNil {P : Program} (t e : TypeId) (a : Option Addr) (l c : Nat) (h : P.underlying t = some (.slice e)) (w : World) : (binOp .eql t (.slice a l c) (.slice none 0 0)).run P w = .ok (.bool a.isNone) w := by
  have h1 : ∀ d : Nat, (Op.equalIn (d + 1) t (.slice a l c) (.slice none 0 0)).run P w = .ok a.isNone w := fun d => by
    cases a <;> simp [Op.equalIn, run_underlying h]
  simp only [binOp]
  simp [Op.equal, Op.maxDepth, h1 9999]
set_option maxRecDepth 100000 in
set_option maxHeartbeats 1000000 in
theorem cloneQ_any (a : Option Addr) (cap : Nat) (l : List Qn) (w : World) (hst : Qns w (.slice a l.length cap) l) (hl : l.length ≤ 1000000) :
    Calls Tryz.prog 87 #[.slice a l.length cap] w fun e w' => ∃ a' c', e = .returned (.slice a' l.length c') ∧ SlT w' 29 3 (.slice a' l.length c') l.length (encQn l) ∧ Below w.heap.size w w' := by
  cases a with
  | none =>
    obtain ⟨_, h1, _⟩ := hst.cap
    have hc : cap = 0 := by
      obtain ⟨_, a, c, hv, _, _, hz, _⟩ := hst
      simp only [Value.slice.injEq] at hv
      obtain ⟨rfl, _, rfl⟩ := hv
      exact hz rfl
    have hlen : l.length = 0 := by omega
    generalize hN : l.length = N at *
    subst hlen hc
    have HST := Go.Lib.hid hst
    have HN := Go.Lib.hid hN
    clear hst hN
    have hnil := run_eql_sliceNil 31 29 none 0 0 Tryz.underlying31 w
    simp only [Option.isNone_none] at hnil
    go_enter Tryz.func87, Tryz.ntmps87
    go_wp2_with fail
    go_ret
    have hz := HST.out
    unfold Qns at hz
    rw [HN.out] at hz
    exact ⟨none, 0, rfl, ⟨hz, fun a m c hv hm => by cases hv⟩, Below.refl _ _⟩
  | some x =>
    have hone := one_qs l
    have hst2 := hst.below ((Below.refl _ w).alloc (Nat.le_refl _) (.cells #[] 29)) (Nat.le_refl _)
    unfold Qns at hst2
    have hnil := run_eql_sliceNil 31 29 (some x) l.length cap Tryz.underlying31 w
    simp only [Option.isNone_some] at hnil
    have HST := Go.Lib.hid hst
    have HST2 := Go.Lib.hid hst2
    have HONE := Go.Lib.hid hone
    clear hst hst2 hone
    go_enter Tryz.func87, Tryz.ntmps87
    go_wp2_with (at_builtin; refine wp_app0 eiQn (.tmp 5) (.tmp 6) rfl rfl w.heap.size rfl rfl HST2.out HONE.out (by unfold maxLen; omega) (by omega) (fun a' c' w' h1 h2 => ?_); have H1 := Go.Lib.hid h1; clear h1; have H2 := Go.Lib.hid h2; clear h2)
    go_ret
    exact ⟨a', c', rfl, H1.out, ((Below.refl _ w).alloc (Nat.le_refl _) _).trans (H2.out.mono (by simp))⟩
set_option maxRecDepth 100000 in
set_option maxHeartbeats 1000000 in
theorem cloneR_any (a : Option Addr) (cap : Nat) (l : List Rc.RR) (w : World) (hst : RRs w (.slice a l.length cap) l) (hl : l.length ≤ 1000000) :
    Calls Tryz.prog 58 #[.slice a l.length cap] w fun e w' => ∃ a' c', e = .returned (.slice a' l.length c') ∧ SlT w' 43 5 (.slice a' l.length c') l.length (encR l) ∧ Below w.heap.size w w' := by
  cases a with
  | none =>
    obtain ⟨_, h1, _⟩ := hst.cap
    have hc : cap = 0 := by
      obtain ⟨_, a, c, hv, _, _, hz, _⟩ := hst
      simp only [Value.slice.injEq] at hv
      obtain ⟨rfl, _, rfl⟩ := hv
      exact hz rfl
    have hlen : l.length = 0 := by omega
    generalize hN : l.length = N at *
    subst hlen hc
    have HST := Go.Lib.hid hst
    have HN := Go.Lib.hid hN
    clear hst hN
    have hnil := run_eql_sliceNil 32 43 none 0 0 Tryz.underlying32 w
    simp only [Option.isNone_none] at hnil
    go_enter Tryz.func58, Tryz.ntmps58
    go_wp2_with fail
    go_ret
    have hz := HST.out
    unfold RRs at hz
    rw [HN.out] at hz
    exact ⟨none, 0, rfl, ⟨hz, fun a m c hv hm => by cases hv⟩, Below.refl _ _⟩
  | some x =>
    have hone := one_rrs l
    have hst2 := hst.below ((Below.refl _ w).alloc (Nat.le_refl _) (.cells #[] 43)) (Nat.le_refl _)
    unfold RRs at hst2
    have hnil := run_eql_sliceNil 32 43 (some x) l.length cap Tryz.underlying32 w
    simp only [Option.isNone_some] at hnil
    have HST := Go.Lib.hid hst
    have HST2 := Go.Lib.hid hst2
    have HONE := Go.Lib.hid hone
    clear hst hst2 hone
    go_enter Tryz.func58, Tryz.ntmps58
    go_wp2_with (at_builtin; refine wp_app0 eiRR (.tmp 5) (.tmp 6) rfl rfl w.heap.size rfl rfl HST2.out HONE.out (by unfold maxLen; omega) (by omega) (fun a' c' w' h1 h2 => ?_); have H1 := Go.Lib.hid h1; clear h1; have H2 := Go.Lib.hid h2; clear h2)
    go_ret
    exact ⟨a', c', rfl, H1.out, ((Below.refl _ w).alloc (Nat.le_refl _) _).trans (H2.out.mono (by simp))⟩
end Go.Proofs.YtkpcmnckdappnaaGreat

/- The test that effects wait for one another, by bits (each operation's ancestors once): for regions with many calls. No conditions. -/
namespace Go.Mix
open Go
section
variable {P : Program} {ops : Array Oper} {md : Region.Mode}

theorem dep_mono : ∀ (n : Nat) (j i : Nat), dep md ops n j i = true → ∀ m, n ≤ m → dep md ops m j i = true
  | 0, _, _, h, _, _ => by simp [dep] at h
  | n + 1, j, i, h, m, hm => by
    obtain ⟨m, rfl⟩ : ∃ k, m = k + 1 := ⟨m - 1, by omega⟩
    unfold dep at h ⊢
    cases ho : ops[j]? with
    | none => rw [ho] at h; simp at h
    | some o =>
      rw [ho] at h
      simp only [Array.any_eq_true'] at h ⊢
      obtain ⟨e, he, hb⟩ := h
      refine ⟨e, he, ?_⟩
      rw [Bool.and_eq_true, Bool.or_eq_true] at hb ⊢
      exact ⟨hb.1, hb.2.imp id (fun h => dep_mono n e.on i h m (by omega))⟩

/-- an operation's ancestors, as bits -/
def ancStep (md : Region.Mode) (acc : List Nat) (o : Oper) : Nat := o.after.toList.foldl (fun m e => if Region.binds md e then m ||| ((1 <<< e.on) ||| acc.getD e.on 0) else m) 0
def ancAll (md : Region.Mode) : List Oper → List Nat → List Nat
  | [], acc => acc
  | o :: l, acc => ancAll md l (acc ++ [ancStep md acc o])

theorem fold_bit (acc : List Nat) : ∀ (l : List Edge) (m i : Nat), (l.foldl (fun m e => if Region.binds md e then m ||| ((1 <<< e.on) ||| acc.getD e.on 0) else m) m).testBit i = true →
    m.testBit i = true ∨ ∃ e ∈ l, Region.binds md e = true ∧ (e.on = i ∨ (acc.getD e.on 0).testBit i = true)
  | [], m, i, h => .inl h
  | e :: l, m, i, h => by
    rcases fold_bit acc l _ i h with h1 | ⟨e', he', h2⟩
    · simp only at h1
      by_cases hb : Region.binds md e = true
      · rw [if_pos hb] at h1
        simp only [Nat.testBit_or, Bool.or_eq_true] at h1
        rcases h1 with h1 | h1 | h1
        · exact .inl h1
        · refine .inr ⟨e, by simp, hb, .inl ?_⟩
          rw [Nat.one_shiftLeft, Nat.testBit_two_pow] at h1
          simpa using h1
        · exact .inr ⟨e, by simp, hb, .inr h1⟩
      · rw [if_neg hb] at h1
        exact .inl h1
    · exact .inr ⟨e', by simp [he'], h2⟩

def AncOk (md : Region.Mode) (ops : Array Oper) (acc : List Nat) : Prop := ∀ j i, (acc.getD j 0).testBit i = true → j < acc.length ∧ dep md ops (j + 1) j i = true
theorem anc_step {acc : List Nat} (h : AncOk md ops acc) {o : Oper} (ho : ops[acc.length]? = some o) : AncOk md ops (acc ++ [ancStep md acc o]) := by
  intro j i hb
  rcases Nat.lt_trichotomy j acc.length with h1 | h1 | h1
  · rw [List.getD_eq_getElem?_getD, List.getElem?_append_left h1, ← List.getD_eq_getElem?_getD] at hb
    have := h j i hb
    exact ⟨by simp; omega, this.2⟩
  · subst h1
    have hg : (acc ++ [ancStep md acc o]).getD acc.length 0 = ancStep md acc o := by simp
    rw [hg] at hb
    refine ⟨by simp, ?_⟩
    rcases fold_bit acc _ _ i hb with h2 | ⟨e, he, h2, h3⟩
    · simp at h2
    · unfold dep
      rw [ho]
      simp only [Array.any_eq_true']
      refine ⟨e, by simpa using he, ?_⟩
      rw [Bool.and_eq_true, Bool.or_eq_true]
      refine ⟨h2, ?_⟩
      rcases h3 with h3 | h3
      · exact .inl (by simpa using h3)
      · obtain ⟨h4, h5⟩ := h e.on i h3
        exact .inr (dep_mono _ _ _ h5 _ h4)
  · rw [List.getD_eq_getElem?_getD, List.getElem?_eq_none (by simp; omega)] at hb
    simp at hb
theorem anc_all : ∀ (l : List Oper) (acc : List Nat), AncOk md ops acc → (∀ j, l[j]? = ops[acc.length + j]?) → AncOk md ops (ancAll md l acc)
  | [], _, h, _ => h
  | o :: l, acc, h, hl => by
    have h0 : ops[acc.length]? = some o := by simpa using (hl 0).symm
    refine anc_all l _ (anc_step h h0) fun j => ?_
    have := hl (j + 1)
    simp only [List.getElem?_cons_succ] at this
    rw [this, List.length_append, List.length_singleton]
    congr 1
    omega

def chainC (md : Region.Mode) (ops : Array Oper) (Es : List Nat) : Bool :=
  let A := ancAll md ops.toList []
  Es.all fun i => Es.all fun j => i == j || (A.getD i 0).testBit j || (A.getD j 0).testBit i
theorem chainC_of {Es : List Nat} (h : chainC md ops Es = true) : Chain md ops (fun k => Es.contains k) ops.size := by
  have hA : AncOk md ops (ancAll md ops.toList []) := anc_all ops.toList [] (fun j i h => by simp at h) (fun j => by simp)
  unfold chainC at h
  simp only [List.all_eq_true] at h
  intro i j hi hj hij h1 h2
  have h3 := h i (by simpa using h1) j (by simpa using h2)
  simp only [Bool.or_eq_true, beq_iff_eq] at h3
  rcases h3 with (h3 | h3) | h3
  · exact absurd h3 hij
  · exact .inl (dep_mono _ _ _ (hA i j h3).2 _ hi)
  · exact .inr (dep_mono _ _ _ (hA j i h3).2 _ hj)

theorem wp_region_mixC {id : Nat} {l : List Oper} {Es : List Nat} (C : World → Prop) {Q : Exit → Act → World → Prop} {a : Act} {w : World} (hm : P.follows .mixedOrders = true)
    (hB : (Region.lexB .any l.toArray && chainC .any l.toArray Es) = true) (hC : C w.drew)
    (h : Nonempty (Subtype C) → MixG P l.toArray (fun k => Es.contains k) C (fun a' w' => Q .normal a' w') 0 l a w.drew) : (Code.region id l.toArray true).wp P Q a w := by
  simp only [Region.lexB, Bool.and_eq_true] at hB
  refine wp_region_any hm (wpAny_of_wpAnyM (Q := fun a' w' => Q .normal a' w') (C := C) (E := fun k => Es.contains k) (fun _ _ _ h => h) _ _ _ _ hC ?_)
  have := wpAnyM_lex (P := P) (C := C) (Q := fun a' w' => Q .normal a' w') (md := .any) (chainC_of hB.2) hB.1.1 l 0 (Array.replicate l.toArray.size false) a w.drew (by simp) (Down.start _) hC (by simpa using hB.1.2) (h ⟨⟨_, hC⟩⟩).out
  simpa using this
end
end Go.Mix

/- A region whose order is left open, with several effects that need not wait for one another, each of which may lean on what the effects whose values it takes have left (rely and guarantee): walked once, in the order of the text. No conditions beside. -/
namespace Go.Mix
open Go
section
variable {P : Program} {ops : Array Oper} {md : Region.Mode} {E : Nat → Bool} {G : World → World → Prop} {w0 : World} {F : Nat → Value → World → Prop} {Sp : Nat → Value → Prop} {D : Nat → Act → World → Prop}

/-- an operation's need says nothing of what it does not look at -/
def DPut (ops : Array Oper) (D : Nat → Act → World → Prop) : Prop := ∀ (i : Nat) (o : Oper) (x : Option Tmp), ops[i]? = some o → (∀ d, x = some d → d ∉ o.looksAt ops) → ∀ (a : Act) (u : Value) (w : World), D i (a.put x u) w ↔ D i a w

/-- what is known of the effects that have been made -/
structure Known (md : Region.Mode) (ops : Array Oper) (E : Nat → Bool) (G : World → World → Prop) (F : Nat → Value → World → Prop) (D : Nat → Act → World → Prop) (Inv : Array Bool → Act → World → Prop) : Prop where
  keep : ∀ L a w w', Inv L a w → G w w' → Inv L a w'
  made : ∀ L a w i o v, ops[i]? = some o → i ∈ Region.ready md ops L → Down md ops L → E i = true → Inv L a w → F i v w → Inv (L.setIfInBounds i true) (a.put o.dst v) w
  quiet : ∀ L a w i o v, ops[i]? = some o → i ∈ Region.ready md ops L → Down md ops L → (E i = false ∨ Region.wanted o (yielded ops a.tmps) = false) → Inv L a w → Inv (L.setIfInBounds i true) (a.put o.dst v) w
  need : ∀ L a w i o, ops[i]? = some o → i ∈ Region.ready md ops L → Region.wanted o (yielded ops a.tmps) = true → Inv L a w → D i a w

/-- in whatever world of the class: the effect stays in it, and leaves its fact -/
def EffD (P : Program) (G : World → World → Prop) (w0 : World) (Di : World → Prop) (Fi : Value → World → Prop) (x : Sem Next) : Prop := ∀ w, G w0 w → Di w → EffR P (fun v w' => G w w' ∧ Fi v w') (x.run P w)

/-- operation i comes up; the facts so far: Φ -/
def rOpD (P : Program) (ops : Array Oper) (E : Nat → Bool) (G : World → World → Prop) (w0 : World) (F : Nat → Value → World → Prop) (Sp : Nat → Value → Prop) (D : Nat → Act → World → Prop) (i : Nat) (K : Act → (World → Prop) → Prop) (a : Act) (Φ : World → Prop) : Prop :=
  match ops[i]? with
  | none => K a Φ
  | some o =>
    if Region.wanted o (yielded ops a.tmps) then
      if E i then EffD P G w0 (D i a) (fun v w => Sp i v ∧ F i v w) (execOp a.eval o) ∧ ∀ v, Sp i v → K (a.put o.dst v) (fun w => Φ w ∧ F i v w)
      else ∃ v, (∀ w2, G w0 w2 → (execOp a.eval o).run P w2 = .ok (.value v) w2) ∧ K (a.put o.dst v) Φ
    else K (a.put o.dst undef) Φ

theorem rOpD_mono {i : Nat} {K K' : Act → (World → Prop) → Prop} {a : Act} {Φ : World → Prop} (h : ∀ a Φ, K a Φ → K' a Φ) (hh : rOpD P ops E G w0 F Sp D i K a Φ) : rOpD P ops E G w0 F Sp D i K' a Φ := by
  unfold rOpD at *
  split
  · rename_i ho; simp only [ho] at hh; exact h _ _ hh
  · rename_i o ho
    simp only [ho] at hh
    split
    · rename_i hw
      simp only [hw, if_true] at hh
      split
      · rename_i hE
        simp only [hE, if_true] at hh
        exact ⟨hh.1, fun v hv => h _ _ (hh.2 v hv)⟩
      · rename_i hE
        simp only [hE] at hh
        obtain ⟨v, h1, h2⟩ := hh
        exact ⟨v, h1, h _ _ h2⟩
    · rename_i hw
      simp only [hw] at hh
      exact h _ _ hh

theorem rOpD_anti {i : Nat} {K : Act → (World → Prop) → Prop} (hK : Anti K) : Anti (rOpD P ops E G w0 F Sp D i K) := by
  intro a Φ Φ' h hi
  unfold rOpD at *
  split
  · rename_i ho; simp only [ho] at h; exact hK _ _ _ h hi
  · rename_i o ho
    simp only [ho] at h
    split
    · rename_i hw
      simp only [hw, if_true] at h
      split
      · rename_i hE
        simp only [hE, if_true] at h
        exact ⟨h.1, fun v hv => hK _ _ _ (h.2 v hv) fun w hw => ⟨hi w hw.1, hw.2⟩⟩
      · rename_i hE
        simp only [hE] at h
        obtain ⟨v, h1, h2⟩ := h
        exact ⟨v, h1, hK _ _ _ h2 hi⟩
    · rename_i hw
      simp only [hw] at h
      exact hK _ _ _ h hi

/-- what operation i does, apart from its way through 'match' -/
def rKindD (P : Program) (ops : Array Oper) (E : Nat → Bool) (G : World → World → Prop) (w0 : World) (F : Nat → Value → World → Prop) (Sp : Nat → Value → Prop) (D : Nat → Act → World → Prop) (i : Nat) (o : Oper) (a : Act) (S : Value → Prop) (T : Value → World → Prop) : Prop :=
  (Region.wanted o (yielded ops a.tmps) = true ∧ E i = true ∧ EffD P G w0 (D i a) (fun v w => Sp i v ∧ F i v w) (execOp a.eval o) ∧ (S = Sp i) ∧ T = F i) ∨
  (Region.wanted o (yielded ops a.tmps) = true ∧ E i = false ∧ ∃ v, (∀ w2, G w0 w2 → (execOp a.eval o).run P w2 = .ok (.value v) w2) ∧ (S = fun u => u = v) ∧ T = fun _ _ => True) ∨
  (Region.wanted o (yielded ops a.tmps) = false ∧ (S = fun u => u = undef) ∧ T = fun _ _ => True)

theorem rOpD_kind {i : Nat} {o : Oper} (hi : ops[i]? = some o) {K : Act → (World → Prop) → Prop} (hK : Anti K) {a : Act} {Φ : World → Prop} :
    rOpD P ops E G w0 F Sp D i K a Φ ↔ ∃ S T, rKindD P ops E G w0 F Sp D i o a S T ∧ ∀ v, S v → K (a.put o.dst v) (fun w => Φ w ∧ T v w) := by
  unfold rOpD rKindD
  rw [hi]
  simp only
  constructor
  · intro h
    split at h
    · rename_i hw
      split at h
      · rename_i hE
        exact ⟨_, _, .inl ⟨hw, hE, h.1, rfl, rfl⟩, fun v hv => h.2 v hv⟩
      · rename_i hE
        obtain ⟨v, h1, h2⟩ := h
        exact ⟨_, _, .inr (.inl ⟨hw, by simpa using hE, v, h1, rfl, rfl⟩), fun u hu => by subst hu; exact hK _ _ _ h2 fun w hw => hw.1⟩
    · rename_i hw
      exact ⟨_, _, .inr (.inr ⟨by simpa using hw, rfl, rfl⟩), fun u hu => by subst hu; exact hK _ _ _ h fun w hw => hw.1⟩
  · rintro ⟨S, T, (⟨hw, hE, he, rfl, rfl⟩ | ⟨hw, hE, v, hv, rfl, rfl⟩ | ⟨hw, rfl, rfl⟩), hk⟩
    · simp only [hw, hE, if_true]
      exact ⟨he, fun v hv => hk v hv⟩
    · simp only [hw, hE, if_true, Bool.false_eq_true, if_false]
      exact ⟨v, hv, hK _ _ _ (hk v rfl) fun w hw => ⟨hw, trivial⟩⟩
    · simp only [hw, Bool.false_eq_true, if_false]
      exact hK _ _ _ (hk _ rfl) fun w hw => ⟨hw, trivial⟩

theorem rKindD_put (hDp : DPut ops D) {i : Nat} {o : Oper} (hi : ops[i]? = some o) (hsel : ∀ cs b, o.op ≠ .select cs b) {x : Option Tmp} (h1 : ∀ d, x = some d → d ∉ o.looksAt ops) {a : Act} {u : Value} {S : Value → Prop} {T : Value → World → Prop} :
    rKindD P ops E G w0 F Sp D i o (a.put x u) S T ↔ rKindD P ops E G w0 F Sp D i o a S T := by
  have hd : D i (a.put x u) = D i a := funext fun w => propext (hDp i o x hi h1 a u w)
  unfold rKindD
  rw [execOp_put (ops := ops) o hsel a x u h1, wanted_put o a x u h1, hd]

theorem rKindD_inh (hS : ∀ i, ∃ v, Sp i v) {i : Nat} {o : Oper} {a : Act} {S : Value → Prop} {T : Value → World → Prop} (h : rKindD P ops E G w0 F Sp D i o a S T) : ∃ v, S v := by
  rcases h with ⟨_, _, _, rfl, _⟩ | ⟨_, _, v, _, rfl, _⟩ | ⟨_, rfl, _⟩
  · exact hS i
  · exact ⟨v, rfl⟩
  · exact ⟨_, rfl⟩
theorem rKindD_one {i : Nat} {o : Oper} {a : Act} {S S' : Value → Prop} {T T' : Value → World → Prop} (hr : G w0 w0) (h : rKindD P ops E G w0 F Sp D i o a S T) (h' : rKindD P ops E G w0 F Sp D i o a S' T') : S = S' ∧ T = T' := by
  rcases h with ⟨a1, a2, _, rfl, rfl⟩ | ⟨a1, a2, v, a3, rfl, rfl⟩ | ⟨a1, rfl, rfl⟩ <;> rcases h' with ⟨b1, b2, _, rfl, rfl⟩ | ⟨b1, b2, v', b3, rfl, rfl⟩ | ⟨b1, rfl, rfl⟩
  · exact ⟨rfl, rfl⟩
  · rw [a2] at b2; cases b2
  · rw [a1] at b1; cases b1
  · rw [a2] at b2; cases b2
  · have := (a3 w0 hr).symm.trans (b3 w0 hr)
    simp only [Result.ok.injEq, Next.value.injEq, and_true] at this
    subst this
    exact ⟨rfl, rfl⟩
  · rw [a1] at b1; cases b1
  · rw [a1] at b1; cases b1
  · rw [a1] at b1; cases b1
  · exact ⟨rfl, rfl⟩

theorem rOpD_comm (hDp : DPut ops D) (hS : ∀ i, ∃ v, Sp i v) {i j : Nat} {oi oj : Oper} (hr : G w0 w0) (hi : ops[i]? = some oi) (hj : ops[j]? = some oj) (hap : oi.apart ops oj = true)
    (hsi : ∀ cs b, oi.op ≠ .select cs b) (hsj : ∀ cs b, oj.op ≠ .select cs b) {K : Act → (World → Prop) → Prop} (hK : Anti K) {a : Act} {Φ : World → Prop}
    (h : rOpD P ops E G w0 F Sp D i (rOpD P ops E G w0 F Sp D j K) a Φ) : rOpD P ops E G w0 F Sp D j (rOpD P ops E G w0 F Sp D i K) a Φ := by
  obtain ⟨h1, h2, h3⟩ := Oper.apart_spec hap
  rw [rOpD_kind hi (rOpD_anti hK)] at h
  obtain ⟨S, T, hk, h⟩ := h
  obtain ⟨v0, hv0⟩ := rKindD_inh hS hk
  have hj0 := h v0 hv0
  rw [rOpD_kind hj hK] at hj0
  obtain ⟨S', T', hk', _⟩ := hj0
  rw [rKindD_put hDp hj hsj h1] at hk'
  rw [rOpD_kind hj (rOpD_anti hK)]
  refine ⟨S', T', hk', fun u hu => ?_⟩
  rw [rOpD_kind hi hK]
  refine ⟨S, T, (rKindD_put hDp hi hsi h3).2 hk, fun v hv => ?_⟩
  have h4 := h v hv
  rw [rOpD_kind hj hK] at h4
  obtain ⟨S2, T2, hk2, h5⟩ := h4
  rw [rKindD_put hDp hj hsj h1] at hk2
  obtain ⟨rfl, rfl⟩ := rKindD_one hr hk' hk2
  have h6 := h5 u hu
  rw [Act.put_comm a v u h2] at h6
  exact hK _ _ _ h6 fun w hw => ⟨⟨hw.1.1, hw.2⟩, hw.1.2⟩

/-! ### any order -/
def wpAnyD (P : Program) (md : Region.Mode) (ops : Array Oper) (E : Nat → Bool) (G : World → World → Prop) (w0 : World) (F : Nat → Value → World → Prop) (Sp : Nat → Value → Prop) (D : Nat → Act → World → Prop) (Q : Act → World → Prop) (tl : Nat) : Nat → Array Bool → Act → (World → Prop) → Prop
  | 0, listed, a, Φ => Region.ready md ops listed = [] ∧ ∀ w, G w0 w → Φ w → Q a w
  | fuel + 1, listed, a, Φ =>
    (Region.ready md ops listed = [] → ∀ w, G w0 w → Φ w → Q a w) ∧
    ∀ i ∈ Region.ready md ops listed, (i = tl → Region.ready md ops (listed.setIfInBounds i true) = [] ∧ ∀ w, G w0 w → Φ w → tOp P ops i Q a w) ∧
      (i ≠ tl → rOpD P ops E G w0 F Sp D i (wpAnyD P md ops E G w0 F Sp D Q tl fuel (listed.setIfInBounds i true)) a Φ)

theorem wpAnyD_anti {Q : Act → World → Prop} {tl : Nat} : ∀ (fuel : Nat) (listed : Array Bool), Anti (wpAnyD P md ops E G w0 F Sp D Q tl fuel listed)
  | 0, _ => fun _ _ _ h hi => ⟨h.1, fun w hg hw => h.2 w hg (hi w hw)⟩
  | fuel + 1, _ => fun _ _ _ h hi => ⟨fun h0 w hg hw => h.1 h0 w hg (hi w hw), fun i hir => ⟨fun hit => ⟨((h.2 i hir).1 hit).1, fun w hg hw => ((h.2 i hir).1 hit).2 w hg (hi w hw)⟩,
      fun hit => rOpD_anti (wpAnyD_anti fuel _) _ _ _ ((h.2 i hir).2 hit) hi⟩⟩

theorem wpAny_of_wpAnyD {Q : Act → World → Prop} {Q' : Exit → Act → World → Prop} {tl : Nat} {Inv : Array Bool → Act → World → Prop} (hI : Known md ops E G F D Inv) (hGt : ∀ {A B C : World}, G A B → G B C → G A C) (hGr : ∀ A, G A A) (hF : ∀ i v w w', F i v w → G w w' → F i v w') (hQ : ∀ a w, Q a w → Q' .normal a w) :
    ∀ (fuel : Nat) (listed : Array Bool) (a : Act) (w : World) (Φ : World → Prop), G w0 w → Down md ops listed → Inv listed a w → Φ w → (∀ w w', Φ w → G w w' → Φ w') → wpAnyD P md ops E G w0 F Sp D Q tl fuel listed a Φ → wpAny P md ops Q' fuel listed a w
  | 0, _, _, _, _, hw, _, _, hp, _, h => ⟨h.1, hQ _ _ (h.2 _ hw hp)⟩
  | fuel + 1, listed, a, w, Φ, hw, hdn, hin, hp, hst, h => ⟨fun h0 => hQ _ _ (h.1 h0 _ hw hp), fun i hi => by
      by_cases hit : i = tl
      · obtain ⟨h1, h2⟩ := (h.2 i hi).1 hit
        exact wpOp_of_tOp (fun a' w' hq => wpAny_end h1 fuel (hQ _ _ hq)) (h2 w hw hp)
      · have h3 := (h.2 i hi).2 hit
        unfold rOpD at h3
        unfold wpOp
        split
        · rename_i ho
          obtain ⟨_, o, ho2, _⟩ := mem_ready.1 hi
          rw [ho] at ho2
          cases ho2
        · rename_i o ho
          simp only [ho] at h3
          split
          · rename_i hwt
            simp only [hwt, if_true] at h3
            refine .inl ?_
            split at h3
            · rename_i hE
              obtain ⟨he, hk⟩ := h3
              unfold Oper.wp
              refine (he w hw (hI.need _ _ _ _ _ ho hi hwt hin)).upon fun v w' hv => ?_
              exact wpAny_of_wpAnyD hI hGt hGr hF hQ fuel _ _ w' _ (hGt hw hv.1) (hdn.ready hi) (hI.made _ _ _ _ _ _ ho hi hdn hE (hI.keep _ _ _ _ hin hv.1) hv.2.2) ⟨hst _ _ hp hv.1, hv.2.2⟩ (fun x y hx hg => ⟨hst _ _ hx.1 hg, hF _ _ _ _ hx.2 hg⟩) (hk v hv.2.1)
            · rename_i hE
              obtain ⟨v, h1, h2⟩ := h3
              unfold Oper.wp
              rw [h1 w hw]
              exact wpAny_of_wpAnyD hI hGt hGr hF hQ fuel _ _ w Φ hw (hdn.ready hi) (hI.quiet _ _ _ _ _ _ ho hi hdn (.inl (by simpa using hE)) hin) hp hst h2
          · rename_i hwt
            simp only [hwt] at h3
            exact wpAny_of_wpAnyD hI hGt hGr hF hQ fuel _ _ w Φ hw (hdn.ready hi) (hI.quiet _ _ _ _ _ _ ho hi hdn (.inr (by simpa using hwt)) hin) hp hst h3⟩

theorem rOpD_ex (hS : ∀ i, ∃ v, Sp i v) {i : Nat} {K : Act → (World → Prop) → Prop} {a : Act} {Φ : World → Prop} (h : rOpD P ops E G w0 F Sp D i K a Φ) : ∃ a' Φ', K a' Φ' := by
  unfold rOpD at h
  split at h
  · exact ⟨_, _, h⟩
  · split at h
    · split at h
      · obtain ⟨v, hv⟩ := hS i
        exact ⟨_, _, h.2 v hv⟩
      · obtain ⟨v, _, h⟩ := h
        exact ⟨_, _, h⟩
    · exact ⟨_, _, h⟩

theorem wpAnyD_first (hDp : DPut ops D) (hS : ∀ i, ∃ v, Sp i v) {Q : Act → World → Prop} {n tl : Nat} (hr0 : G w0 w0) (htl : Tail md ops n tl) {i : Nat} {oi : Oper} (hi : ops[i]? = some oi) (hit : i ≠ tl)
    (hsel : ∀ (j : Nat) (o : Oper) cs b, ops[j]? = some o → o.op ≠ .select cs b) :
    ∀ (fuel : Nat) (listed : Array Bool) (a : Act) (Φ : World → Prop), Down md ops listed →
      (∀ j oj, ops[j]? = some oj → j ≠ i → listed.getD j true = false → (∀ e ∈ oj.after, Region.binds md e = true → e.on ≠ i) → oi.apart ops oj = true) →
      i ∈ Region.ready md ops listed →
      rOpD P ops E G w0 F Sp D i (wpAnyD P md ops E G w0 F Sp D Q tl fuel (listed.setIfInBounds i true)) a Φ → wpAnyD P md ops E G w0 F Sp D Q tl (fuel + 1) listed a Φ := by
  intro fuel
  induction fuel with
  | zero =>
    intro listed a Φ _ _ hr H
    refine ⟨fun h => (by rw [h] at hr; cases hr), fun j hj => ?_⟩
    by_cases hji : j = i
    · subst hji; exact ⟨fun h => absurd h hit, fun _ => H⟩
    · have := ready_mono hj hji
      obtain ⟨a', w', hK⟩ := rOpD_ex hS H
      rw [hK.1] at this
      cases this
  | succ fuel ih =>
    intro listed a Φ hdn hfree hr H
    refine ⟨fun h => (by rw [h] at hr; cases hr), fun j hj => ?_⟩
    by_cases hji : j = i
    · subst hji; exact ⟨fun h => absurd h hit, fun _ => H⟩
    · obtain ⟨hjun, oj, hoj, hall⟩ := mem_ready.1 hj
      have hiun := (mem_ready.1 hr).1
      have hjt : j ≠ tl := by
        intro hjt
        subst hjt
        have h1 := htl i (Array.getElem?_eq_some_iff.1 hi).1 hit
        rw [dep_ready hdn (getD_true_false hiun) hj n] at h1
        cases h1
      refine ⟨fun h => absurd h hjt, fun _ => ?_⟩
      have hnot : ∀ e ∈ oj.after, Region.binds md e = true → e.on ≠ i := fun e he hb heq => by
        have h1 := hall e he hb
        rw [heq, getD_true_false hiun] at h1
        cases h1
      have hap := hfree j oj hoj hji hjun hnot
      have H1 : rOpD P ops E G w0 F Sp D i (rOpD P ops E G w0 F Sp D j (wpAnyD P md ops E G w0 F Sp D Q tl fuel ((listed.setIfInBounds i true).setIfInBounds j true))) a Φ :=
        rOpD_mono (fun a' Φ' hK => (hK.2 j (ready_mono hj hji)).2 hjt) H
      have H2 := rOpD_comm hDp hS hr0 hi hoj hap (fun cs b => hsel i oi cs b hi) (fun cs b => hsel j oj cs b hoj) (wpAnyD_anti fuel _) H1
      have hfree' : ∀ k ok, ops[k]? = some ok → k ≠ i → (listed.setIfInBounds j true).getD k true = false →
          (∀ e ∈ ok.after, Region.binds md e = true → e.on ≠ i) → oi.apart ops ok = true := fun k ok hk hki hun hno => by
        refine hfree k ok hk hki ?_ hno
        by_cases hjk : j = k
        · subst hjk; exact hjun
        · rw [getD_set_ne true hjk] at hun; exact hun
      refine rOpD_mono (fun a' Φ' h3 => ih (listed.setIfInBounds j true) a' Φ' (hdn.ready hj) hfree' (ready_mono hr (Ne.symm hji)) ?_) H2
      rw [Array.setIfInBounds_comm _ _ hji]
      exact h3

/-- THE WALK IN THE ORDER OF THE TEXT -/
def wpMixD (P : Program) (ops : Array Oper) (E : Nat → Bool) (G : World → World → Prop) (w0 : World) (F : Nat → Value → World → Prop) (Sp : Nat → Value → Prop) (D : Nat → Act → World → Prop) (Q : Act → World → Prop) (tl : Nat) : Nat → List Oper → Act → (World → Prop) → Prop
  | _, [], a, Φ => ∀ w, G w0 w → Φ w → Q a w
  | k, o :: rest, a, Φ =>
    (k = tl → ∀ w, G w0 w → Φ w → if Region.wanted o (yielded ops a.tmps) then o.wp P a w Q NoExit else Q (a.put o.dst undef) w) ∧
    (k ≠ tl → if Region.wanted o (yielded ops a.tmps) then
      if E k then EffD P G w0 (D k a) (fun v w => Sp k v ∧ F k v w) (execOp a.eval o) ∧ ∀ v, Sp k v → wpMixD P ops E G w0 F Sp D Q tl (k + 1) rest (a.put o.dst v) (fun w => Φ w ∧ F k v w)
      else ∃ v, (∀ w2, G w0 w2 → (execOp a.eval o).run P w2 = .ok (.value v) w2) ∧ wpMixD P ops E G w0 F Sp D Q tl (k + 1) rest (a.put o.dst v) Φ
    else wpMixD P ops E G w0 F Sp D Q tl (k + 1) rest (a.put o.dst undef) Φ)

theorem wpAnyD_lex (hDp : DPut ops D) (hS : ∀ i, ∃ v, Sp i v) {Q : Act → World → Prop} {n tl : Nat} (hr0 : G w0 w0) (htl : Tail md ops n tl) (hlast : tl + 1 = ops.size) (hs : Region.noSelect ops = true) :
    ∀ (l : List Oper) (k : Nat) (listed : Array Bool) (a : Act) (Φ : World → Prop), (∀ j, l[j]? = ops[k + j]?) → (∀ j, j < k → listed.getD j true = true) → Down md ops listed →
      Region.lexFrom md ops l.length k listed = true → wpMixD P ops E G w0 F Sp D Q tl k l a Φ → wpAnyD P md ops E G w0 F Sp D Q tl l.length listed a Φ
  | [], _, _, _, _, _, _, _, hB, h => ⟨by simpa [Region.lexFrom] using hB, h⟩
  | o :: l, k, listed, a, Φ, hl, hbf, hdn, hB, h => by
    have h0 : ops[k]? = some o := by simpa using (hl 0).symm
    have hklt : k < ops.size := (Array.getElem?_eq_some_iff.1 h0).1
    simp only [List.length_cons, Region.lexFrom, Bool.and_eq_true] at hB
    obtain ⟨⟨hr, hf⟩, hB'⟩ := hB
    have hr' : k ∈ Region.ready md ops listed := by simpa using hr
    have hbf' : ∀ j, j < k + 1 → (listed.setIfInBounds k true).getD j true = true := fun j hj => by
      by_cases hjk : k = j
      · subst hjk
        cases hg : (listed.setIfInBounds k true).getD k true with
        | true => rfl
        | false =>
          exfalso
          rcases Nat.lt_or_ge k listed.size with h1 | h1
          · simp [h1] at hg
          · simp [h1] at hg
      · rw [getD_set_ne true hjk]; exact hbf j (by omega)
    by_cases hkt : k = tl
    · have hnil : ∀ j, j ∈ Region.ready md ops (listed.setIfInBounds k true) → False := fun j hj => by
        obtain ⟨hun, oj, hoj, _⟩ := mem_ready.1 hj
        have := (Array.getElem?_eq_some_iff.1 hoj).1
        rw [hbf' j (by omega)] at hun
        cases hun
      have hnil' : Region.ready md ops (listed.setIfInBounds k true) = [] := List.eq_nil_iff_forall_not_mem.2 fun j hj => hnil j hj
      refine ⟨fun h1 => (by rw [h1] at hr'; cases hr'), fun i hi => ?_⟩
      have hik : i = k := by
        obtain ⟨hun, oi, hoi, _⟩ := mem_ready.1 hi
        have := (Array.getElem?_eq_some_iff.1 hoi).1
        rcases Nat.lt_or_ge i k with h1 | h1
        · rw [hbf i h1] at hun; cases hun
        · omega
      subst hik
      refine ⟨fun _ => ⟨hnil', fun w hg hw => ?_⟩, fun h1 => absurd hkt h1⟩
      unfold tOp
      rw [h0]
      unfold wpMixD at h
      exact h.1 hkt w hg hw
    · have hm : rOpD P ops E G w0 F Sp D k (wpMixD P ops E G w0 F Sp D Q tl (k + 1) l) a Φ := by
        unfold rOpD
        rw [h0]
        unfold wpMixD at h
        exact h.2 hkt
      refine wpAnyD_first hDp hS hr0 htl h0 hkt (Region.noSelect_spec hs) l.length listed a Φ hdn (Region.free_spec h0 hf) hr' ?_
      exact rOpD_mono (fun a' Φ' hK => wpAnyD_lex hDp hS hr0 htl hlast hs l (k + 1) _ a' Φ' (fun j => by have := hl (j + 1); simpa [Nat.add_assoc, Nat.add_comm 1 j] using this) hbf' (hdn.ready hr') hB' hK) hm

structure MixD (P : Program) (ops : Array Oper) (E : Nat → Bool) (G : World → World → Prop) (w0 : World) (F : Nat → Value → World → Prop) (Sp : Nat → Value → Prop) (D : Nat → Act → World → Prop) (Q : Act → World → Prop) (tl k : Nat) (rest : List Oper) (a : Act) (Φ : World → Prop) : Prop where
  out : wpMixD P ops E G w0 F Sp D Q tl k rest a Φ

/-- whose values an effect takes: operation, effect, the effect's slot -/
abbrev Deps := List (Nat × Nat × Tmp)
def needOf (F : Nat → Value → World → Prop) (deps : Deps) (i : Nat) (a : Act) (w : World) : Prop := ∀ e s, (i, e, s) ∈ deps → F e (a.tmps.getD s undef) w
def invOf (ops : Array Oper) (F : Nat → Value → World → Prop) (deps : Deps) (L : Array Bool) (a : Act) (w : World) : Prop :=
  ∀ i e s, (i, e, s) ∈ deps → s < a.tmps.size ∧ (L.getD e false = true → ∀ oe, ops[e]? = some oe → Region.wanted oe (yielded ops a.tmps) = true → F e (a.tmps.getD s undef) w)
/-- what is asked of such a list -/
structure DepsOk (md : Region.Mode) (ops : Array Oper) (Es : List Nat) (deps : Deps) : Prop where
  ok : ∀ i e s, (i, e, s) ∈ deps → ∃ oi oe, ops[i]? = some oi ∧ ops[e]? = some oe ∧ oe.dst = some s ∧ Es.contains e = true ∧ oi.guard = oe.guard ∧ s ∈ oi.looksAt ops ∧ s ∉ oe.looksAt ops ∧
    (∃ x ∈ oi.after, Region.binds md x = true ∧ x.on = e) ∧
    ∀ k ok d, ops[k]? = some ok → k ≠ e → ok.dst = some d → (d = s ∨ d ∈ oe.looksAt ops) → dep md ops ops.size e k = true

theorem getD_put_other {a : Act} {x : Option Tmp} {v : Value} {s : Tmp} (h : ∀ d, x = some d → d ≠ s) : (a.put x v).tmps.getD s undef = a.tmps.getD s undef := by
  cases x with
  | none => rfl
  | some d =>
    have := h d rfl
    simp [Act.put, Array.getElem?_setIfInBounds_ne this]
theorem size_put (a : Act) (x : Option Tmp) (v : Value) : (a.put x v).tmps.size = a.tmps.size := by
  cases x <;> simp [Act.put]
theorem getD_put_same {a : Act} {v : Value} {s : Tmp} (h : s < a.tmps.size) : (a.put (some s) v).tmps.getD s undef = v := by
  simp [Act.put, h]

theorem known_of {Es : List Nat} {deps : Deps} (hd : DepsOk md ops Es deps) (hF : ∀ i v w w', F i v w → G w w' → F i v w') : Known md ops (fun k => Es.contains k) G F (needOf F deps) (invOf ops F deps) where
  keep L a w w' h hg i e s hm := ⟨(h i e s hm).1, fun hl oe ho hw => hF _ _ _ _ ((h i e s hm).2 hl oe ho hw) hg⟩
  made L a w k o v ho hr hdn hE h hf i e s hm := by
    refine ⟨by rw [size_put]; exact (h i e s hm).1, fun hl oe hoe hw => ?_⟩
    obtain ⟨oi, oe', _, hoe', hdst, _, _, _, hs, _, hk⟩ := hd.ok i e s hm
    rw [hoe] at hoe'
    cases hoe'
    by_cases hke : k = e
    · subst hke
      rw [ho] at hoe
      cases hoe
      rw [hdst, getD_put_same (h i k s hm).1]
      exact hf
    · have hl' : L.getD e false = true := by rwa [getD_set_ne false hke] at hl
      have hun := getD_true_false (mem_ready.1 hr).1
      have hno : ∀ d, o.dst = some d → d ≠ s ∧ d ∉ oe.looksAt ops := fun d hd' => by
        have := fun hx => hk k o d ho hke hd' hx
        have hdl := dep_listed hdn hun ops.size e hl'
        exact ⟨fun hx => (by rw [this (.inl hx)] at hdl; cases hdl), fun hx => (by rw [this (.inr hx)] at hdl; cases hdl)⟩
      rw [getD_put_other fun d hd' => (hno d hd').1]
      rw [wanted_put oe a o.dst v fun d hd' => (hno d hd').2] at hw
      exact (h i e s hm).2 hl' oe hoe hw
  quiet L a w k o v ho hr hdn hE h i e s hm := by
    refine ⟨by rw [size_put]; exact (h i e s hm).1, fun hl oe hoe hw => ?_⟩
    obtain ⟨oi, oe', _, hoe', hdst, hEe, _, _, hs, _, hk⟩ := hd.ok i e s hm
    rw [hoe] at hoe'
    cases hoe'
    by_cases hke : k = e
    · subst hke
      rw [ho] at hoe
      cases hoe
      rcases hE with hE | hE
      · have hE' : Es.contains k = false := hE
        rw [hEe] at hE'
        cases hE'
      · rw [wanted_put o a o.dst v fun d hd' => by rw [hdst] at hd'; cases hd'; exact hs, hE] at hw
        cases hw
    · have hl' : L.getD e false = true := by rwa [getD_set_ne false hke] at hl
      have hun := getD_true_false (mem_ready.1 hr).1
      have hno : ∀ d, o.dst = some d → d ≠ s ∧ d ∉ oe.looksAt ops := fun d hd' => by
        have := fun hx => hk k o d ho hke hd' hx
        have hdl := dep_listed hdn hun ops.size e hl'
        exact ⟨fun hx => (by rw [this (.inl hx)] at hdl; cases hdl), fun hx => (by rw [this (.inr hx)] at hdl; cases hdl)⟩
      rw [getD_put_other fun d hd' => (hno d hd').1]
      rw [wanted_put oe a o.dst v fun d hd' => (hno d hd').2] at hw
      exact (h i e s hm).2 hl' oe hoe hw
  need L a w i o ho hr hw h e s hm := by
    obtain ⟨oi, oe, hoi, hoe, _, _, hgd, _, _, ⟨x, hx, hb, hxe⟩, _⟩ := hd.ok i e s hm
    rw [ho] at hoi
    cases hoi
    obtain ⟨_, o', ho', hall⟩ := mem_ready.1 hr
    rw [ho] at ho'
    cases ho'
    refine (h i e s hm).2 (by rw [← hxe]; exact hall x hx hb) oe hoe ?_
    have : Region.wanted oe (yielded ops a.tmps) = Region.wanted o (yielded ops a.tmps) := by unfold Region.wanted; rw [hgd]
    rw [this, hw]
theorem put_of {Es : List Nat} {deps : Deps} (hd : DepsOk md ops Es deps) : DPut ops (needOf F deps) := by
  intro i o x ho hx a u w
  have key : ∀ e s, (i, e, s) ∈ deps → (a.put x u).tmps.getD s undef = a.tmps.getD s undef := fun e s hm => by
    obtain ⟨oi, _, hoi, _, _, _, _, hl, _⟩ := hd.ok i e s hm
    rw [ho] at hoi
    cases hoi
    exact getD_put_other fun d hd' e' => hx d hd' (by rw [e']; exact hl)
  constructor
  · intro h e s hm
    have := h e s hm
    rwa [key e s hm] at this
  · intro h e s hm
    rw [key e s hm]
    exact h e s hm

/-- the test, by bits -/
def depsB (md : Region.Mode) (ops : Array Oper) (Es : List Nat) (deps : Deps) : Bool :=
  let A := ancAll md ops.toList []
  deps.all fun p => match ops[p.1]?, ops[p.2.1]? with
    | some oi, some oe => oe.dst == some p.2.2 && Es.contains p.2.1 && decide (oi.guard = oe.guard) && (oi.looksAt ops).contains p.2.2 && !((oe.looksAt ops).contains p.2.2) && oi.after.any (fun x => Region.binds md x && x.on == p.2.1) &&
        (List.range ops.size).all fun k => k == p.2.1 || (A.getD p.2.1 0).testBit k || (match (ops[k]?).bind (·.dst) with | some d => !(d == p.2.2) && !((oe.looksAt ops).contains d) | none => true)
    | _, _ => false
theorem depsB_ok {Es : List Nat} {deps : Deps} (h : depsB md ops Es deps = true) : DepsOk md ops Es deps := by
  have hA : AncOk md ops (ancAll md ops.toList []) := anc_all ops.toList [] (fun j i h => by simp at h) (fun j => by simp)
  unfold depsB at h
  simp only [List.all_eq_true] at h
  refine ⟨fun i e s hm => ?_⟩
  have hp := h _ hm
  simp only at hp
  split at hp
  · rename_i oi oe h1 h2
    simp only [Bool.and_eq_true, decide_eq_true_eq, Bool.not_eq_true', List.contains_eq_mem, beq_iff_eq, decide_eq_false_iff_not] at hp
    obtain ⟨⟨⟨⟨⟨⟨p1, p2⟩, p3⟩, p4⟩, p5⟩, p6⟩, p7⟩ := hp
    refine ⟨oi, oe, h1, h2, p1, by simpa using p2, p3, p4, p5, ?_, fun k ok d hk hne hdst hds => ?_⟩
    · obtain ⟨x, hx, hb⟩ := Array.any_eq_true'.1 p6
      simp only [Bool.and_eq_true, beq_iff_eq] at hb
      exact ⟨x, hx, hb.1, hb.2⟩
    · have hks : k < ops.size := (Array.getElem?_eq_some_iff.1 hk).1
      have he : e < ops.size := (Array.getElem?_eq_some_iff.1 h2).1
      have := List.all_eq_true.1 p7 k (List.mem_range.2 hks)
      rw [hk] at this
      simp only [Option.bind_some, hdst, Bool.or_eq_true, beq_iff_eq, Bool.and_eq_true, Bool.not_eq_true', decide_eq_false_iff_not, beq_eq_false_iff_ne] at this
      rcases this with (h3 | h3) | h3
      · exact absurd h3 hne
      · exact dep_mono _ _ _ (hA e k h3).2 _ he
      · rcases hds with h4 | h4
        · exact absurd h4 h3.1
        · exact absurd h4 h3.2
  · cases hp
def tailC (md : Region.Mode) (ops : Array Oper) (tl : Nat) : Bool := let A := ancAll md ops.toList []; (List.range ops.size).all (fun i => i == tl || (A.getD tl 0).testBit i) && tl + 1 == ops.size
theorem tailC_of {tl : Nat} (h : tailC md ops tl = true) : Tail md ops ops.size tl ∧ tl + 1 = ops.size := by
  have hA : AncOk md ops (ancAll md ops.toList []) := anc_all ops.toList [] (fun j i h => by simp at h) (fun j => by simp)
  unfold tailC at h
  simp only [Bool.and_eq_true, List.all_eq_true, beq_iff_eq] at h
  refine ⟨fun i hi hne => ?_, h.2⟩
  have h3 := h.1 i (List.mem_range.2 hi)
  simp only [Bool.or_eq_true, beq_iff_eq] at h3
  rcases h3 with h3 | h3
  · exact absurd h3 hne
  · have := (hA tl i h3).2
    rw [h.2] at this
    exact this

theorem wp_region_mixD {id : Nat} {l : List Oper} (Es : List Nat) (tl : Nat) (G : World → World → Prop) (F : Nat → Value → World → Prop) (Sp : Nat → Value → Prop) (deps : Deps) {Q : Exit → Act → World → Prop} {a : Act} {w : World} (hm : P.follows .mixedOrders = true)
    (hB : (Region.lexB .any l.toArray && tailC .any l.toArray tl && depsB .any l.toArray Es deps) = true) (hsz : ∀ i e s, (i, e, s) ∈ deps → s < a.tmps.size) (hGt : ∀ {A B C : World}, G A B → G B C → G A C) (hGr : ∀ A, G A A) (hF : ∀ i v w w', F i v w → G w w' → F i v w') (hS : ∀ i, ∃ v, Sp i v)
    (h : MixD P l.toArray (fun k => Es.contains k) G w.drew F Sp (needOf F deps) (fun a' w' => Q .normal a' w') tl 0 l a (fun _ => True)) : (Code.region id l.toArray true).wp P Q a w := by
  simp only [Region.lexB, Bool.and_eq_true] at hB
  obtain ⟨⟨hB1, hB2⟩, hB3⟩ := hB
  obtain ⟨ht1, ht2⟩ := tailC_of hB2
  have hd := depsB_ok hB3
  refine wp_region_any hm (wpAny_of_wpAnyD (Q := fun a' w' => Q .normal a' w') (E := fun k => Es.contains k) (tl := tl) (w0 := w.drew) (F := F) (G := G) (Sp := Sp) (known_of hd hF) hGt hGr hF (fun _ _ h => h) _ _ _ _ (fun _ => True) (hGr _) (Down.start _) (fun i e s hm => ⟨hsz i e s hm, fun hl => by
    have : (Array.replicate l.toArray.size false).getD e false = false := by
      rw [Array.getD_eq_getD_getElem?, Array.getElem?_replicate]
      split <;> rfl
    rw [this] at hl
    cases hl⟩) trivial (fun _ _ _ _ => trivial) ?_)
  have := wpAnyD_lex (P := P) (G := G) (F := F) (Sp := Sp) (put_of hd) hS (Q := fun a' w' => Q .normal a' w') (md := .any) (hGr w.drew) ht1 ht2 hB1.1 l 0 (Array.replicate l.toArray.size false) a (fun _ => True) (by simp) (fun j hj => by omega) (Down.start _) (by simpa using hB1.2) h.out
  simpa using this

section
variable {Es : List Nat} {Q : Act → World → Prop} {o : Oper} {rest : List Oper} {a : Act} {k tl : Nat} {Φ : World → Prop}

theorem mixD_step (hk : (Es.contains k || k == tl) = false) (h : ∀ K : Act → Prop, (∀ a, MixD P ops (fun k => Es.contains k) G w0 F Sp D Q tl (k + 1) rest a Φ → K a) →
      if Region.wanted o (yielded ops a.tmps) then ∃ v, (∀ w2 : Subtype (G w0), (execOp a.eval o).run P w2.1 = .ok (.value v) w2.1) ∧ K (a.put o.dst v) else K (a.put o.dst undef)) :
    MixD P ops (fun k => Es.contains k) G w0 F Sp D Q tl k (o :: rest) a Φ := by
  have := h (fun a => wpMixD P ops (fun k => Es.contains k) G w0 F Sp D Q tl (k + 1) rest a Φ) (fun _ h => h.out)
  rw [Bool.or_eq_false_iff] at hk
  have hkt : k ≠ tl := by simpa using hk.2
  refine ⟨?_⟩
  unfold wpMixD
  refine ⟨fun h => absurd h hkt, fun _ => ?_⟩
  simp only [hk.1]
  split
  · rename_i hw
    rw [if_pos hw] at this
    obtain ⟨v, h1, h2⟩ := this
    exact ⟨v, fun w2 hw2 => h1 ⟨w2, hw2⟩, h2⟩
  · rename_i hw
    rw [if_neg hw] at this
    exact this

/-- an effect that is made -/
theorem mixD_eff (hk : (Es.contains k && !(k == tl)) = true) (hw : Region.wanted o (yielded ops a.tmps) = true) (he : ∀ w, G w0 w → D k a w → EffR P (fun v w' => G w w' ∧ Sp k v ∧ F k v w') ((execOp a.eval o).run P w))
    (h : ∀ v, Sp k v → MixD P ops (fun k => Es.contains k) G w0 F Sp D Q tl (k + 1) rest (a.put o.dst v) (fun w => Φ w ∧ F k v w)) :
    MixD P ops (fun k => Es.contains k) G w0 F Sp D Q tl k (o :: rest) a Φ := by
  rw [Bool.and_eq_true] at hk
  have hkt : k ≠ tl := by simpa using hk.2
  refine ⟨?_⟩
  unfold wpMixD
  refine ⟨fun h => absurd h hkt, fun _ => ?_⟩
  simp only [hk.1, hw, if_true]
  exact ⟨he, fun v hv => (h v hv).out⟩

/-- the last one -/
theorem mixD_last (hk : (k == tl) = true) (h : ∀ w, G w0 w → Φ w → ∀ K : Act → World → Prop, (∀ a w, Q a w → K a w) →
      if Region.wanted o (yielded ops a.tmps) then o.wp P a w K NoExit else K (a.put o.dst undef) w) :
    MixD P ops (fun k => Es.contains k) G w0 F Sp D Q tl k [o] a Φ := by
  have hkt : k = tl := by simpa using hk
  refine ⟨?_⟩
  unfold wpMixD
  exact ⟨fun _ w hg hw => h w hg hw Q (fun _ _ h => h), fun h => absurd hkt h⟩
end
end
end Go.Mix

