/- The contract of record.Minimum. -/
import Derived.Test.YthfpijacemkbbaaDoorRqF
namespace Go.Proofs.YthfpijacemkbbaaDoor
open Go.RowKit
set_option linter.unusedVariables false

/-- the number at a text's end -/
def lastN (d : List UInt8) : Int := num4 ((d.drop (d.length - 4)).getD 0 0) ((d.drop (d.length - 4)).getD 1 0) ((d.drop (d.length - 4)).getD 2 0) ((d.drop (d.length - 4)).getD 3 0)
/-- what a least time is told as -/
def minV (ty : Int) (d : List UInt8) : Value := if ty = 6 ∧ Rc.dataB 6 d = true then .tuple #[.int .i64 (lastN d), .bool true] else .tuple #[.int .i64 0, .bool false]
theorem soa_long {d : List UInt8} (h : Rc.dataB 6 d = true) : 20 ≤ d.length ∧ d.length ≤ 1000 := by
  unfold Rc.dataB at h
  split at h
  · cases h
  · rename_i hl
    rw [if_neg (by omega), if_neg (by omega), if_neg (by omega)] at h
    unfold Rc.placesP at h
    rw [show Rc.shape 6 = some (0, 2, 20) from rfl] at h
    simp only at h
    split at h
    · cases h
    · split at h
      · cases h
      · simp only [decide_eq_true_eq] at h
        omega
set_option maxRecDepth 100000 in
set_option maxHeartbeats 4000000 in
theorem Minimum_any (r : Rc.RR) (w : World) (hr : RROk r) : Calls Tryd.prog 23 #[rrV r] w fun e w' => e = .returned (minV r.ty r.data) ∧ Below w.heap.size w w' := by
  obtain ⟨rn, ty, cl, tl, rd⟩ := r
  obtain ⟨h1, h2⟩ := hr
  simp only at h1 h2
  have hd := fun W => Data_any ty (mk rd) W (by rw [size_mk]; exact h2)
  rw [bl_mk] at hd
  have hH := World.alloc_heap_new w (.cells #[.string (mk rn), .int .i64 ty, .int .i64 cl, .int .i64 tl, .string (mk rd)] 23)
  have h0 : Below w.heap.size w (w.alloc (.cells #[.string (mk rn), .int .i64 ty, .int .i64 cl, .int .i64 tl, .string (mk rd)] 23)) := (Below.refl _ w).alloc (Nat.le_refl _) _
  simp only [rrV]
  by_cases ht : ty = 6
  · subst ht
    cases hdb : Rc.dataB 6 rd with
    | true =>
      rw [hdb] at hd
      obtain ⟨g1, g2⟩ := soa_long hdb
      obtain ⟨a, b, c, e, hl⟩ := four_of (d := rd.drop (rd.length - 4)) (by rw [List.length_drop]; omega)
      have hv : Hid (minV 6 rd = .tuple #[.int .i64 (num4 a b c e), .bool true]) := Go.Lib.hid (by unfold minV; rw [if_pos ⟨rfl, hdb⟩]; unfold lastN; rw [hl]; rfl)
      have hx : (mk rd).extract ((mk rd).size - 4) (mk rd).size = mk [a, b, c, e] := by
        apply bl_inj
        rw [bl_extract, bl_mk, bl_mk, size_mk, hl, show rd.length - (rd.length - 4) = 4 by omega]
        rfl
      have g3 : 20 ≤ (mk rd).size := by rw [size_mk]; exact g1
      have g4 : (mk rd).size ≤ 1000 := by rw [size_mk]; exact g2
      generalize minV 6 rd = res at *
      generalize mk rd = s at *
      have w0 : IntKind.i64.wrap ((s.size : Int) - 4) = (s.size : Int) - 4 := by rw [IntKind.wrap_i64]; omega
      have i1 : (0 : Int) ≤ (s.size : Int) - 4 := by omega
      have i2 : (s.size : Int) - 4 ≤ (s.size : Int) := by omega
      have i3 : ((s.size : Int) - 4).toNat = s.size - 4 := by omega
      have i4 : s.size - 4 ≤ s.size := by omega
      have HD := Go.Lib.hid hd
      have HH := Go.Lib.hid hH
      have H0 := Go.Lib.hid h0
      clear hd hH h0
      clear h1 h2 hdb g1 g2 hl
      go_enter Tryd.func23, Tryd.ntmps23
      go_wp2_with fail
      generalize w.alloc (.cells #[.string (mk rn), .int .i64 6, .int .i64 cl, .int .i64 tl, .string s] 23) = X at *
      refine (HD.out _).mono ?_; rintro e X1 ⟨rfl, hx1⟩
      have hg := cell_of_heap ((hx1.block _ (Array.getElem?_eq_some_iff.1 HH.out).1).trans HH.out)
      have c4 : X1.cell? ⟨w.heap.size, 4, none⟩ = some (.string s) := hg 4
      have hb1 := H0.out.trans (hx1.mono H0.out.size)
      have HB1 := Go.Lib.hid hb1
      clear hb1
      clear hg hx1
      go_wp2_with fail
      refine (record_number_any a b c e _).mono ?_; rintro e X2 ⟨rfl, hx2⟩
      have HX2 := Go.Lib.hid hx2
      clear hx2
      go_wp2_with fail
      go_ret2
      exact ⟨(by rw [hv.out]; rfl), HB1.out.trans (HX2.out.mono HB1.out.size)⟩
    | false =>
      rw [hdb] at hd
      have hv : Hid (minV 6 rd = .tuple #[.int .i64 0, .bool false]) := Go.Lib.hid (by unfold minV; rw [if_neg (fun h => by rw [hdb] at h; cases h.2)])
      have HD := Go.Lib.hid hd
      have HH := Go.Lib.hid hH
      have H0 := Go.Lib.hid h0
      clear hd hH h0
      clear h1 h2 hdb
      go_enter Tryd.func23, Tryd.ntmps23
      go_wp2_with fail
      refine (HD.out _).mono ?_; rintro e X1 ⟨rfl, hx⟩
      have HX := Go.Lib.hid hx
      clear hx
      go_wp2_with fail
      go_ret2
      exact ⟨(by rw [hv.out]; rfl), H0.out.trans (HX.out.mono H0.out.size)⟩
  · have hv : Hid (minV ty rd = .tuple #[.int .i64 0, .bool false]) := Go.Lib.hid (by unfold minV; rw [if_neg (fun h => ht h.1)])
    have e1 : (ty == 6) = false := beq_eq_false_iff_ne.2 ht
    have e2 : (ty != 6) = true := by simp [ht]
    have HD := Go.Lib.hid hd
    have HH := Go.Lib.hid hH
    have H0 := Go.Lib.hid h0
    clear hd hH h0
    clear h1 h2
    go_enter Tryd.func23, Tryd.ntmps23
    go_wp2_with fail
    go_ret2
    exact ⟨(by rw [hv.out]; rfl), H0.out⟩
end Go.Proofs.YthfpijacemkbbaaDoor

