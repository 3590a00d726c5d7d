/- The contracts of record.Addr. -/
import Derived.Test.YthfpijacemkbbaaDoorRqB
namespace Go.Proofs.YthfpijacemkbbaaDoor
open Go.RowKit
set_option linter.unusedVariables false

/-- what an address is told as -/
def addrV (ty : Int) (d : List UInt8) : Value := if ty = 1 ∧ d.length = 4 then .tuple #[.int .i64 (num4 (d.getD 0 0) (d.getD 1 0) (d.getD 2 0) (d.getD 3 0)), .bool true] else .tuple #[.int .i64 0, .bool false]
theorem four_of {d : List UInt8} (h : d.length = 4) : ∃ a b c e, d = [a, b, c, e] := by
  match d, h with
  | [a, b, c, e], _ => exact ⟨a, b, c, e, rfl⟩
set_option maxRecDepth 100000 in
set_option maxHeartbeats 4000000 in
theorem Addr_any (r : Rc.RR) (w : World) (hr : RROk r) : Calls Tryd.prog 21 #[rrV r] w fun e w' => e = .returned (addrV r.ty r.data) ∧ Below w.heap.size w w' := by
  obtain ⟨rn, ty, cl, tl, rd⟩ := r
  obtain ⟨h1, h2⟩ := hr
  simp only at h1 h2
  have hd := fun W => Data_any ty (mk rd) W (by rw [size_mk]; exact h2)
  rw [bl_mk] at hd
  have hH := World.alloc_heap_new w (.cells #[.string (mk rn), .int .i64 ty, .int .i64 cl, .int .i64 tl, .string (mk rd)] 23)
  have h0 : Below w.heap.size w (w.alloc (.cells #[.string (mk rn), .int .i64 ty, .int .i64 cl, .int .i64 tl, .string (mk rd)] 23)) := (Below.refl _ w).alloc (Nat.le_refl _) _
  simp only
  by_cases ht : ty = 1
  · subst ht
    have hdb : Rc.dataB 1 rd = decide (rd.length = 4) := by
      unfold Rc.dataB
      split
      · rw [eq_comm, decide_eq_false_iff_not]; omega
      · rfl
    rw [hdb] at hd
    by_cases h4 : rd.length = 4
    · rw [decide_eq_true h4] at hd
      obtain ⟨a, b, c, e, rfl⟩ := four_of h4
      have hv : Hid (addrV 1 [a, b, c, e] = .tuple #[.int .i64 (num4 a b c e), .bool true]) := Go.Lib.hid (by unfold addrV; rw [if_pos ⟨rfl, rfl⟩]; rfl)
      have HD := Go.Lib.hid hd
      have HH := Go.Lib.hid hH
      have H0 := Go.Lib.hid h0
      clear hd hH h0
      clear h4 h1 h2 hdb
      go_enter Tryd.func21, Tryd.ntmps21
      go_wp2_with fail
      generalize w.alloc (.cells #[.string (mk rn), .int .i64 1, .int .i64 cl, .int .i64 tl, .string (mk [a, b, c, e])] 23) = X at *
      refine (HD.out _).mono ?_; rintro e X1 ⟨rfl, hx⟩
      have hg := cell_of_heap ((hx.block _ (Array.getElem?_eq_some_iff.1 HH.out).1).trans HH.out)
      have c4 : X1.cell? ⟨w.heap.size, 4, none⟩ = some (.string (mk [a, b, c, e])) := hg 4
      have hb1 := H0.out.trans (hx.mono H0.out.size)
      have HB1 := Go.Lib.hid hb1
      clear hb1
      clear hg hx
      go_wp2_with fail
      refine (record_number_any a b c e _).mono ?_; rintro e X2 ⟨rfl, hx⟩
      have HX2 := Go.Lib.hid hx
      clear hx
      go_wp2_with fail
      go_ret2
      exact ⟨(by rw [hv.out]; rfl), HB1.out.trans (HX2.out.mono HB1.out.size)⟩
    · rw [decide_eq_false h4] at hd
      have hv : Hid (addrV 1 rd = .tuple #[.int .i64 0, .bool false]) := Go.Lib.hid (by unfold addrV; rw [if_neg (fun h => h4 h.2)])
      have HD := Go.Lib.hid hd
      have HH := Go.Lib.hid hH
      have H0 := Go.Lib.hid h0
      clear hd hH h0
      clear h4 h1 h2 hdb
      go_enter Tryd.func21, Tryd.ntmps21
      go_wp2_with fail
      refine (HD.out _).mono ?_; rintro e X1 ⟨rfl, hx⟩
      have HX := Go.Lib.hid hx
      clear hx
      go_wp2_with fail
      go_ret2
      exact ⟨(by rw [hv.out]; rfl), H0.out.trans (HX.out.mono H0.out.size)⟩
  · have hv : Hid (addrV ty rd = .tuple #[.int .i64 0, .bool false]) := Go.Lib.hid (by unfold addrV; rw [if_neg (fun h => ht h.1)])
    have e1 : (ty == 1) = false := beq_eq_false_iff_ne.2 ht
    have e2 : (ty != 1) = true := by simp [ht]
    have HD := Go.Lib.hid hd
    have HH := Go.Lib.hid hH
    have H0 := Go.Lib.hid h0
    clear hd hH h0
    clear h1 h2
    go_enter Tryd.func21, Tryd.ntmps21
    go_wp2_with fail
    go_ret2
    exact ⟨(by rw [hv.out]; rfl), H0.out⟩
end Go.Proofs.YthfpijacemkbbaaDoor

