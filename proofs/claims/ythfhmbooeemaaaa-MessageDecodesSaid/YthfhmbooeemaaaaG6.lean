/- Merged texts of the seat, in their order: WrB, WrC, WrD, Par, WrE, Recs, Chk, ChkB, ChkC, EncA, EncB, EncC. -/
import Derived.Test.YthfhmbooeemaaaaG2
import Derived.Test.YthfhmbooeemaaaaG5
import Derived.Deep.Cut
import Derived.Sort.CutIn
import Derived.Deep.QuietTactic
import Derived.BigQuiet
/- Message: the writer: New, Two, Four, Len, Set, Out. -/
namespace Go.Proofs.Ythfhmbooeemaaaa
open Go.RowKit Go.Maps Go.Sq
set_option maxRecDepth 100000
set_option linter.unusedVariables false

def two2 (n : Int) : List UInt8 := [byteOf n 256, byteOf n 1]
theorem two_vals (n : Int) : [Value.int IntKind.u8 (n / 256 % 256), Value.int IntKind.u8 (n % 256)] = encB (two2 n) := by
  unfold two2 encB
  simp only [List.map_cons, List.map_nil, byteOf_nat, Int.ediv_one]
theorem four_vals2 (n : Int) : [Value.int IntKind.u8 (n / 16777216 % 256), Value.int IntKind.u8 (n / 65536 % 256), Value.int IntKind.u8 (n / 256 % 256), Value.int IntKind.u8 (n % 256)] = encB (four n) := four_vals n
section
variable {g bm base : Nat} {w0 : World} {most : Int} {b : List UInt8} {M : Met} {bad : Bool} {w : World}
theorem WTwo_any (c : WCtx g bm base w0) (h : WS g bm base w0 most b M bad w) (n : Int) (hl : b.length + 2 ≤ 1099511627776) :
    Calls Try.prog 38 #[.pointer (some ⟨g, 0, none⟩), .int .i64 n] w (WEnd bm (WS g bm base w0 most (b ++ two2 n) M bad) w) := by
  have hb := (Below.refl w.heap.size w).alloc (Nat.le_refl _) (.cells #[.int .u8 (n / 256 % 256), .int .u8 (n % 256)] 5)
  have hx : Byts (w.alloc (.cells #[.int .u8 (n / 256 % 256), .int .u8 (n % 256)] 5)) (.slice (some ⟨w.heap.size, 0, none⟩) 2 2) (two2 n) := by
    have := slc_new w 1 2 5 (encB (two2 n)) (by simp [encB, two2]) (by decide)
    rw [← two_vals] at this
    unfold Byts
    rw [show (two2 n).map (fun b => Value.int .u8 b.toNat) = encB (two2 n) from rfl, ← two_vals]
    exact this
  have hc := WBytes_any c (h.below c hb) _ (two2 n) hx hl
  have HC := Go.Lib.hid hc
  have HB := Go.Lib.hid hb
  clear hc hb
  clear h hx
  go_enter Try.func38, Try.ntmps38
  go_wp2_with fail
  refine HC.out.mono ?_; rintro e w1 ⟨⟨v, rfl⟩, h1, h2⟩
  have H1 := Go.Lib.hid h1
  have H2 := Go.Lib.hid h2
  clear h1 h2
  go_wp2_with fail
  go_end0
  exact ⟨⟨_, rfl⟩, H1.out, (KW.of_below HB.out).trans H2.out⟩
theorem WFour_any (c : WCtx g bm base w0) (h : WS g bm base w0 most b M bad w) (n : Int) (hl : b.length + 4 ≤ 1099511627776) :
    Calls Try.prog 41 #[.pointer (some ⟨g, 0, none⟩), .int .i64 n] w (WEnd bm (WS g bm base w0 most (b ++ four n) M bad) w) := by
  have hb := (Below.refl w.heap.size w).alloc (Nat.le_refl _) (.cells #[.int .u8 (n / 16777216 % 256), .int .u8 (n / 65536 % 256), .int .u8 (n / 256 % 256), .int .u8 (n % 256)] 5)
  have hx : Byts (w.alloc (.cells #[.int .u8 (n / 16777216 % 256), .int .u8 (n / 65536 % 256), .int .u8 (n / 256 % 256), .int .u8 (n % 256)] 5)) (.slice (some ⟨w.heap.size, 0, none⟩) 4 4) (four n) := by
    have := slc_new w 1 4 5 (encB (four n)) (by simp [encB, four]) (by decide)
    rw [← four_vals2] at this
    unfold Byts
    rw [show (four n).map (fun b => Value.int .u8 b.toNat) = encB (four n) from rfl, ← four_vals2]
    exact this
  have hc := WBytes_any c (h.below c hb) _ (four n) hx hl
  have HC := Go.Lib.hid hc
  have HB := Go.Lib.hid hb
  clear hc hb
  clear h hx
  go_enter Try.func41, Try.ntmps41
  go_wp2_with fail
  refine HC.out.mono ?_; rintro e w1 ⟨⟨v, rfl⟩, h1, h2⟩
  have H1 := Go.Lib.hid h1
  have H2 := Go.Lib.hid h2
  clear h1 h2
  go_wp2_with fail
  go_end0
  exact ⟨⟨_, rfl⟩, H1.out, (KW.of_below HB.out).trans H2.out⟩
theorem WLen_any (h : WS g bm base w0 most b M bad w) :
    Calls Try.prog 66 #[.pointer (some ⟨g, 0, none⟩)] w fun e w' => e = .returned (.int .i64 b.length) ∧ w = w' := by
  obtain ⟨⟨⟨v, hrow, hown⟩, hmap⟩, hbw, hkw⟩ := h
  obtain ⟨a1, c1, rfl, _, _⟩ := (SlC.of_owns hown).slice
  have x1 : w.cell? ⟨g, 1, none⟩ = some (.slice a1 b.length c1) := row_cell hrow 1 _ rfl
  clear hrow hown hmap hbw hkw
  go_enter Try.func66, Try.ntmps66
  go_wp2_with fail
  go_ret
  exact ⟨rfl, rfl⟩
end
theorem WNew_any (most : Int) (w : World) :
    Calls Try.prog 35 #[.int .i64 most] w fun e w' => ∃ g bm, e = .returned (.pointer (some ⟨g, 0, none⟩)) ∧ WCtx g bm w.heap.size w ∧ WS g bm w.heap.size w most [] [] false w' := by
  have hmm := @run_makeMap Try.prog
  have h1 := World.ownsMap_made w Try.prog 9 (plainElem (H := Unit) Try.prog 3)
  have h2 := heap_new1 w (.map #[] 0) (.cells #[.int .i64 most, .slice none 0 0, .map (some w.heap.size), .bool false] 106)
  have hb : Below w.heap.size w ((w.alloc (.map #[] 0)).alloc (.cells #[.int .i64 most, .slice none 0 0, .map (some w.heap.size), .bool false] 106)) := ((Below.refl _ w).alloc (Nat.le_refl _) _).alloc (by simp) _
  have H1 := Go.Lib.hid h1
  have H2 := Go.Lib.hid h2
  have HB := Go.Lib.hid hb
  clear h1 h2 hb
  go_enter Try.func35, Try.ntmps35
  go_wp2_with fail
  go_ret
  exact ⟨w.heap.size + 1, w.heap.size, rfl, ⟨by omega, Nat.le_refl _, Nat.le_refl _⟩, ⟨⟨_, H2.out, World.ownsRow_nil _ _ _ _⟩, H1.out.alloc _⟩, HB.out, .of_below HB.out⟩
end Go.Proofs.Ythfhmbooeemaaaa

/- Message: the writer: Out, Set; slices.Clone at bytes. -/
namespace Go.Proofs.Ythfhmbooeemaaaa
open Go.RowKit Go.Maps Go.Sq
set_option maxRecDepth 100000
set_option linter.unusedVariables false

set_option maxHeartbeats 1000000 in
theorem cloneB_any (a : Option Addr) (cap : Nat) (l : List UInt8) (w : World) (hst : Byts w (.slice a l.length cap) l) (hl : l.length ≤ 1099511627776) :
    Calls Try.prog 69 #[.slice a l.length cap] w fun e w' => ∃ a' c', e = .returned (.slice a' l.length c') ∧ SlT w' 5 1 (.slice a' l.length c') l.length (encB l) ∧ Below w.heap.size w w' := by
  cases a with
  | none =>
    obtain ⟨_, h1, _⟩ := hst.cap
    have hc : cap = 0 := by
      obtain ⟨_, a, c, hv, _, _, hz, _⟩ := hst
      simp only [Value.slice.injEq] at hv
      obtain ⟨rfl, _, rfl⟩ := hv
      exact hz rfl
    have hlen : l.length = 0 := by omega
    generalize hN : l.length = N at *
    subst hlen hc
    have HST := Go.Lib.hid hst
    have HN := Go.Lib.hid hN
    clear hst hN
    have hnil := run_eql_sliceNil 22 5 none 0 0 Try.underlying22 w
    simp only [Option.isNone_none] at hnil
    go_enter Try.func69, Try.ntmps69
    go_wp2_with fail
    go_ret
    have hz : SlC w 1 (.slice none 0 0) l.length (encB l) := HST.out
    rw [HN.out] at hz
    exact ⟨none, 0, rfl, ⟨hz, fun a m c hv hm => by cases hv⟩, Below.refl _ _⟩
  | some x =>
    have hone := one_byts l
    have hst2 : SlC (w.alloc (.cells #[] 5)) 1 (.slice (some x) l.length cap) l.length (encB l) := hst.below ((Below.refl _ w).alloc (Nat.le_refl _) (.cells #[] 5)) (Nat.le_refl _)
    have hnil := run_eql_sliceNil 22 5 (some x) l.length cap Try.underlying22 w
    simp only [Option.isNone_some] at hnil
    have HST := Go.Lib.hid hst
    have HST2 := Go.Lib.hid hst2
    have HONE := Go.Lib.hid hone
    clear hst hst2 hone
    go_enter Try.func69, Try.ntmps69
    go_wp2_with (at_builtin; refine wp_app0 byteEi (.tmp 5) (.tmp 6) rfl rfl w.heap.size rfl rfl HST2.out HONE.out (by unfold maxLen; omega) (by omega) (fun a' c' w' h1 h2 => ?_); have H1 := Go.Lib.hid h1; clear h1; have H2 := Go.Lib.hid h2; clear h2)
    go_ret
    exact ⟨a', c', rfl, H1.out, ((Below.refl _ w).alloc (Nat.le_refl _) _).trans (H2.out.mono (by simp))⟩
/-- what was written, or that it is too long, or that something was wrong -/
def outN (most : Int) (b : List UInt8) (bad : Bool) : List UInt8 × Int := if bad || decide (most < b.length) then ([], 3) else (b, 0)
def OutEnd (base : Nat) (w : World) (F : List UInt8 × Int) (e : Ending) (w' : World) : Prop := ∃ a c, e = .returned (.tuple #[.slice a F.1.length c, .int .i64 F.2]) ∧ SlT w' 5 1 (.slice a F.1.length c) F.1.length (encB F.1) ∧ Below w.heap.size w w'
section
variable {g bm base : Nat} {w0 : World} {most : Int} {b : List UInt8} {M : Met} {bad : Bool} {w : World}
set_option maxHeartbeats 2000000 in
theorem WOut_any (h : WS g bm base w0 most b M bad w) (hl : b.length ≤ 1099511627776) :
    Calls Try.prog 42 #[.pointer (some ⟨g, 0, none⟩)] w (OutEnd base w (outN most b bad)) := by
  obtain ⟨⟨⟨v, hrow, hown⟩, hmap⟩, hbw, hkw⟩ := h
  obtain ⟨a1, c1, rfl, _, _⟩ := (SlC.of_owns hown).slice
  have hby : Byts w (.slice a1 b.length c1) b := SlC.of_owns hown
  have hcl := fun (W : World) (h : Below w.heap.size w W) => cloneB_any a1 c1 b W (hby.below h (Nat.le_refl _)) hl
  obtain ⟨F, hF⟩ : ∃ F, F = outN most b bad := ⟨_, rfl⟩
  rw [← hF]
  unfold outN at hF
  have x0 : w.cell? ⟨g, 0, none⟩ = some (.int .i64 most) := row_cell hrow 0 _ rfl
  have x1 : w.cell? ⟨g, 1, none⟩ = some (.slice a1 b.length c1) := row_cell hrow 1 _ rfl
  have x3 : w.cell? ⟨g, 3, none⟩ = some (.bool bad) := row_cell hrow 3 _ rfl
  generalize hN : b.length = N at *
  have HCL := Go.Lib.hid hcl
  have HF := Go.Lib.hid hF
  have HN := Go.Lib.hid hN
  clear hcl hF hN
  clear hrow hown hmap hbw hkw hby
  cases bad with
  | true =>
    have hF2 : F = ([], 3) := by rw [HF.out]; rfl
    have HF2 := Go.Lib.hid hF2
    clear hF2
    go_enter Try.func42, Try.ntmps42
    go_wp2_with fail
    go_quiet (fail)
    go_wp2_with fail
    go_ret2
    exact ⟨none, 0, by rw [HF2.out]; rfl, by rw [HF2.out]; exact SlT.nil _ _ _, below_drewN (Below.refl _ _) _⟩
  | false =>
    by_cases hm : most < N
    · have hF2 : F = ([], 3) := by rw [HF.out, decide_eq_true hm]; rfl
      have HF2 := Go.Lib.hid hF2
      clear hF2
      go_enter Try.func42, Try.ntmps42
      go_wp2_with fail
      go_quiet (fail)
      go_wp2_with fail
      go_ret2
      exact ⟨none, 0, by rw [HF2.out]; rfl, by rw [HF2.out]; exact SlT.nil _ _ _, below_drewN (Below.refl _ _) _⟩
    · have hF2 : F = (b, 0) := by rw [HF.out, decide_eq_false hm]; rfl
      have HF2 := Go.Lib.hid hF2
      clear hF2
      go_enter Try.func42, Try.ntmps42
      go_wp2_with fail
      go_quiet (fail)
      go_wp2_with fail
      refine (HCL.out _ (below_drewN (Below.refl _ _) _)).mono ?_; rintro e w1 ⟨a', c', rfl, h1, h2⟩
      have H1 := Go.Lib.hid h1
      have H2 := Go.Lib.hid h2
      clear h1 h2
      go_wp2_with fail
      go_ret2
      rw [HF2.out]
      refine ⟨a', c', ?_, ?_, ?_⟩
      · rw [HN.out]; rfl
      · have := H1.out; rw [← HN.out] at this; exact this
      · exact (below_drewN (Below.refl _ _) _).trans (H2.out)
end
end Go.Proofs.Ythfhmbooeemaaaa

/- Message: the writer: Set. -/
namespace Go.Proofs.Ythfhmbooeemaaaa
open Go.RowKit Go.Maps Go.Sq
set_option maxRecDepth 100000
set_option linter.unusedVariables false

/-- two bytes put over what was written -/
def setTwo (b : List UInt8) (k : Nat) (n : Int) : List UInt8 := (b.set k (byteOf n 256)).set (k + 1) (byteOf n 1)
theorem encB_set (b : List UInt8) (k : Nat) (x : UInt8) : encB (b.set k x) = (encB b).set k (.int .u8 x.toNat) := by unfold encB; rw [List.map_set]
theorem setTwo_len (b : List UInt8) (k : Nat) (n : Int) : (setTwo b k n).length = b.length := by simp [setTwo]
section
variable {g bm base : Nat} {w0 : World} {most : Int} {b : List UInt8} {M : Met} {bad : Bool} {w : World}
/-- a byte of a writer's row was stored -/
theorem WS.stored (c : WCtx g bm base w0) {gv cv : Nat} (hrow : w.heap[g]? = some (.cells #[.int .i64 most, .slice (some ⟨gv, 0, none⟩) b.length cv, .map (some bm), .bool bad] 106 (0, 0)))
    (hown : w.ownsRow base 5 1 (.slice (some ⟨gv, 0, none⟩) b.length cv) b.length (encB b)) (hmap : w.ownsMap Try.prog 9 (plainElem (H := Unit) Try.prog 3) bm M.length (metD M)) (hb : Below base w0 w) (hk : KW bm w0 w)
    (j : Nat) (hj : j < b.length) (x : UInt8) :
    (w.setCell ⟨gv, j, none⟩ (.int .u8 x.toNat)).heap[g]? = some (.cells #[.int .i64 most, .slice (some ⟨gv, 0, none⟩) (b.set j x).length cv, .map (some bm), .bool bad] 106 (0, 0)) ∧
    (w.setCell ⟨gv, j, none⟩ (.int .u8 x.toNat)).ownsRow base 5 1 (.slice (some ⟨gv, 0, none⟩) (b.set j x).length cv) (b.set j x).length (encB (b.set j x)) ∧
    (w.setCell ⟨gv, j, none⟩ (.int .u8 x.toNat)).ownsMap Try.prog 9 (plainElem (H := Unit) Try.prog 3) bm M.length (metD M) ∧ Below base w0 (w.setCell ⟨gv, j, none⟩ (.int .u8 x.toNat)) ∧ KW bm w (w.setCell ⟨gv, j, none⟩ (.int .u8 x.toNat)) := by
  obtain ⟨cc, fz, hgv⟩ := owns_kind hown gv rfl
  have hst := (hown.stored j (.int .u8 x.toNat)).1
  have hlt := hown.lt gv rfl
  refine ⟨?_, ?_, ?_, hb.setCell (p := ⟨gv, j, none⟩) hlt.1 _, (KW.refl bm w).set (a := ⟨gv, j, none⟩) hgv (fun hT => hT.1 rfl) _⟩
  · rw [List.length_set]
    refine (heap_set_other hgv (fun e => ?_)).trans hrow
    rw [e, hgv] at hrow
    simp at hrow
  · rw [List.length_set, encB_set]; exact hst
  · exact hmap.setCell (a := ⟨gv, j, none⟩) (fun e => by
      obtain ⟨es, cl, h1, _⟩ := hmap
      have : bm = gv := e
      rw [this, hgv] at h1
      cases h1) _
set_option maxHeartbeats 2000000 in
theorem WSet_any (c : WCtx g bm base w0) (h : WS g bm base w0 most b M bad w) (k : Nat) (n : Int) (hk : k + 2 ≤ b.length) (hl : b.length ≤ 1099511627776) :
    Calls Try.prog 68 #[.pointer (some ⟨g, 0, none⟩), .int .i64 k, .int .i64 n] w (WEnd bm (WS g bm base w0 most (setTwo b k n) M bad) w) := by
  have mixed : Try.prog.follows .mixedOrders = true := by kernel_rfl
  have hlen := WLen_any h
  obtain ⟨⟨⟨v, hrow, hown⟩, hmap⟩, hbw, hkw⟩ := h
  rcases hown.2 with ⟨_, h0⟩ | ⟨gv, cv, cur, rfl, h1, h2, _⟩
  · omega
  have hrow' : w.drew.heap[g]? = _ := hrow
  obtain ⟨s1, s2, s3, s4, s5⟩ := WS.stored (w := w.drew) c hrow hown hmap hbw.drew hkw k (by omega) (byteOf n 256)
  have hlt : gv < w.heap.size := (hown.lt gv rfl).2
  have e1 := byteOf_nat n 256
  have e2 := byteOf_nat n 1
  simp only [Int.ediv_one] at e2
  obtain ⟨X, hX⟩ : ∃ X, w.drew.setCell ⟨gv, k, none⟩ (.int .u8 (n / 256 % 256)) = X := ⟨_, rfl⟩
  rw [e1, hX] at s1 s2 s3 s4 s5
  replace hX : (w.setCell ⟨gv, k, none⟩ (.int .u8 (n / 256 % 256))).drew = X := hX
  have wu1 : IntKind.u8.wrap (n / 256) = n / 256 % 256 := IntKind.wrap_u8 _
  have wu2 : IntKind.u8.wrap n = n % 256 := IntKind.wrap_u8 _
  obtain ⟨t1, t2, t3, t4, t5⟩ := WS.stored (w := X) c s1 s2 s3 s4 (hkw.trans s5) (k + 1) (by rw [List.length_set]; omega) (byteOf n 1)
  rw [e2] at t1 t2 t3 t4 t5
  have y0 : w.cell? ⟨gv, k, none⟩ = some (.int .u8 (b.getD k 0).toNat) := by
    have := hown.cellAt k (by omega)
    rw [this]; unfold encB; simp [List.getD_eq_getElem?_getD, show k < b.length by omega]
  have z0 : w.frozen? ⟨gv, k, none⟩ = false := hown.frozenAt k
  have y1 : X.cell? ⟨gv, k + 1, none⟩ = some (.int .u8 ((b.set k (byteOf n 256)).getD (k + 1) 0).toNat) := by
    have := s2.cellAt (k + 1) (by rw [List.length_set]; omega)
    rw [this]; unfold encB; simp [List.getD_eq_getElem?_getD, show k + 1 < b.length by omega]
  have z1 : X.frozen? ⟨gv, k + 1, none⟩ = false := s2.frozenAt (k + 1)
  have q1 : IntKind.i64.wrap ((b.length : Int) - 1) = (b.length : Int) - 1 := wrapi (by omega) (by omega)
  have q2 : IntKind.i64.wrap ((k : Int) + 1) = (k : Int) + 1 := wrapi (by omega) (by omega)
  have p0 : (0 : Int) ≤ (k : Int) := by omega
  have p1 : (k : Int) < (b.length : Int) - 1 := by omega
  have p2 : (k : Int) < (b.length : Int) := by omega
  have p3 : (k : Int) + 1 < (b.length : Int) := by omega
  have p4 : (0 : Int) ≤ (k : Int) + 1 := by omega
  have p5 : ((k : Int) + 1).toNat = k + 1 := by omega
  have hfin : WS g bm base w0 most (setTwo b k n) M bad (X.setCell ⟨gv, k + 1, none⟩ (.int .u8 (n % 256))) := ⟨⟨⟨_, t1, t2⟩, t3⟩, t4, (hkw.trans s5).trans t5⟩
  have hkf : KW bm w (X.setCell ⟨gv, k + 1, none⟩ (.int .u8 (n % 256))) := KW.trans s5 t5
  rw [List.length_set] at s1
  have hr0 : RowC g #[.int .i64 most, .slice (some ⟨gv, 0, none⟩) b.length cv, .map (some bm), .bool bad] 106 w.drew := hrow
  have C1 := fun w3 => RowC.cell (g := g) (cs := #[.int .i64 most, .slice (some ⟨gv, 0, none⟩) b.length cv, .map (some bm), .bool bad]) (T := 106) 1 _ rfl w3
  have hnn : Nonempty (Subtype (RowC g #[.int .i64 most, .slice (some ⟨gv, 0, none⟩) b.length cv, .map (some bm), .bool bad] 106)) := ⟨⟨w.drew, hrow⟩⟩
  have HLEN := Go.Lib.hid hlen
  have S1 := Go.Lib.hid s1
  have HFIN := Go.Lib.hid hfin
  have HKF := Go.Lib.hid hkf
  have HR0 := Go.Lib.hid hr0
  clear hlen s1 hfin hkf hr0
  clear hrow hown hmap hbw hkw s2 s3 s4 s5 t1 t2 t3 t4 t5 h1 h2 hrow' hlt e1 e2
  generalize b.length = N at *
  go_enter Try.func68, Try.ntmps68
  go_wp2_with fail
  refine HLEN.out.mono ?_; rintro e _ ⟨rfl, rfl⟩
  go_wp2_with fail
  refine Go.Mix.wp_region_mixT (Es := [17]) 19 (RowC g #[.int .i64 most, .slice (some ⟨gv, 0, none⟩) N cv, .map (some bm), .bool bad] 106) mixed (by kernel_rfl) HR0.out ?_
  iterate 17 (refine Go.Mix.mixT_step rfl (fun K hK => ?_); have HKK := Go.Lib.hid hK; clear hK; go_simp; refine HKK.out _ _ ?_; clear HKK K)
  refine Go.Mix.mixT_eff rfl (fun K hK => ?_)
  have HKK := Go.Lib.hid hK
  clear hK
  go_simp
  try rw [hX]
  refine HKK.out _ _ S1.out ?_
  clear HKK K y0 z0 hX
  iterate 1 (refine Go.Mix.mixT_step rfl (fun K hK => ?_); have HKK := Go.Lib.hid hK; clear hK; go_simp; refine HKK.out _ _ ?_; clear HKK K)
  refine Go.Mix.mixT_last rfl (fun K hK => ?_)
  have HKK := Go.Lib.hid hK
  clear hK
  clear C1
  go_simp
  refine HKK.out _ _ ?_
  clear HKK K hnn y1 z1
  go_wp2_with fail
  go_end0
  exact ⟨⟨_, rfl⟩, HFIN.out, HKF.out⟩
end
end Go.Proofs.Ythfhmbooeemaaaa

/- The contract of name.Parent. -/
namespace Go.Proofs.Ythfhmbooeemaaaa
open Go.RowKit

theorem wire_get {l : List UInt8} {r : List (List UInt8)} {s : ByteArray} (hs : bl s = Nm.wire (l :: r)) (hg : Nm.GoodL (l :: r)) :
    ∃ h : 0 < s.size, (s[0]).toNat = l.length ∧ 1 + l.length ≤ s.size ∧ s.extract 1 (1 + l.length) = mk l ∧ s.extract (1 + l.length) s.size = mk (Nm.wire r) ∧ s.size = 1 + l.length + (Nm.wire r).length := by
  have hsz : s.size = 1 + l.length + (Nm.wire r).length := by rw [size_bl, hs, Nm.wire_cons]; simp; omega
  have h0 : 0 < s.size := by omega
  obtain ⟨⟨_, h63⟩, _⟩ := Nm.good_cons.1 hg
  refine ⟨h0, ?_, by omega, ?_, ?_, hsz⟩
  · have h1 := getq h0
    rw [hs, Nm.wire_cons] at h1
    simp only [List.getElem?_cons_zero, Option.some.injEq] at h1
    rw [← h1]
    exact Nm.ofNat_toNat h63
  · rw [extract_mk, hs, Nm.wire_cons]
    simp
  · rw [extract_mk, hs, Nm.wire_cons, hsz]
    congr 1
    rw [show 1 + l.length = l.length + 1 from by omega, List.drop_succ_cons, List.drop_left]
    exact List.take_of_length_le (by omega)

theorem mk_root : mk [0] = ⟨#[0]⟩ := rfl

set_option maxRecDepth 100000 in
theorem Parent_any (s : ByteArray) (w : World) (hs : s.size ≤ maxLen) :
    Calls Try.prog 65 #[.string s] w fun e w' => e = .returned (.string (mk (Nm.parentN (bl s)))) ∧ w = w' := by
  have hv := valid_any s w hs
  cases hc : Nm.valid (bl s) with
  | false =>
    rw [hc] at hv
    have hfin : Hid (mk (Nm.parentN (bl s)) = ⟨#[0]⟩) := Go.Lib.hid (by unfold Nm.parentN; rw [Nm.labs_not hc]; rfl)
    have HV := Go.Lib.hid hv
    clear hv hc hs
    go_enter Try.func65, Try.ntmps65
    go_wp2_with (go_at_call 44; refine HV.out.mono ?_; rintro e w' ⟨rfl, rfl⟩)
    go_ret
    exact ⟨ret_str hfin.out.symm, rfl⟩
  | true =>
    rw [hc] at hv
    have HV := Go.Lib.hid hv
    obtain ⟨h1, h2, h3⟩ := Nm.labs_valid hc
    cases hl : Nm.labs (bl s) with
    | nil =>
      have hfin : Hid (mk (Nm.parentN (bl s)) = ⟨#[0]⟩) := Go.Lib.hid (by unfold Nm.parentN; rw [hl]; rfl)
      have heq : (s.toList == [0]) = true := by rw [toList_bl, h1, hl]; rfl
      clear hv hc hs h1 h2 h3 hl
      go_enter Try.func65, Try.ntmps65
      go_wp2_with (go_at_call 44; refine HV.out.mono ?_; rintro e w' ⟨rfl, rfl⟩)
      go_ret
      exact ⟨ret_str hfin.out.symm, rfl⟩
    | cons l r =>
      rw [hl] at h1 h2
      have heq : (s.toList == [0]) = false := by rw [toList_bl, h1, beq_eq_false_iff_ne]; exact Nm.wire_ne_root
      obtain ⟨h0, hc0, hfit, _, he2, hsz2⟩ := wire_get h1 h2
      have hfin : Hid (mk (Nm.parentN (bl s)) = s.extract (1 + l.length) s.size) := Go.Lib.hid (by unfold Nm.parentN; rw [hl, he2]; rfl)
      generalize hcc : s[0] = c at hc0
      have hcb := c.toNat_lt
      rw [← hc0] at hfin hfit
      clear hv hc hs h1 h2 h3 hl he2 hsz2 hc0
      have p2 : 1 + (c.toNat : Int) ≤ (s.size : Int) := by omega
      go_enter Try.func65, Try.ntmps65
      go_wp2_with (go_at_call 44; refine HV.out.mono ?_; rintro e w' ⟨rfl, rfl⟩)
      go_ret
      exact ⟨ret_str hfin.out.symm, rfl⟩
end Go.Proofs.Ythfhmbooeemaaaa

/- Message: the writer: Name. -/
namespace Go.Proofs.Ythfhmbooeemaaaa
open Go.RowKit Go.Maps Go.Sq
set_option maxRecDepth 100000
set_option linter.unusedVariables false

theorem mixT_mapUpdate {H : Type} {P : Program} {w : World} {ops : Array Oper} {o : Oper} {a : Act} {Es : List Nat} {C : World → Prop} {Q : Act → World → Prop} {k tl : Nat}
    (hk : (k == tl) = true) (hgd : Region.wanted o (yielded ops a.tmps) = true) (m x v : Operand) (t : TypeId) (hop : o.op = Op.mapUpdate t m x v)
    (kt e : TypeId) (K : Keyed P kt) (ht : P.underlying t = some (.map kt e)) (R : Value → Option (DataW H × List MemPlace)) (b n : Nat) (D : DataW H)
    (hm : a.eval m = .map (some b)) (hown : w.ownsMap P kt R b n D) (hn : n < maxLen) (key val : Value) (kl : Lit) (hx : a.eval x = key) (hv : a.eval v = val) (hkey : keyOf P kt key = some kl)
    (d : DataW H) (ps : List MemPlace) (hval : R val = some (d, ps))
    (h : ∀ w', w'.ownsMap P kt R b (n + 1) (D.put kl d) → w.grownBy w' (some b) → Q (a.put o.dst undef) w') : Go.Mix.MixT P ops (fun k => Es.contains k) C Q tl k [o] a w :=
  Go.Mix.mixT_last hk fun K' hK => by
    rw [if_pos hgd]
    obtain ⟨w', hrun, r1, r2⟩ := hown.update K ht hn hkey hval
    unfold Oper.wp
    simp [execOp, hop, hm, hx, hv, hrun, Result.andThen]
    exact hK _ _ (h w' r1 r2)

/-- a name's labels written: the bytes, and what was met -/
def nameW (sq : Bool) : List (List UInt8) → List UInt8 → Met → List UInt8 × Met
  | [], b, M => (b ++ [0], M)
  | l :: ls, b, M => match (if sq then look M (Nm.wire (l :: ls)) else none) with
    | some k => (b ++ two2 (49152 + (k : Int)), M)
    | none => nameW sq ls (b ++ (UInt8.ofNat l.length :: l)) (if sq && decide (b.length < 16384) then M ++ [(Nm.wire (l :: ls), b.length)] else M)
/-- places of pointers -/
def MOk (M : Met) : Prop := ∀ n k, look M n = some k → k < 16384
theorem MOk.nil : MOk [] := fun n k h => by cases h
theorem MOk.snoc {M : Met} (h : MOk M) (x : List UInt8) {v : Nat} (hv : v < 16384) : MOk (M ++ [(x, v)]) := fun n k e => by
  rw [look_snoc] at e
  split at e
  · cases e; exact hv
  · exact h n k e
theorem nameW_ok (sq : Bool) : ∀ (ls : List (List UInt8)) (b : List UInt8) (M : Met), MOk M → MOk (nameW sq ls b M).2 ∧ (nameW sq ls b M).1.length ≤ b.length + (Nm.wire ls).length
  | [], b, M, h => ⟨h, by simp [nameW, Nm.wire_nil]⟩
  | l :: ls, b, M, h => by
    rw [nameW]
    split
    · refine ⟨h, ?_⟩
      rw [Nm.wire_cons]
      have := Nm.wire_length_gt ls
      simp [two2]
      omega
    · have h2 := nameW_ok sq ls (b ++ (UInt8.ofNat l.length :: l)) (if sq && decide (b.length < 16384) then M ++ [(Nm.wire (l :: ls), b.length)] else M) (by
        split
        · rename_i hc
          simp only [Bool.and_eq_true, decide_eq_true_eq] at hc
          exact h.snoc _ hc.2
        · exact h)
      refine ⟨h2.1, Nat.le_trans h2.2 ?_⟩
      rw [Nm.wire_cons]
      simp
      omega
/-- a name written, or that it is none -/
def nameN (n : List UInt8) (sq : Bool) (b : List UInt8) (M : Met) (bad : Bool) : List UInt8 × Met × Bool := if Nm.valid n then ((nameW sq (Nm.labs n) b M).1, (nameW sq (Nm.labs n) b M).2, bad) else (b, M, true)
def sLen : Value → Nat
  | .string s => s.size
  | _ => 0
theorem law_str : Keyed Try.prog 9 := string_keyed Try.underlying9
theorem zero_int (w : World) : (zeroValue 3).run Try.prog w = .ok (.int .i64 0) w := by kernel_rfl
theorem key_mk (n : List UInt8) (h : n.length ≤ 1000000) : keyOf Try.prog 9 (.string (mk n)) = some (.string n) := by
  have := Go.WideMaps.keyOf_string_mk (P := Try.prog) Try.underlying9 (s := mk n) (by rw [size_mk]; unfold maxLen; omega)
  rw [this]
  congr 2
section
variable {g bm base : Nat} {w0 : World} {most : Int} {b : List UInt8} {M : Met} {bad : Bool} {w : World}
theorem WS.fail (c : WCtx g bm base w0) (h : WS g bm base w0 most b M bad w) : WS g bm base w0 most b M true (w.setCell ⟨g, 3, none⟩ (.bool true)) ∧ KW bm w (w.setCell ⟨g, 3, none⟩ (.bool true)) := by
  obtain ⟨⟨⟨v, hrow, hown⟩, hmap⟩, hbw, hkw⟩ := h
  have hk := (KW.refl bm w).set (a := ⟨g, 3, none⟩) hrow (fun hT => hT.2 rfl) (.bool true)
  refine ⟨⟨⟨⟨v, heap_set hrow, World.ownsRow.setCellOther hown hrow (by decide) _ _⟩, hmap.setCell (a := ⟨g, 3, none⟩) (fun e => ?_) _⟩, hbw.setCell (p := ⟨g, 3, none⟩) c.hg _, hkw.trans hk⟩, hk⟩
  obtain ⟨es, cl, h1, _⟩ := hmap
  have : bm = g := e
  rw [this, hrow] at h1
  cases h1
set_option maxHeartbeats 2000000 in
theorem WName_not (c : WCtx g bm base w0) (h : WS g bm base w0 most b M bad w) (n : List UInt8) (sq : Bool) (hn : n.length ≤ maxLen) (hv : Nm.valid n = false) :
    Calls Try.prog 39 #[.pointer (some ⟨g, 0, none⟩), .string (mk n), .bool sq] w (WEnd bm (WS g bm base w0 most b M true) w) := by
  have hva := valid_any (mk n) w (by rw [size_mk]; exact hn)
  rw [bl_mk, hv] at hva
  have hf := h.fail c
  obtain ⟨⟨⟨v, hrow, hown⟩, hmap⟩, hbw, hkw⟩ := h
  have y3 : w.cell? ⟨g, 3, none⟩ = some (.bool bad) := row_cell hrow 3 _ rfl
  have z3 : w.frozen? ⟨g, 3, none⟩ = false := row_frozen hrow 3
  have HVA := Go.Lib.hid hva
  have HF := Go.Lib.hid hf
  clear hva hf
  clear hrow hown hmap hbw hkw hv
  go_enter Try.func39, Try.ntmps39
  go_wp2_with fail
  refine HVA.out.mono ?_; rintro e _ ⟨rfl, rfl⟩
  go_wp2_with fail
  go_end0
  exact ⟨⟨_, rfl⟩, HF.out.1, HF.out.2⟩
theorem kpt_mapped {w W : World} {n : Nat} {D : DataW Unit} (hm : w.ownsMap Try.prog 9 (plainElem (H := Unit) Try.prog 3) bm n D) (hg : w.drew.grownBy W (some bm)) : KW bm w W :=
  (KW.refl bm w).drew.grown hg (fun k hr => by
    cases hr
    obtain ⟨es, cl, h1, _⟩ := hm
    exact .inr ⟨rfl, _, h1, rfl⟩)
theorem WS.mapped {W : World} (c : WCtx g bm base w0) (h : WS g bm base w0 most b M bad w) {x : List UInt8} {v : Nat} (hmap : W.ownsMap Try.prog 9 (plainElem (H := Unit) Try.prog 3) bm (M.length + 1) ((metD M).put (.string x) (.lit (.int .i64 v)))) (hg : w.drew.grownBy W (some bm)) :
    WS g bm base w0 most b (M ++ [(x, v)]) bad W := by
  obtain ⟨⟨⟨u, hrow, hown⟩, hm⟩, hbw, hkw⟩ := h
  have hk := kpt_mapped hm hg
  have hne : ∀ k, u.ownBlock = some k → k ≠ bm := fun k hu e => by
    obtain ⟨cc, fz, hk2⟩ := owns_kind hown k hu
    obtain ⟨es, cl, h1, _⟩ := hm
    rw [e, h1] at hk2
    cases hk2
  have hgb : g ≠ bm := fun e => by
    obtain ⟨es, cl, h1, _⟩ := hm
    rw [e, h1] at hrow
    cases hrow
  refine ⟨⟨⟨u, (hg.block g (Array.getElem?_eq_some_iff.1 hrow).1 (by simp [hgb])).trans hrow, World.ownsRow.kept (show w.drew.ownsRow base _ 1 u b.length (encB b) from hown) hg ?_⟩, ?_⟩, hbw.drew.grown hg (Nat.le_trans c.hb hbw.size) (fun k e => by cases e; exact c.hm), hkw.trans hk⟩
  · cases hu : u.ownBlock with
    | none => exact .inl rfl
    | some k => exact .inr (by simp only [ne_eq, Option.some.injEq]; exact hne k hu)
  · rw [metD_snoc, List.length_append]; exact hmap
set_option maxHeartbeats 8000000 in
theorem WName_wire (c : WCtx g bm base w0) (h : WS g bm base w0 most b M bad w) (ls0 : List (List UInt8)) (sq : Bool) (hg0 : Nm.GoodL ls0) (hl0 : (Nm.wire ls0).length ≤ 255) (hM : MOk M) (hML : M.length ≤ b.length) (hl : b.length ≤ 1000000000) :
    Calls Try.prog 39 #[.pointer (some ⟨g, 0, none⟩), .string (mk (Nm.wire ls0)), .bool sq] w (WEnd bm (WS g bm base w0 most (nameW sq ls0 b M).1 (nameW sq ls0 b M).2 bad) w) := by
  have mixed : Try.prog.follows .mixedOrders = true := by kernel_rfl
  have hva := valid_any (mk (Nm.wire ls0)) w (by rw [size_mk]; unfold maxLen; omega)
  rw [bl_mk, Nm.valid_wire hg0 hl0] at hva
  obtain ⟨F, hF⟩ : ∃ F, F = nameW sq ls0 b M := ⟨_, rfl⟩
  rw [← hF]
  have HVA := Go.Lib.hid hva
  have H0 := Go.Lib.hid h
  have HF := Go.Lib.hid hF
  have C := Go.Lib.hid c
  clear hva h hF c
  go_enter Try.func39, Try.ntmps39
  go_wp2_with fail
  refine HVA.out.mono ?_; rintro e _ ⟨rfl, rfl⟩
  go_wp2_with fail
  go_loopw [1] (fun v1 wr => ∃ (ls : List (List UInt8)) (b1 : List UInt8) (M1 : Met), v1 = .string (mk (Nm.wire ls)) ∧ Nm.GoodL ls ∧ (Nm.wire ls).length ≤ 255 ∧ F = nameW sq ls b1 M1 ∧ MOk M1 ∧ M1.length ≤ b1.length ∧ b1.length + (Nm.wire ls).length ≤ b.length + 255 ∧
    WS g bm base w0 most b1 M1 bad wr ∧ KW bm w wr) (fun v1 _ => sLen v1)
  case atStart => exact ⟨ls0, b, M, rfl, hg0, hl0, HF.out, hM, hML, by omega, H0.out, KW.refl _ _⟩
  case round =>
    obtain ⟨ls, b1, M1, rfl, hg, hlw, hrest, hMM, hml, hbl, hws, hkp⟩ := hrel
    cases ls with
    | nil =>
      have e1 : ((mk (Nm.wire [])).toList == [0]) = true := by rw [toList_bl, bl_mk]; rfl
      rw [nameW] at hrest
      have hb := (Below.refl wr.heap.size wr).alloc (Nat.le_refl _) (.cells #[.int .u8 0] 5)
      have hx : Byts (wr.alloc (.cells #[.int .u8 0] 5)) (.slice (some ⟨wr.heap.size, 0, none⟩) 1 1) [0] := slc_new wr 1 1 5 [.int .u8 0] rfl (by decide)
      have hcl := WBytes_any C.out (hws.below C.out hb) _ [0] hx (by simp; omega)
      have hkb := hkp.trans (KW.of_below hb)
      have HCL := Go.Lib.hid hcl
      have HKB := Go.Lib.hid hkb
      have HREST := Go.Lib.hid hrest
      clear hcl hkb hrest
      clear hws hkp hx hb
      generalize Nm.wire [] = nr at *
      go_wp2_with fail
      refine HCL.out.mono ?_; rintro e w1 ⟨⟨v, rfl⟩, h1, h2⟩
      have H1 := Go.Lib.hid h1
      have H2 := Go.Lib.hid h2
      clear h1 h2
      go_wp2_with fail
      go_end0
      exact ⟨⟨_, rfl⟩, by rw [HREST.out]; exact H1.out, HKB.out.trans H2.out⟩
    | cons l r =>
      have e1 : ((mk (Nm.wire (l :: r))).toList == [0]) = false := by rw [toList_bl, bl_mk, beq_eq_false_iff_ne]; exact Nm.wire_ne_root
      obtain ⟨⟨_, h63⟩, hgr⟩ := Nm.good_cons.1 hg
      have hkey := key_mk (Nm.wire (l :: r)) (by omega)
      obtain ⟨h0, hc0, hfit, _, he2, hsz2⟩ := wire_get (s := mk (Nm.wire (l :: r))) (bl_mk _) hg
      have hwl : (Nm.wire (l :: r)).length = 1 + l.length + (Nm.wire r).length := by rw [Nm.wire_cons]; simp; omega
      have hpre : bl ((mk (Nm.wire (l :: r))).extract 0 (1 + l.length)) = UInt8.ofNat l.length :: l := by
        rw [bl_extract, bl_mk, Nm.wire_cons, show 1 + l.length - 0 = l.length + 1 by omega]
        simp
      have hpar := fun W => Parent_any (mk (Nm.wire (l :: r))) W (by rw [size_mk]; unfold maxLen; omega)
      have hpn : Nm.parentN (bl (mk (Nm.wire (l :: r)))) = Nm.wire r := by
        rw [bl_mk]
        unfold Nm.parentN
        rw [Nm.labs_of_wire hg hlw]
        rfl
      rw [hpn] at hpar
      have hps : ((mk (Nm.wire (l :: r))).extract 0 (1 + l.length)).size = 1 + l.length := by rw [size_bl, hpre]; simp; omega
      have hcv := fun W => run_conv_bytes ((mk (Nm.wire (l :: r))).extract 0 (1 + l.length)) (by rw [hps]; unfold maxLen; omega) W
      rw [hpre, hps] at hcv
      have hmeas : sLen (.string (mk (Nm.wire r))) < sLen (.string (mk (Nm.wire (l :: r)))) := by
        show (mk (Nm.wire r)).size < (mk (Nm.wire (l :: r))).size
        rw [size_mk, size_mk]
        omega
      have hlook := metD_look M1 (Nm.wire (l :: r))
      rw [nameW] at hrest
      generalize hn : Nm.wire (l :: r) = n at *
      generalize hs : mk n = s at *
      generalize hcc : s[0] = ch at hc0
      have q1 : IntKind.i64.wrap (1 + (l.length : Int)) = 1 + (l.length : Int) := wrapi (by omega) (by omega)
      have q2 : IntKind.i64.wrap (l.length : Int) = (l.length : Int) := wrapi (by omega) (by omega)
      have p2 : 1 + (l.length : Int) ≤ (s.size : Int) := by omega
      have p3 : (0 : Int) ≤ 1 + (l.length : Int) := by omega
      have p4 : (1 + (l.length : Int)).toNat = 1 + l.length := by omega
      have hM1 := hMM
      obtain ⟨⟨⟨v, hrow, hown⟩, hmap⟩, hbw, hkw⟩ := hws
      obtain ⟨av, cv, rfl, _, _⟩ := (SlC.of_owns hown).slice
      have hml2 : M1.length < maxLen := by unfold maxLen; omega
      have y1 : wr.cell? ⟨g, 1, none⟩ = some (.slice av b1.length cv) := row_cell hrow 1 _ rfl
      have y2 : wr.cell? ⟨g, 2, none⟩ = some (.map (some bm)) := row_cell hrow 2 _ rfl
      have hwsr : WS g bm base w0 most b1 M1 bad wr := ⟨⟨⟨_, hrow, hown⟩, hmap⟩, hbw, hkw⟩
      have HROW := Go.Lib.hid hrow
      have HMAP := Go.Lib.hid hmap
      have HWS := Go.Lib.hid hwsr
      have HKP := Go.Lib.hid hkp
      have HREST := Go.Lib.hid hrest
      have HCV := Go.Lib.hid hcv
      have HPAR := Go.Lib.hid hpar
      have HLOOK := Go.Lib.hid hlook
      have HMEAS := Go.Lib.hid hmeas
      have HKEY := Go.Lib.hid hkey
      have HMM := Go.Lib.hid hMM
      have HM1 := Go.Lib.hid hM1
      clear hrow hmap hwsr hkp hrest hcv hpar hlook hmeas hkey hMM hM1
      clear hown hbw hkw hpn hpre hps hsz2 he2 hn hs hg
      cases hL : look M1 n with
      | some k =>
        have hk := HM1.out n k hL
        have hcv2 : ∀ c : Int, (metD M1).atKey (.string n) (.lit (.int .i64 0)) = .lit (.int .i64 c) → c = (k : Int) := fun c h => by
          rw [HLOOK.out.2, hL] at h
          simp at h
          exact h.symm
        have hhas : has (metD M1) (.string n) = true := by rw [HLOOK.out.1, hL]; rfl
        have HCV2 := Go.Lib.hid hcv2
        have HHAS := Go.Lib.hid hhas
        clear hcv2 hhas
        cases sq with
        | true =>
          have hF2 : F = (b1 ++ two2 (49152 + (k : Int)), M1) := by rw [HREST.out, if_pos rfl, hL]
          have hor := or_low 3 k 14 (by omega) (by omega)
          have hor2 : bits .or .i64 49152 (k : Int) = 49152 + (k : Int) := by
            rw [show (49152 : Int) = ((2 ^ 14 * 3 : Nat) : Int) by omega, hor]; omega
          have htw := WTwo_any C.out HWS.out (49152 + (k : Int)) (by omega)
          have HF2 := Go.Lib.hid hF2
          have HTW := Go.Lib.hid htw
          clear hF2 htw
          clear hor hL
          go_wp2_with (at_lookup; refine wpList_lookup_own_ok_int _ rfl _ _ 104 rfl 9 3 .i64 law_str Try.underlying104 Try.underlying3 (zero_int _) bm M1.length (metD M1) rfl HMAP.out _ _ rfl HKEY.out ?_; intro cq hat hwc; rw [HHAS.out]; obtain rfl := HCV2.out cq hat; clear hat hwc)
          refine HTW.out.mono ?_; rintro e w1 ⟨⟨v, rfl⟩, h1, h2⟩
          have H1 := Go.Lib.hid h1
          have H2 := Go.Lib.hid h2
          clear h1 h2
          go_wp2_with fail
          go_end0
          exact ⟨⟨_, rfl⟩, by rw [HF2.out]; exact H1.out, HKP.out.trans H2.out⟩
        | false =>
          have hF2 : F = nameW false r (b1 ++ (UInt8.ofNat l.length :: l)) M1 := HREST.out
          have HMM2 := HMM
          have HF2 := Go.Lib.hid hF2
          clear hF2
          clear hL
          go_upto_region 10 with (at_lookup; refine wpList_lookup_own_ok_int _ rfl _ _ 104 rfl 9 3 .i64 law_str Try.underlying104 Try.underlying3 (zero_int _) bm M1.length (metD M1) rfl HMAP.out _ _ rfl HKEY.out ?_; intro cq hat hwc; rw [HHAS.out]; obtain rfl := HCV2.out cq hat; clear hat hwc)
          obtain ⟨cap, W2, hrun, hcap, hcm, hrow2, hb2, hsz⟩ := HCV.out wr
          have hx : Byts W2 (.slice (some ⟨wr.heap.size, 0, none⟩) (1 + l.length) cap) (UInt8.ofNat l.length :: l) := by
            have := hrow2.slc (n := 1 + l.length) (by simp; omega) hcap hcm
            unfold Byts
            rw [show (UInt8.ofNat l.length :: l).length = 1 + l.length by simp; omega]
            exact this
          have hcl := WBytes_any C.out (HWS.out.below C.out hb2) _ (UInt8.ofNat l.length :: l) hx (by simp; omega)
          have hkb := HKP.out.trans (KW.of_below hb2)
          have hml3 : M1.length ≤ (b1 ++ (UInt8.ofNat l.length :: l)).length := by simp; omega
          have hbl2 : (b1 ++ (UInt8.ofNat l.length :: l)).length + (Nm.wire r).length ≤ b.length + 255 := by rw [List.length_append]; simp; omega
          have HCL := Go.Lib.hid hcl
          have HKB := Go.Lib.hid hkb
          have HBL2 := Go.Lib.hid hbl2
          have HML2 := Go.Lib.hid hml3
          clear hcl hkb hbl2 hml3
          clear hx hrow2 hb2 hsz hcap hcm
          go_wp2_with fail
          clear hrun
          refine HCL.out.mono ?_; rintro e w1 ⟨⟨v, rfl⟩, h1, h2⟩
          have H1 := Go.Lib.hid h1
          have H2 := Go.Lib.hid h2
          clear h1 h2
          go_wp2_with fail
          refine (HPAR.out w1).mono ?_; rintro e _ ⟨rfl, rfl⟩
          go_wp2_with fail
          go_roundw
          case rel => exact ⟨r, b1 ++ (UInt8.ofNat l.length :: l), M1, rfl, hgr, by omega, HF2.out, HMM2.out, HML2.out, HBL2.out, H1.out, HKB.out.trans H2.out⟩
          case measure => exact HMEAS.out
      | none =>
        have hcv2 : ∀ c : Int, (metD M1).atKey (.string n) (.lit (.int .i64 0)) = .lit (.int .i64 c) → c = 0 := fun c h => by
          rw [HLOOK.out.2, hL] at h
          simp at h
          exact h.symm
        have hhas : has (metD M1) (.string n) = false := by rw [HLOOK.out.1, hL]; rfl
        have HCV2 := Go.Lib.hid hcv2
        have HHAS := Go.Lib.hid hhas
        clear hcv2 hhas
        cases sq with
        | false =>
          have hF2 : F = nameW false r (b1 ++ (UInt8.ofNat l.length :: l)) M1 := HREST.out
          have HMM2 := HMM
          have HF2 := Go.Lib.hid hF2
          clear hF2
          clear hL
          go_upto_region 10 with (at_lookup; refine wpList_lookup_own_ok_int _ rfl _ _ 104 rfl 9 3 .i64 law_str Try.underlying104 Try.underlying3 (zero_int _) bm M1.length (metD M1) rfl HMAP.out _ _ rfl HKEY.out ?_; intro cq hat hwc; rw [HHAS.out]; obtain rfl := HCV2.out cq hat; clear hat hwc)
          obtain ⟨cap, W2, hrun, hcap, hcm, hrow2, hb2, hsz⟩ := HCV.out wr
          have hx : Byts W2 (.slice (some ⟨wr.heap.size, 0, none⟩) (1 + l.length) cap) (UInt8.ofNat l.length :: l) := by
            have := hrow2.slc (n := 1 + l.length) (by simp; omega) hcap hcm
            unfold Byts
            rw [show (UInt8.ofNat l.length :: l).length = 1 + l.length by simp; omega]
            exact this
          have hcl := WBytes_any C.out (HWS.out.below C.out hb2) _ (UInt8.ofNat l.length :: l) hx (by simp; omega)
          have hkb := HKP.out.trans (KW.of_below hb2)
          have hml3 : M1.length ≤ (b1 ++ (UInt8.ofNat l.length :: l)).length := by simp; omega
          have hbl2 : (b1 ++ (UInt8.ofNat l.length :: l)).length + (Nm.wire r).length ≤ b.length + 255 := by rw [List.length_append]; simp; omega
          have HCL := Go.Lib.hid hcl
          have HKB := Go.Lib.hid hkb
          have HBL2 := Go.Lib.hid hbl2
          have HML2 := Go.Lib.hid hml3
          clear hcl hkb hbl2 hml3
          clear hx hrow2 hb2 hsz hcap hcm
          go_wp2_with fail
          clear hrun
          refine HCL.out.mono ?_; rintro e w1 ⟨⟨v, rfl⟩, h1, h2⟩
          have H1 := Go.Lib.hid h1
          have H2 := Go.Lib.hid h2
          clear h1 h2
          go_wp2_with fail
          refine (HPAR.out w1).mono ?_; rintro e _ ⟨rfl, rfl⟩
          go_wp2_with fail
          go_roundw
          case rel => exact ⟨r, b1 ++ (UInt8.ofNat l.length :: l), M1, rfl, hgr, by omega, HF2.out, HMM2.out, HML2.out, HBL2.out, H1.out, HKB.out.trans H2.out⟩
          case measure => exact HMEAS.out
        | true =>
          by_cases hsm : b1.length < 16384
          · have hF2 : F = nameW true r (b1 ++ (UInt8.ofNat l.length :: l)) (M1 ++ [(n, b1.length)]) := by rw [HREST.out, if_pos rfl, hL, if_pos (by simp [hsm])]
            have HMM2 := Go.Lib.hid (HMM.out.snoc n hsm)
            have t1 : (b1.length : Int) < 16384 := by omega
            have hrd : RowC g #[.int .i64 most, .slice av b1.length cv, .map (some bm), .bool bad] 106 wr.drew := HROW.out
            have hnn : Nonempty (Subtype (RowC g #[.int .i64 most, .slice av b1.length cv, .map (some bm), .bool bad] 106)) := ⟨⟨wr, HROW.out⟩⟩
            have C1 := fun w3 => RowC.cell (g := g) (cs := #[.int .i64 most, .slice av b1.length cv, .map (some bm), .bool bad]) (T := 106) 1 _ rfl w3
            have C2 := fun w3 => RowC.cell (g := g) (cs := #[.int .i64 most, .slice av b1.length cv, .map (some bm), .bool bad]) (T := 106) 2 _ rfl w3
            have HF2 := Go.Lib.hid hF2
            have HRD := Go.Lib.hid hrd
            clear hF2 hrd
            clear hL hsm
            go_wp2_with (at_lookup; refine wpList_lookup_own_ok_int _ rfl _ _ 104 rfl 9 3 .i64 law_str Try.underlying104 Try.underlying3 (zero_int _) bm M1.length (metD M1) rfl HMAP.out _ _ rfl HKEY.out ?_; intro cq hat hwc; rw [HHAS.out]; obtain rfl := HCV2.out cq hat; clear hat hwc)
            refine Go.Mix.wp_region_mixT (Es := []) 10 (RowC g #[.int .i64 most, .slice av b1.length cv, .map (some bm), .bool bad] 106) mixed (by kernel_rfl) HRD.out ?_
            iterate 10 (refine Go.Mix.mixT_step rfl (fun K hK => ?_); have HKK := Go.Lib.hid hK; clear hK; go_simp; refine HKK.out _ _ ?_; clear HKK K)
            refine mixT_mapUpdate rfl rfl _ _ _ 104 rfl 9 3 law_str Try.underlying104 (plainElem Try.prog 3) bm M1.length (metD M1) rfl HMAP.out.drew hml2 _ _ (.string n) rfl rfl HKEY.out (.lit (.int .i64 b1.length)) [] (plainElem_int Try.underlying3 (WalkArith.wf_i64 (by omega))) ?_
            intro W hmap2 hg2
            clear C1 C2 hnn y1 y2
            have hws2 := HWS.out.mapped C.out (x := n) (v := b1.length) hmap2 hg2
            have hkp2 : KW bm w W := HKP.out.trans (kpt_mapped HMAP.out hg2)
            have HWS2 := Go.Lib.hid hws2
            have HKP2 := Go.Lib.hid hkp2
            clear hws2 hkp2
            clear hmap2 hg2
            go_upto_region 10 with fail
            obtain ⟨cap, W2, hrun, hcap, hcm, hrow2, hb2, hsz⟩ := HCV.out W
            have hx : Byts W2 (.slice (some ⟨W.heap.size, 0, none⟩) (1 + l.length) cap) (UInt8.ofNat l.length :: l) := by
              have := hrow2.slc (n := 1 + l.length) (by simp; omega) hcap hcm
              unfold Byts
              rw [show (UInt8.ofNat l.length :: l).length = 1 + l.length by simp; omega]
              exact this
            have hcl := WBytes_any C.out (HWS2.out.below C.out hb2) _ (UInt8.ofNat l.length :: l) hx (by simp; omega)
            have hkb := HKP2.out.trans (KW.of_below hb2)
            have hml3 : (M1 ++ [(n, b1.length)]).length ≤ (b1 ++ (UInt8.ofNat l.length :: l)).length := by simp; omega
            have hbl2 : (b1 ++ (UInt8.ofNat l.length :: l)).length + (Nm.wire r).length ≤ b.length + 255 := by rw [List.length_append]; simp; omega
            have HCL := Go.Lib.hid hcl
            have HKB := Go.Lib.hid hkb
            have HBL2 := Go.Lib.hid hbl2
            have HML2 := Go.Lib.hid hml3
            clear hcl hkb hbl2 hml3
            clear hx hrow2 hb2 hsz hcap hcm
            go_wp2_with fail
            clear hrun
            refine HCL.out.mono ?_; rintro e w1 ⟨⟨v, rfl⟩, h1, h2⟩
            have H1 := Go.Lib.hid h1
            have H2 := Go.Lib.hid h2
            clear h1 h2
            go_wp2_with fail
            refine (HPAR.out w1).mono ?_; rintro e _ ⟨rfl, rfl⟩
            go_wp2_with fail
            go_roundw
            case rel => exact ⟨r, b1 ++ (UInt8.ofNat l.length :: l), (M1 ++ [(n, b1.length)]), rfl, hgr, by omega, HF2.out, HMM2.out, HML2.out, HBL2.out, H1.out, HKB.out.trans H2.out⟩
            case measure => exact HMEAS.out
          · have hF2 : F = nameW true r (b1 ++ (UInt8.ofNat l.length :: l)) M1 := by rw [HREST.out, if_pos rfl, hL, if_neg (by simp [hsm])]
            have HMM2 := HMM
            have t1 : ¬ (b1.length : Int) < 16384 := by omega
            have HF2 := Go.Lib.hid hF2
            clear hF2
            clear hL hsm
            go_upto_region 10 with (at_lookup; refine wpList_lookup_own_ok_int _ rfl _ _ 104 rfl 9 3 .i64 law_str Try.underlying104 Try.underlying3 (zero_int _) bm M1.length (metD M1) rfl HMAP.out _ _ rfl HKEY.out ?_; intro cq hat hwc; rw [HHAS.out]; obtain rfl := HCV2.out cq hat; clear hat hwc)
            obtain ⟨cap, W2, hrun, hcap, hcm, hrow2, hb2, hsz⟩ := HCV.out wr
            have hx : Byts W2 (.slice (some ⟨wr.heap.size, 0, none⟩) (1 + l.length) cap) (UInt8.ofNat l.length :: l) := by
              have := hrow2.slc (n := 1 + l.length) (by simp; omega) hcap hcm
              unfold Byts
              rw [show (UInt8.ofNat l.length :: l).length = 1 + l.length by simp; omega]
              exact this
            have hcl := WBytes_any C.out (HWS.out.below C.out hb2) _ (UInt8.ofNat l.length :: l) hx (by simp; omega)
            have hkb := HKP.out.trans (KW.of_below hb2)
            have hml3 : M1.length ≤ (b1 ++ (UInt8.ofNat l.length :: l)).length := by simp; omega
            have hbl2 : (b1 ++ (UInt8.ofNat l.length :: l)).length + (Nm.wire r).length ≤ b.length + 255 := by rw [List.length_append]; simp; omega
            have HCL := Go.Lib.hid hcl
            have HKB := Go.Lib.hid hkb
            have HBL2 := Go.Lib.hid hbl2
            have HML2 := Go.Lib.hid hml3
            clear hcl hkb hbl2 hml3
            clear hx hrow2 hb2 hsz hcap hcm
            go_wp2_with fail
            clear hrun
            refine HCL.out.mono ?_; rintro e w1 ⟨⟨v, rfl⟩, h1, h2⟩
            have H1 := Go.Lib.hid h1
            have H2 := Go.Lib.hid h2
            clear h1 h2
            go_wp2_with fail
            refine (HPAR.out w1).mono ?_; rintro e _ ⟨rfl, rfl⟩
            go_wp2_with fail
            go_roundw
            case rel => exact ⟨r, b1 ++ (UInt8.ofNat l.length :: l), M1, rfl, hgr, by omega, HF2.out, HMM2.out, HML2.out, HBL2.out, H1.out, HKB.out.trans H2.out⟩
            case measure => exact HMEAS.out
end
end Go.Proofs.Ythfhmbooeemaaaa

/- Message: Records: the walk over a message's records, section by section. -/
namespace Go.Proofs.Ythfhmbooeemaaaa
open Go.RowKit Go.Lib Go.Sq
set_option maxRecDepth 100000
set_option linter.unusedVariables false

/-- a section -/
def secL (m : Msg) : Nat → List Rc.RR
  | 0 => m.an
  | 1 => m.sv
  | 2 => m.ad
  | _ => []
/-- what comes ahead of a section -/
def baseS (m : Msg) : Nat → List (Nat × Rc.RR)
  | 0 => []
  | s + 1 => baseS m s ++ (secL m s).map fun r => (s, r)
/-- all records -/
def allR (m : Msg) : List (Nat × Rc.RR) := baseS m 3
def preS (m : Msg) (s k : Nat) : List (Nat × Rc.RR) := baseS m s ++ ((secL m s).take k).map fun r => (s, r)
theorem preS_zero (m : Msg) (s : Nat) : preS m s 0 = baseS m s := by simp [preS]
theorem preS_full (m : Msg) (s : Nat) : preS m s (secL m s).length = baseS m (s + 1) := by simp [preS, baseS]
theorem preS_step (m : Msg) (s k : Nat) (h : k < (secL m s).length) : preS m s (k + 1) = preS m s k ++ [(s, (secL m s).getD k r0)] := by
  unfold preS
  rw [(rr_step rfl h).1, List.map_append, List.append_assoc]
  rfl
theorem base_pre (m : Msg) : ∀ (d s : Nat), baseS m s <+: baseS m (s + d)
  | 0, s => List.prefix_refl _
  | d + 1, s => (base_pre m d s).trans (by rw [← Nat.add_assoc, baseS]; exact List.prefix_append _ _)
theorem preS_pre (m : Msg) (s k : Nat) (hs : s < 3) : preS m s k <+: allR m := by
  have h1 : preS m s k <+: baseS m (s + 1) := by
    unfold preS
    rw [baseS]
    refine (List.prefix_append_right_inj _).2 ?_
    exact List.IsPrefix.map _ (List.take_prefix _ _)
  refine h1.trans ?_
  have := base_pre m (3 - (s + 1)) (s + 1)
  rwa [show s + 1 + (3 - (s + 1)) = 3 by omega] at this
def encSec (x : Nat × Rc.RR) : Array Value := #[.int .i64 (x.1 : Int), rrV x.2]
/-- what a round keeps: what was there ahead, and rows of lists -/
abbrev IsLists (T : Nat) : Prop := T = 25
def KN (N : Nat) (A B : World) : Prop := (∀ k, k < N → B.heap[k]? = A.heap[k]?) ∧ KpT IsLists A B
theorem KN.refl (N : Nat) (A : World) : KN N A A := ⟨fun _ _ => rfl, KpT.refl _⟩
theorem KN.trans {N : Nat} {A B C : World} (h : KN N A B) (k : KN N B C) : KN N A C := ⟨fun j hj => (k.1 j hj).trans (h.1 j hj), h.2.trans k.2⟩
theorem KN.alloc {N : Nat} {A W : World} (h : KN N A W) (hN : N ≤ W.heap.size) (o : Obj) : KN N A (W.alloc o) := ⟨fun j hj => (Below.heap_alloc _ _ _ (by omega)).trans (h.1 j hj), h.2.alloc o⟩
theorem slc_heap {w w' : World} {sz n : Nat} {v : Value} {cs : List Value} (h : SlC w sz v n cs) (hk : ∀ k, k < w.heap.size → w'.heap[k]? = w.heap[k]?) (hs : w.heap.size ≤ w'.heap.size) : SlC w' sz v n cs := by
  obtain ⟨h1, a, cap, rfl, h2, h3, h4, h5⟩ := h
  refine ⟨h1, a, cap, rfl, h2, h3, h4, ?_⟩
  rcases h5 with h5 | ⟨b, off, e, hlt, hc⟩
  · exact .inl h5
  · refine .inr ⟨b, off, e, Nat.lt_of_lt_of_le hlt hs, fun j hj => ?_⟩
    rw [← hc j hj]
    simp [World.cell?, hk b hlt]
theorem abides_bl {β : Type} {B : Nat} {J : β → World → Prop} (hJ : AbidesFrom B J) {s : β} {W W' : World} (h : J s W) (hb : Below W.heap.size W W') : J s W' :=
  hJ s W W' none h ⟨hb.os, hb.tape, hb.output, hb.size, fun k hk _ => hb.block k hk⟩ (fun r e => by cases e)

theorem Records_fn (m : Msg) (q a s d : Value) (w : World) : Calls Try.prog 19 #[MV m q a s d] w fun e w' =>
    e = .returned (.func (.func 46) #[] #[.pointer (some ⟨w.heap.size, 0, none⟩)]) ∧ w' = w.alloc (.cells (MC m q a s d) 27) := by
  go_enter Try.func19, Try.ntmps19
  go_wp2_with fail
  go_ret
  exact ⟨rfl, rfl⟩
set_option maxHeartbeats 4000000 in
theorem records_seq (n : Nat) (hn : 3 ≤ n) (B : Nat) (m : Msg) (q a s d : Value) (wN w : World) (hm : MsgL wN m q a s d) (hN : Below wN.heap.size wN w) (hB : B < w.heap.size) (hbox : w.heap[B]? = some (.cells (MC m q a s d) 27 (0, 0)))
    (hl : ∀ i, (secL m i).length ≤ 1099511627776) :
    SeqOk Fence.wide n Try.prog 46 #[.pointer (some ⟨B, 0, none⟩)] encSec (KN wN.heap.size)
      (fun xs => xs <+: allR m) (fun xs => xs = allR m) (fun xs => xs <+: allR m) w := fun lp J Jx W hW hJ hJx hY h0 => by
  have hboxW := (hW.block B hB).trans hbox
  have hNW : Below wN.heap.size wN W := hN.trans (hW.mono hN.size)
  have x9 : W.cell? ⟨B, 9, none⟩ = some a := row_cell hboxW 9 _ rfl
  have x10 : W.cell? ⟨B, 10, none⟩ = some s := row_cell hboxW 10 _ rfl
  have x11 : W.cell? ⟨B, 11, none⟩ = some d := row_cell hboxW 11 _ rfl
  obtain ⟨a1, c1, rfl, _, _⟩ := hm.an.slice
  obtain ⟨a2, c2, rfl, _, _⟩ := hm.sv.slice
  obtain ⟨a3, c3, rfl, _, _⟩ := hm.ad.slice
  have hL : ∀ i, i < 3 → ∃ b c, (#[.slice a1 m.an.length c1, .slice a2 m.sv.length c2, .slice a3 m.ad.length c3] : Array Value)[i]? = some (.slice b (secL m i).length c) ∧ RRs wN (.slice b (secL m i).length c) (secL m i) := fun i hi => by
    rcases (by omega : i = 0 ∨ i = 1 ∨ i = 2) with rfl | rfl | rfl
    · exact ⟨_, _, rfl, hm.an⟩
    · exact ⟨_, _, rfl, hm.sv⟩
    · exact ⟨_, _, rfl, hm.ad⟩
  have hsz := hW.size
  have hnew := heap_alloc_new W (.cells #[.slice a1 m.an.length c1, .slice a2 m.sv.length c2, .slice a3 m.ad.length c3] 25)
  have hj := abides_bl hJ h0 ((Below.refl _ W).alloc (Nat.le_refl _) (.cells #[.slice a1 m.an.length c1, .slice a2 m.sv.length c2, .slice a3 m.ad.length c3] 25))
  have hkn := (KN.refl wN.heap.size W).alloc hNW.size (.cells #[.slice a1 m.an.length c1, .slice a2 m.sv.length c2, .slice a3 m.ad.length c3] 25)
  have HY := Go.Lib.hid hY
  have HJ := Go.Lib.hid hJ
  have HJX := Go.Lib.hid hJx
  have HJ0 := Go.Lib.hid hj
  have HL := Go.Lib.hid hL
  have HNEW := Go.Lib.hid hnew
  have HNW := Go.Lib.hid hNW
  have HKN := Go.Lib.hid hkn
  clear hY hJ hJx hj hL hnew hNW hkn
  clear hbox hboxW h0 hm hW
  refine callsIn_of_wp Try.func46 rfl trivial ?_ rfl
  simp only [Try.ntmps46, List.size_toArray, List.length_cons, List.length_nil, Nat.reduceAdd, Nat.reduceSub, Array.replicate_succ, Array.replicate_zero, List.push_toArray, List.append_toArray, List.nil_append, List.cons_append]
  gi_wp2_with fail
  gi_loopw [15] (fun i wr => ∃ t : Nat, t ≤ 3 ∧ i = .int .i64 t ∧ J (baseS m t) wr ∧ KN wN.heap.size W wr ∧ wr.heap[W.heap.size]? = some (.cells #[.slice a1 m.an.length c1, .slice a2 m.sv.length c2, .slice a3 m.ad.length c3] 25 (0, 0)) ∧ W.heap.size + 1 ≤ wr.heap.size)
    (fun i _ => 3 - (RowKit.intOf i).toNat)
  case atStart => exact ⟨0, by omega, rfl, HJ0.out, HKN.out, HNEW.out, by simp⟩
  case round =>
    clear HJ0 HKN HNEW
    obtain ⟨t, ht, rfl, hj, hkn, hrow, hwsz⟩ := hrel
    have HJ0 := Go.Lib.hid hj
    have HKN := Go.Lib.hid hkn
    clear hj hkn
    by_cases hlt : t < 3
    · obtain ⟨bb, cc, hcell, hrr⟩ := HL.out t hlt
      have x13 : wr.cell? ⟨W.heap.size, t, none⟩ = some (.slice bb (secL m t).length cc) := by
        rw [cell_of_row wr W.heap.size t _ _ (0, 0) hrow]; exact hcell
      have t1 : (t : Int) < 3 := by omega
      have p0 : (0 : Int) ≤ (t : Int) := by omega
      have q1 : IntKind.i64.wrap ((t : Int) + 1) = (t : Int) + 1 := wrapi (by omega) (by omega)
      have hlen := hl t
      generalize hNL : (secL m t).length = NL at *
      have HRR := Go.Lib.hid hrr
      have HROW := Go.Lib.hid hrow
      have HNL := Go.Lib.hid hNL
      clear hrr hrow hNL
      clear hcell
      gi_wp2_with fail
      clear x13
      generalize wr = w3 at *
      gi_loopw [22] (fun i wq => ∃ k : Nat, k ≤ NL ∧ i = .int .i64 k ∧ J (preS m t k) wq ∧ KN wN.heap.size W wq ∧ wq.heap[W.heap.size]? = some (.cells #[.slice a1 m.an.length c1, .slice a2 m.sv.length c2, .slice a3 m.ad.length c3] 25 (0, 0)) ∧ W.heap.size + 1 ≤ wq.heap.size)
        (fun i _ => NL - (RowKit.intOf i).toNat)
      case atStart => exact ⟨0, Nat.zero_le _, rfl, by rw [preS_zero]; exact HJ0.out, HKN.out, HROW.out, hwsz⟩
      case round =>
        clear HJ0 HKN HROW hwsz
        obtain ⟨k, hk, rfl, hj, hkn, hrow, hwsz⟩ := hrel
        by_cases hlk : k < NL
        · have hrw : RRs wr (.slice bb NL cc) (secL m t) := by
            have := slc_heap (w' := wr) HRR.out (fun j hj => (hkn.1 j hj).trans (HNW.out.block j hj)) (by have := HNW.out.size; omega)
            rw [← HNL.out]
            rw [← HNL.out] at this
            exact this
          obtain ⟨gq, off, rfl, hgw, hat⟩ := RRs.at (by rw [← HNL.out] at hrw; exact hrw) (by rw [HNL.out]; omega)
          have hx := hat k (by rw [HNL.out]; exact hlk)
          obtain ⟨x0, x1, x2, x3, x4⟩ := hx
          have hsn := preS_step m t k (by rw [HNL.out]; exact hlk)
          have hpre := preS_pre m t (k + 1) hlt
          rw [hsn] at hpre
          have t2 : (k : Int) < (NL : Int) := by omega
          have p1 : (0 : Int) ≤ (k : Int) := by omega
          have q2 : IntKind.i64.wrap ((k : Int) + 1) = (k : Int) + 1 := wrapi (by omega) (by omega)
          have hj3 := abides_bl HJ.out hj ((Below.refl _ wr).alloc (Nat.le_refl _) (.cells (rrC ((secL m t).getD k r0)) 45))
          obtain ⟨fn, tmps, assign, body, hy, hR⟩ := HY.out _ (t, (secL m t).getD k r0) _ hj3 hpre
          unfold encSec at hy
          have hkn3 := hkn.alloc (by have := HNW.out.size; omega) (.cells (rrC ((secL m t).getD k r0)) 45)
          have hrow3 : (wr.alloc (.cells (rrC ((secL m t).getD k r0)) 45)).heap[W.heap.size]? = _ := heap_old hrow _
          have HR := Go.Lib.hid hR
          have HJ3 := Go.Lib.hid hj3
          have HKN3 := Go.Lib.hid hkn3
          have HPRE := Go.Lib.hid hpre
          have HSN := Go.Lib.hid hsn
          have HROW3 := Go.Lib.hid hrow3
          clear hR hj3 hkn3 hpre hsn hrow3
          generalize (secL m t).getD k r0 = y at *
          obtain ⟨xn, xt, xc, xl, xd⟩ := y
          simp only at x0 x1 x2 x3 x4
          simp only [rrC] at hy
          clear hrw hat hj hkn hrow
          gi_wp2_with fail
          refine ⟨fun _ => by omega, HR.out.mono ?_⟩
          rintro e W3 (⟨rfl, hJ3, hk3⟩ | ⟨rfl, hJx3⟩)
          · have hrow4 := hk3.2 _ _ _ _ rfl HROW3.out
            have hkn4 := HKN3.out.trans hk3
            have HJ4 := Go.Lib.hid hJ3
            have HROW4 := Go.Lib.hid hrow4
            have HKN4 := Go.Lib.hid hkn4
            clear hJ3 hrow4 hkn4
            clear hy hk3
            gi_wp2_with fail
            go_roundw
            case rel => exact ⟨k + 1, by omega, by simp, by rw [HSN.out]; exact HJ4.out, HKN4.out, HROW4.out, Nat.succ_le_of_lt (Array.getElem?_eq_some_iff.1 HROW4.out).1⟩
            case measure => simp [RowKit.intOf]; omega
          · have HJX4 := Go.Lib.hid hJx3
            clear hJx3
            clear hy
            gi_wp2_with fail
            refine bodyPost_ret (results_none rfl _ _ _) rfl ?_
            exact ⟨⟨_, rfl⟩, .inr ⟨_, HPRE.out, HJX4.out⟩⟩
        · obtain rfl : k = NL := by omega
          have t2 : ¬ (k : Int) < (k : Int) := by omega
          have hj4 : J (baseS m (t + 1)) wr := by rw [← preS_full, HNL.out]; exact hj
          have HJ4 := Go.Lib.hid hj4
          have HKN4 := Go.Lib.hid hkn
          have HROW4 := Go.Lib.hid hrow
          clear hj4 hkn hrow
          clear hj
          gi_wp2_with fail
          go_roundw
          case rel => exact ⟨t + 1, by omega, by simp, HJ4.out, HKN4.out, HROW4.out, hwsz⟩
          case measure => simp [RowKit.intOf]; omega
    · obtain rfl : t = 3 := by omega
      gi_wp2_with fail
      go_end0
      exact ⟨⟨_, rfl⟩, .inl ⟨_, rfl, HJ0.out⟩⟩
end Go.Proofs.Ythfhmbooeemaaaa

/- Message: Check, where it tells early that a message may not be. -/
namespace Go.Proofs.Ythfhmbooeemaaaa
open Go.RowKit Go.Lib Go.Sq
set_option maxRecDepth 100000
set_option linter.unusedVariables false

def qOk (q : Qn) : Bool := Nm.valid q.name && withinN q.ty 65535 && withinN q.cl 65535
def headOk (m : Msg) : Bool := withinN m.id 65535 && withinN m.op 15 && withinN m.code 15 && withinN m.size 65535 && (m.edns || m.size == 0)
def cntOk (m : Msg) : Bool := decide (m.qs.length ≤ 4) && decide (max (max m.an.length m.sv.length) m.ad.length ≤ 64)
/-- may a message be? -/
def checkM (m : Msg) : Bool := headOk m && cntOk m && m.qs.all qOk && (allR m).all fun x => checkB x.2
theorem results_bool {fn : Func} {q : Tmp} (h : fn.results = #[.cell q 4]) (tmps : Array Value) (w : World) (b : Nat) (y : Bool)
    (hq : tmps.getD q undef = .pointer (some ⟨b, 0, none⟩)) (hy : w.heap[b]? = some (.cells #[.bool y] 4 (0, 0))) : (results fn tmps).run Try.prog w = .ok (.bool y) w := by
  have hb : ∀ w, (isAgg 4).run Try.prog w = .ok false w := fun w => by simp [isAgg, go_sem]
  have hq' : tmps[q]?.getD undef = .pointer (some ⟨b, 0, none⟩) := by simpa using hq
  have hyc : w.cell? ⟨b, 0, none⟩ = some (.bool y) := by simp [World.cell?, hy]
  have hl2 : (loadVar 4 ⟨b, 0, none⟩).run Try.prog w = .ok (.bool y) w := by
    simp [loadVar, load, Sem.run_bind, hb, Result.andThen, go_sem]
    simp [Sem.run, hyc]
  simp [results, h, hq', asAddr, hl2]
def ChkEnd (w : World) (b : Bool) (e : Ending) (w' : World) : Prop := e = .returned (.bool b) ∧ Below w.heap.size w w'
/-- the message's box, and the answer's -/
theorem chk_boxes (m : Msg) (q a s d : Value) (w : World) : ∀ X, (w.alloc (.cells (MC m q a s d) 27)).alloc (.cells #[.bool false] 4) = X →
    X.heap[w.heap.size]? = some (.cells (MC m q a s d) 27 (0, 0)) ∧ X.heap[w.heap.size + 1]? = some (.cells #[.bool false] 4 (0, 0)) ∧ Below w.heap.size w X ∧ X.heap.size = w.heap.size + 2 := by
  rintro X rfl
  exact ⟨heap_old (heap_alloc_new _ _) _, heap_new1 _ _ _, ((Below.refl _ w).alloc (Nat.le_refl _) _).alloc (by simp) _, by simp⟩
set_option maxHeartbeats 4000000 in
theorem Check_head (m : Msg) (q a s d : Value) (w : World) (hm : MsgL w m q a s d) (hh : headOk m = false) : Calls Try.prog 18 #[MV m q a s d] w (ChkEnd w false) := by
  obtain ⟨aq, cq, rfl, _, _⟩ := hm.qs.slice
  obtain ⟨aa, ca, rfl, _, _⟩ := hm.an.slice
  obtain ⟨av, cs, rfl, _, _⟩ := hm.sv.slice
  obtain ⟨ad, cd, rfl, _, _⟩ := hm.ad.slice
  obtain ⟨X, hX⟩ : ∃ X, (w.alloc (.cells (MC m (.slice aq m.qs.length cq) (.slice aa m.an.length ca) (.slice av m.sv.length cs) (.slice ad m.ad.length cd)) 27)).alloc (.cells #[.bool false] 4) = X := ⟨_, rfl⟩
  obtain ⟨g1, g2, hb, hs⟩ := chk_boxes m _ _ _ _ w X hX
  have y0 : X.cell? ⟨w.heap.size, 0, none⟩ = some (.int .i64 m.id) := row_cell g1 0 _ rfl
  have y2 : X.cell? ⟨w.heap.size, 2, none⟩ = some (.int .i64 m.op) := row_cell g1 2 _ rfl
  have y7 : X.cell? ⟨w.heap.size, 7, none⟩ = some (.int .i64 m.code) := row_cell g1 7 _ rfl
  have y12 : X.cell? ⟨w.heap.size, 12, none⟩ = some (.bool m.edns) := row_cell g1 12 _ rfl
  have y13 : X.cell? ⟨w.heap.size, 13, none⟩ = some (.int .i64 m.size) := row_cell g1 13 _ rfl
  have b0 : X.cell? ⟨w.heap.size + 1, 0, none⟩ = some (.bool false) := row_cell g2 0 _ rfl
  have z0 : X.frozen? ⟨w.heap.size + 1, 0, none⟩ = false := row_frozen g2 0
  have hcs : (withinN m.id 65535 = false) ∨ (withinN m.id 65535 = true ∧ withinN m.op 15 = false) ∨ (withinN m.id 65535 = true ∧ withinN m.op 15 = true ∧ withinN m.code 15 = false) ∨
      (withinN m.id 65535 = true ∧ withinN m.op 15 = true ∧ withinN m.code 15 = true ∧ withinN m.size 65535 = false) ∨
      (withinN m.id 65535 = true ∧ withinN m.op 15 = true ∧ withinN m.code 15 = true ∧ withinN m.size 65535 = true ∧ m.edns = false ∧ (m.size == 0) = false) := by
    unfold headOk at hh
    cases h1 : withinN m.id 65535 <;> cases h2 : withinN m.op 15 <;> cases h3 : withinN m.code 15 <;> cases h4 : withinN m.size 65535 <;> cases h5 : m.edns <;> simp_all
  have HSET := Go.Lib.hid g2
  have HB2 := Go.Lib.hid hb
  clear g2 hb
  clear g1 hs hh hm
  obtain ⟨mid, mre, mop, mau, mcu, mde, mav, mco, mqs, man, msv, mad, med, msi⟩ := m
  simp only at *
  generalize mqs.length = nq at *
  generalize man.length = na at *
  generalize msv.length = ns at *
  generalize mad.length = nd at *
  simp only [MC] at hX
  rcases hcs with h1 | ⟨h1, h2⟩ | ⟨h1, h2, h3⟩ | ⟨h1, h2, h3, h4⟩ | ⟨h1, h2, h3, h4, rfl, h6⟩
  all_goals
    go_enter Try.func18, Try.ntmps18
    go_wp2_with (go_at_call 43; refine (mwithin_any _ _ _).mono ?_; rintro e w9 ⟨rfl, hw9⟩; have hw8 := hw9.symm; clear hw9; subst hw8)
    first | exact bodyPost_ret (results_bool rfl _ _ _ _ rfl HSET.out) rfl ⟨rfl, HB2.out⟩ | exact bodyPost_ret (results_bool rfl _ _ _ _ rfl (heap_set (i := 0) (v := .bool false) HSET.out)) rfl ⟨rfl, HB2.out.setCell (p := ⟨w.heap.size + 1, 0, none⟩) (by show w.heap.size ≤ w.heap.size + 1; omega) _⟩
set_option maxHeartbeats 4000000 in
theorem Check_cnt (m : Msg) (q a s d : Value) (w : World) (hm : MsgL w m q a s d) (hh : headOk m = true) (hc : cntOk m = false) (hl : m.qs.length ≤ 1099511627776 ∧ m.an.length ≤ 1099511627776 ∧ m.sv.length ≤ 1099511627776 ∧ m.ad.length ≤ 1099511627776) : Calls Try.prog 18 #[MV m q a s d] w (ChkEnd w false) := by
  obtain ⟨aq, cq, rfl, _, _⟩ := hm.qs.slice
  obtain ⟨aa, ca, rfl, _, _⟩ := hm.an.slice
  obtain ⟨av, cs, rfl, _, _⟩ := hm.sv.slice
  obtain ⟨ad, cd, rfl, _, _⟩ := hm.ad.slice
  obtain ⟨X, hX⟩ : ∃ X, (w.alloc (.cells (MC m (.slice aq m.qs.length cq) (.slice aa m.an.length ca) (.slice av m.sv.length cs) (.slice ad m.ad.length cd)) 27)).alloc (.cells #[.bool false] 4) = X := ⟨_, rfl⟩
  obtain ⟨g1, g2, hb, hs⟩ := chk_boxes m _ _ _ _ w X hX
  have y0 : X.cell? ⟨w.heap.size, 0, none⟩ = some (.int .i64 m.id) := row_cell g1 0 _ rfl
  have y2 : X.cell? ⟨w.heap.size, 2, none⟩ = some (.int .i64 m.op) := row_cell g1 2 _ rfl
  have y7 : X.cell? ⟨w.heap.size, 7, none⟩ = some (.int .i64 m.code) := row_cell g1 7 _ rfl
  have y8 : X.cell? ⟨w.heap.size, 8, none⟩ = some (.slice aq m.qs.length cq) := row_cell g1 8 _ rfl
  have y9 : X.cell? ⟨w.heap.size, 9, none⟩ = some (.slice aa m.an.length ca) := row_cell g1 9 _ rfl
  have y10 : X.cell? ⟨w.heap.size, 10, none⟩ = some (.slice av m.sv.length cs) := row_cell g1 10 _ rfl
  have y11 : X.cell? ⟨w.heap.size, 11, none⟩ = some (.slice ad m.ad.length cd) := row_cell g1 11 _ rfl
  have y12 : X.cell? ⟨w.heap.size, 12, none⟩ = some (.bool m.edns) := row_cell g1 12 _ rfl
  have y13 : X.cell? ⟨w.heap.size, 13, none⟩ = some (.int .i64 m.size) := row_cell g1 13 _ rfl
  have b0 : X.cell? ⟨w.heap.size + 1, 0, none⟩ = some (.bool false) := row_cell g2 0 _ rfl
  have z0 : X.frozen? ⟨w.heap.size + 1, 0, none⟩ = false := row_frozen g2 0
  unfold headOk at hh
  simp only [Bool.and_eq_true] at hh
  obtain ⟨⟨⟨⟨h1, h2⟩, h3⟩, h4⟩, h5⟩ := hh
  have h6 : m.edns = true ∨ (m.edns = false ∧ (m.size == 0) = true) := by cases hme : m.edns <;> simp_all
  have hcs : (4 : Int) < (m.qs.length : Int) ∨ (¬ (4 : Int) < (m.qs.length : Int) ∧ 64 < max (max (m.an.length : Int) m.sv.length) m.ad.length) := by
    unfold cntOk at hc
    by_cases hq4 : m.qs.length ≤ 4
    · rw [decide_eq_true hq4, Bool.true_and] at hc
      have := of_decide_eq_false hc
      exact .inr ⟨by omega, by omega⟩
    · exact .inl (by omega)
  have HSET := Go.Lib.hid g2
  have HB2 := Go.Lib.hid hb
  clear g2 hb
  clear g1 hs hm hc h5
  obtain ⟨mid, mre, mop, mau, mcu, mde, mav, mco, mqs, man, msv, mad, med, msi⟩ := m
  simp only at *
  generalize mqs.length = nq at *
  generalize man.length = na at *
  generalize msv.length = ns at *
  generalize mad.length = nd at *
  simp only [MC] at hX
  rcases h6 with rfl | ⟨rfl, h7⟩
  all_goals
    rcases hcs with hc1 | ⟨hc1, hc2⟩
    all_goals
      go_enter Try.func18, Try.ntmps18
      go_wp2_with (go_at_call 43; refine (mwithin_any _ _ _).mono ?_; rintro e w9 ⟨rfl, hw9⟩; have hw8 := hw9.symm; clear hw9; subst hw8)
      all_goals first | exact bodyPost_ret (results_bool rfl _ _ _ _ rfl HSET.out) rfl ⟨rfl, HB2.out⟩ | exact bodyPost_ret (results_bool rfl _ _ _ _ rfl (heap_set (i := 0) (v := .bool false) HSET.out)) rfl ⟨rfl, HB2.out.setCell (p := ⟨w.heap.size + 1, 0, none⟩) (by show w.heap.size ≤ w.heap.size + 1; omega) _⟩
end Go.Proofs.Ythfhmbooeemaaaa

/- Message: Check, where a question may not be. -/
namespace Go.Proofs.Ythfhmbooeemaaaa
open Go.RowKit Go.Lib Go.Sq
set_option maxRecDepth 100000
set_option linter.unusedVariables false

theorem all_take_step {l : List Qn} {k n : Nat} (hn : l.length = n) (h : k < n) (ht : (l.take k).all qOk = true) : (l.take (k + 1)).all qOk = qOk (l.getD k q0) := by
  rw [(qn_step hn h).1, List.all_append, ht, Bool.true_and]
  simp
theorem max64 {a b c : Nat} (h : max (max a b) c ≤ 64) : a ≤ 64 ∧ b ≤ 64 ∧ c ≤ 64 := by omega
theorem qOk_cases (x : Qn) : (qOk x = true ∧ Nm.valid x.name = true ∧ withinN x.ty 65535 = true ∧ withinN x.cl 65535 = true) ∨ (qOk x = false ∧ Nm.valid x.name = false) ∨ (qOk x = false ∧ Nm.valid x.name = true ∧ withinN x.ty 65535 = false) ∨ (qOk x = false ∧ Nm.valid x.name = true ∧ withinN x.ty 65535 = true ∧ withinN x.cl 65535 = false) := by
  unfold qOk
  cases Nm.valid x.name <;> cases withinN x.ty 65535 <;> cases withinN x.cl 65535 <;> simp
set_option maxHeartbeats 8000000 in
theorem Check_q (m : Msg) (q a s d : Value) (w : World) (hm : MsgL w m q a s d) (hh : headOk m = true) (hc : cntOk m = true) (hq : m.qs.all qOk = false) (hqn : ∀ x ∈ m.qs, x.name.length ≤ maxLen) : Calls Try.prog 18 #[MV m q a s d] w (ChkEnd w false) := by
  have hqs := hm.qs
  obtain ⟨aq, cq, rfl, _, _⟩ := hm.qs.slice
  obtain ⟨aa, ca, rfl, _, _⟩ := hm.an.slice
  obtain ⟨av, cs, rfl, _, _⟩ := hm.sv.slice
  obtain ⟨ad, cd, rfl, _, _⟩ := hm.ad.slice
  obtain ⟨X, hX⟩ : ∃ X, (w.alloc (.cells (MC m (.slice aq m.qs.length cq) (.slice aa m.an.length ca) (.slice av m.sv.length cs) (.slice ad m.ad.length cd)) 27)).alloc (.cells #[.bool false] 4) = X := ⟨_, rfl⟩
  obtain ⟨g1, g2, hb, hs⟩ := chk_boxes m _ _ _ _ w X hX
  have y0 : X.cell? ⟨w.heap.size, 0, none⟩ = some (.int .i64 m.id) := row_cell g1 0 _ rfl
  have y2 : X.cell? ⟨w.heap.size, 2, none⟩ = some (.int .i64 m.op) := row_cell g1 2 _ rfl
  have y7 : X.cell? ⟨w.heap.size, 7, none⟩ = some (.int .i64 m.code) := row_cell g1 7 _ rfl
  have y8 : X.cell? ⟨w.heap.size, 8, none⟩ = some (.slice aq m.qs.length cq) := row_cell g1 8 _ rfl
  have y9 : X.cell? ⟨w.heap.size, 9, none⟩ = some (.slice aa m.an.length ca) := row_cell g1 9 _ rfl
  have y10 : X.cell? ⟨w.heap.size, 10, none⟩ = some (.slice av m.sv.length cs) := row_cell g1 10 _ rfl
  have y11 : X.cell? ⟨w.heap.size, 11, none⟩ = some (.slice ad m.ad.length cd) := row_cell g1 11 _ rfl
  have y12 : X.cell? ⟨w.heap.size, 12, none⟩ = some (.bool m.edns) := row_cell g1 12 _ rfl
  have y13 : X.cell? ⟨w.heap.size, 13, none⟩ = some (.int .i64 m.size) := row_cell g1 13 _ rfl
  have hqX : Qns X (.slice aq m.qs.length cq) m.qs := hqs.below hb (Nat.le_refl _)
  unfold headOk at hh
  simp only [Bool.and_eq_true] at hh
  obtain ⟨⟨⟨⟨h1, h2⟩, h3⟩, h4⟩, h5⟩ := hh
  have h6 : m.edns = true ∨ (m.edns = false ∧ (m.size == 0) = true) := by cases hme : m.edns <;> simp_all
  unfold cntOk at hc
  simp only [Bool.and_eq_true, decide_eq_true_eq] at hc
  obtain ⟨hc1, hc2⟩ := hc
  obtain ⟨c1, c2, c3⟩ := max64 hc2
  have t1 : ¬ (4 : Int) < (m.qs.length : Int) := by omega
  have t2 : ¬ (64 : Int) < max (max (m.an.length : Int) m.sv.length) m.ad.length := by omega
  have u1 : (m.an.length : Int) ≤ 64 := by omega
  have u2 : (m.sv.length : Int) ≤ 64 := by omega
  have u3 : (m.ad.length : Int) ≤ 64 := by omega
  have HQN := Go.Lib.hid hqn
  have HSET := Go.Lib.hid g2
  have HB2 := Go.Lib.hid hb
  have HQX := Go.Lib.hid hqX
  clear g2 hb hqX
  clear g1 hs hm hc2 h5 hqs hqn c1 c2 c3
  obtain ⟨mid, mre, mop, mau, mcu, mde, mav, mco, mqs, man, msv, mad, med, msi⟩ := m
  simp only at *
  generalize hnq : mqs.length = nq at *
  generalize man.length = na at *
  generalize msv.length = ns at *
  generalize mad.length = nd at *
  have HNQ := Go.Lib.hid hnq
  clear hnq
  simp only [MC] at hX
  have h8 : (med = true) ∨ (med = false ∧ msi = 0) := by
    rcases h6 with h | ⟨h, h7⟩
    · exact .inl h
    · exact .inr ⟨h, by simpa using h7⟩
  clear h6
  rcases h8 with rfl | ⟨rfl, rfl⟩
  all_goals
    go_enter Try.func18, Try.ntmps18
    go_upto_region 3 with (go_at_call 43; refine (mwithin_any _ _ _).mono ?_; rintro e w9 ⟨rfl, hw9⟩; have hw8 := hw9.symm; clear hw9; subst hw8)
    go_cut [55] from 39 (fun v55 wx => v55 = .bool false ∧ wx = X)
    case first =>
      go_wp2_with fail
      all_goals
        go_meet
        case rel => exact ⟨by first | rfl | (simp; omega), rfl⟩
    case rest =>
    obtain ⟨rfl, hwc⟩ := hcut
    have hwc2 := hwc.symm
    clear hwc
    subst hwc2
    go_wp2_with fail
    clear y0 y2 y7 y8 y9 y10 y11 y12 y13 hX h1 h2 h3 h4 t1 t2 u1 u2 u3
    go_loopw [59] (fun i wr => ∃ k : Nat, i = .int .i64 k ∧ k ≤ nq ∧ (mqs.take k).all qOk = true ∧ Below X.heap.size X wr) (fun i _ => nq - (intOf i).toNat)
    case atStart => exact ⟨0, rfl, Nat.zero_le _, rfl, Below.refl _ _⟩
    case round =>
      obtain ⟨k, rfl, hk, hta, hbw⟩ := hrel
      by_cases hlt : k < nq
      · have t1 : (k : Int) < (nq : Int) := by omega
        have q2 : IntKind.i64.wrap ((k : Int) + 1) = (k : Int) + 1 := wrapi (by omega) (by omega)
        have hqr : Qns wr (.slice aq nq cq) mqs := HQX.out.below hbw (Nat.le_refl _)
        obtain ⟨gq, off, rfl, hgw, hat⟩ := Qns.at (by rw [← HNQ.out] at hqr; exact hqr) (by rw [HNQ.out]; omega)
        obtain ⟨x0, x1, x2⟩ := hat k (by rw [HNQ.out]; exact hlt)
        have hstep := all_take_step HNQ.out hlt hta
        have hname := HQN.out _ (qn_step HNQ.out hlt).2
        have hcs := qOk_cases (mqs.getD k q0)
        generalize mqs.getD k q0 = y at *
        obtain ⟨yn, yt, yc⟩ := y
        simp only at hname hcs x0 x1 x2
        have hva := fun W => valid_any (mk yn) W (by rw [size_mk]; exact hname)
        rw [bl_mk] at hva
        obtain ⟨X1, hX1⟩ : ∃ X1, wr.alloc (.cells #[.string (mk yn), .int .i64 yt, .int .i64 yc] 47) = X1 := ⟨_, rfl⟩
        have hbn : Below X.heap.size X X1 := by rw [← hX1]; exact hbw.alloc hbw.size _
        have hnew : X1.heap[wr.heap.size]? = some (.cells #[.string (mk yn), .int .i64 yt, .int .i64 yc] 47 (0, 0)) := by rw [← hX1]; exact heap_alloc_new _ _
        have hst2 := (hbn.block _ (Array.getElem?_eq_some_iff.1 HSET.out).1).trans HSET.out
        have hbf : Below w.heap.size w X1 := HB2.out.trans (hbn.mono HB2.out.size)
        have v0 : X1.cell? ⟨wr.heap.size, 0, none⟩ = some (.string (mk yn)) := row_cell hnew 0 _ rfl
        have v1 : X1.cell? ⟨wr.heap.size, 1, none⟩ = some (.int .i64 yt) := row_cell hnew 1 _ rfl
        have v2 : X1.cell? ⟨wr.heap.size, 2, none⟩ = some (.int .i64 yc) := row_cell hnew 2 _ rfl
        have r0 : X1.cell? ⟨w.heap.size + 1, 0, none⟩ = some (.bool false) := row_cell hst2 0 _ rfl
        have z0 : X1.frozen? ⟨w.heap.size + 1, 0, none⟩ = false := row_frozen hst2 0
        clear hnew
        have HVA := Go.Lib.hid hva
        have HBN := Go.Lib.hid hbn
        have HST2 := Go.Lib.hid hst2
        have HBF := Go.Lib.hid hbf
        have HSTEP := Go.Lib.hid hstep
        have HTA := Go.Lib.hid hta
        clear hva hbn hst2 hbf hstep hta
        clear hqr hat hbw
        rcases hcs with ⟨e0, e1, e2, e3⟩ | ⟨e0, e1⟩ | ⟨e0, e1, e2⟩ | ⟨e0, e1, e2, e3⟩
        · rw [e0] at HSTEP
          clear e0
          go_wp2_with (first | (go_at_call 43; refine (mwithin_any _ _ _).mono ?_; rintro e w9 ⟨rfl, hw9⟩; have hw8 := hw9.symm; clear hw9; subst hw8) | (go_at_call 44; refine (HVA.out _).mono ?_; rintro e _ ⟨rfl, rfl⟩))
          go_roundw
          case rel => exact ⟨k + 1, by go_num, by omega, HSTEP.out, HBN.out⟩
          case measure => simp [intOf]; omega
        all_goals
          clear e0
          go_wp2_with (first | (go_at_call 43; refine (mwithin_any _ _ _).mono ?_; rintro e w9 ⟨rfl, hw9⟩; have hw8 := hw9.symm; clear hw9; subst hw8) | (go_at_call 44; refine (HVA.out _).mono ?_; rintro e _ ⟨rfl, rfl⟩))
          refine bodyPost_ret (v := .bool false) ?_ rfl ?_
          · first | exact results_bool rfl _ _ _ _ rfl HST2.out | exact results_bool rfl _ _ _ _ rfl (heap_set (i := 0) (v := .bool false) HST2.out)
          · first | exact ⟨rfl, HBF.out⟩ | exact ⟨rfl, HBF.out.setCell (p := ⟨w.heap.size + 1, 0, none⟩) (by show w.heap.size ≤ w.heap.size + 1; omega) _⟩
      · exfalso
        obtain rfl : k = nq := by omega
        rw [← HNQ.out, List.take_length] at hta
        rw [hta] at hq
        cases hq
end Go.Proofs.Ythfhmbooeemaaaa

/- Message: Check, to the records. -/
namespace Go.Proofs.Ythfhmbooeemaaaa
open Go.RowKit Go.Lib Go.Sq
set_option maxRecDepth 100000
set_option linter.unusedVariables false

attribute [local go_sem] Oper.semAt_some

theorem ownFrom_heap2 {β : Type} (B k : Nat) (f : β → Array Value) (T : TypeId) (fr : Nat × Nat) : OwnFrom B (fun s W => W.heap[k]? = some (.cells (f s) T fr)) := fun s W W' row hs hg hr => by
  have hlt := (Array.getElem?_eq_some_iff.1 hs).1
  refine (hg.block k hlt fun e => ?_).trans hs
  obtain ⟨_, o, ho, hc⟩ := hr k e.symm
  rw [hs] at ho
  cases ho
  cases hc
theorem ownFrom_ex2 {β γ : Type} {B : Nat} {I : γ → β → World → Prop} (h : ∀ g, OwnFrom B (I g)) : OwnFrom B (fun s W => ∃ g, I g s W) := fun s W W' row hs hg hr => by
  obtain ⟨g, h1⟩ := hs
  exact ⟨g, h g s W W' row h1 hg hr⟩
set_option maxHeartbeats 8000000 in
theorem Check_all (m : Msg) (q a s d : Value) (w : World) (hm : MsgL w m q a s d) (hh : headOk m = true) (hc : cntOk m = true) (hq : m.qs.all qOk = true) (hqn : ∀ x ∈ m.qs, x.name.length ≤ maxLen) (hrr : ∀ x ∈ allR m, RROk x.2) : Calls Try.prog 18 #[MV m q a s d] w (ChkEnd w ((allR m).all fun x => checkB x.2)) := by
  have hqs := hm.qs
  obtain ⟨aq, cq, rfl, _, _⟩ := hm.qs.slice
  obtain ⟨aa, ca, rfl, _, _⟩ := hm.an.slice
  obtain ⟨av, cs, rfl, _, _⟩ := hm.sv.slice
  obtain ⟨ad, cd, rfl, _, _⟩ := hm.ad.slice
  obtain ⟨X, hX⟩ : ∃ X, (w.alloc (.cells (MC m (.slice aq m.qs.length cq) (.slice aa m.an.length ca) (.slice av m.sv.length cs) (.slice ad m.ad.length cd)) 27)).alloc (.cells #[.bool false] 4) = X := ⟨_, rfl⟩
  obtain ⟨g1, g2, hb, hs⟩ := chk_boxes m _ _ _ _ w X hX
  have y0 : X.cell? ⟨w.heap.size, 0, none⟩ = some (.int .i64 m.id) := row_cell g1 0 _ rfl
  have y2 : X.cell? ⟨w.heap.size, 2, none⟩ = some (.int .i64 m.op) := row_cell g1 2 _ rfl
  have y7 : X.cell? ⟨w.heap.size, 7, none⟩ = some (.int .i64 m.code) := row_cell g1 7 _ rfl
  have y8 : X.cell? ⟨w.heap.size, 8, none⟩ = some (.slice aq m.qs.length cq) := row_cell g1 8 _ rfl
  have y9 : X.cell? ⟨w.heap.size, 9, none⟩ = some (.slice aa m.an.length ca) := row_cell g1 9 _ rfl
  have y10 : X.cell? ⟨w.heap.size, 10, none⟩ = some (.slice av m.sv.length cs) := row_cell g1 10 _ rfl
  have y11 : X.cell? ⟨w.heap.size, 11, none⟩ = some (.slice ad m.ad.length cd) := row_cell g1 11 _ rfl
  have y12 : X.cell? ⟨w.heap.size, 12, none⟩ = some (.bool m.edns) := row_cell g1 12 _ rfl
  have y13 : X.cell? ⟨w.heap.size, 13, none⟩ = some (.int .i64 m.size) := row_cell g1 13 _ rfl
  have hm0 := hm
  have hqX : Qns X (.slice aq m.qs.length cq) m.qs := hqs.below hb (Nat.le_refl _)
  unfold headOk at hh
  simp only [Bool.and_eq_true] at hh
  obtain ⟨⟨⟨⟨h1, h2⟩, h3⟩, h4⟩, h5⟩ := hh
  have h6 : m.edns = true ∨ (m.edns = false ∧ (m.size == 0) = true) := by cases hme : m.edns <;> simp_all
  unfold cntOk at hc
  simp only [Bool.and_eq_true, decide_eq_true_eq] at hc
  obtain ⟨hc1, hc2⟩ := hc
  obtain ⟨c1, c2, c3⟩ := max64 hc2
  have t1 : ¬ (4 : Int) < (m.qs.length : Int) := by omega
  have t2 : ¬ (64 : Int) < max (max (m.an.length : Int) m.sv.length) m.ad.length := by omega
  have u1 : (m.an.length : Int) ≤ 64 := by omega
  have u2 : (m.sv.length : Int) ≤ 64 := by omega
  have u3 : (m.ad.length : Int) ≤ 64 := by omega
  have HQN := Go.Lib.hid hqn
  have hna : m.an.length ≤ 1099511627776 := by omega
  have hns : m.sv.length ≤ 1099511627776 := by omega
  have hnd : m.ad.length ≤ 1099511627776 := by omega
  have hsl : ∀ i, (secL m i).length ≤ 1099511627776 := fun i => by
    rcases i with _ | _ | _ | i
    · exact hna
    · exact hns
    · exact hnd
    · exact Nat.zero_le _
  clear hna hns hnd
  have HSET := Go.Lib.hid g2
  have HB2 := Go.Lib.hid hb
  have HQX := Go.Lib.hid hqX
  have HG1 := Go.Lib.hid g1
  have HM0 := Go.Lib.hid hm0
  have HSL := Go.Lib.hid hsl
  have HRR := Go.Lib.hid hrr
  clear g2 hb hqX g1 hm0 hsl hrr
  clear hs hm hc2 h5 hqs hqn c1 c2 c3
  obtain ⟨mid, mre, mop, mau, mcu, mde, mav, mco, mqs, man, msv, mad, med, msi⟩ := m
  simp only at *
  generalize hnq : mqs.length = nq at *
  generalize man.length = na at *
  generalize msv.length = ns at *
  generalize mad.length = nd at *
  have HNQ := Go.Lib.hid hnq
  clear hnq
  simp only [MC] at hX
  have h8 : (med = true) ∨ (med = false ∧ msi = 0) := by
    rcases h6 with h | ⟨h, h7⟩
    · exact .inl h
    · exact .inr ⟨h, by simpa using h7⟩
  clear h6
  rcases h8 with rfl | ⟨rfl, rfl⟩
  · refine (callsIn_wide (n := 8)).1 ?_
    refine callsIn_of_wp_marks Try.func18 rfl trivial ?_ rfl
    simp only [Try.ntmps18, List.size_toArray, List.length_cons, List.length_nil, Nat.reduceAdd, Nat.reduceSub, Array.replicate_succ, Array.replicate_zero, List.push_toArray, List.append_toArray, List.nil_append, List.cons_append]
    iterate 4
      gi_wp2_with fail
      refine ⟨trivial, (callsIn_wide.2 (mwithin_any _ _ _)).mono ?_⟩
      rintro e w9 ⟨rfl, hw9⟩
      have hw8 := hw9.symm
      clear hw9
      subst hw8
    gi_upto_region 3 with fail
    gi_cut [55] from 39 (fun v55 wx => v55 = .bool false ∧ wx = X)
    case first =>
      gi_wp2_with fail
      all_goals
        gi_meet
        case rel => exact ⟨by first | rfl | (simp; omega), rfl⟩
    case rest =>
    obtain ⟨rfl, hwc⟩ := hcut
    have hwc2 := hwc.symm
    clear hwc
    subst hwc2
    gi_wp2_with fail
    clear y0 y2 y7 y8 y9 y10 y11 y12 y13 hX h1 h2 h3 h4 t1 t2 u1 u2 u3
    gi_loopw [59] (fun i wr => ∃ k : Nat, i = .int .i64 k ∧ k ≤ nq ∧ Below X.heap.size X wr) (fun i _ => nq - (RowKit.intOf i).toNat)
    case atStart => exact ⟨0, rfl, Nat.zero_le _, Below.refl _ _⟩
    case round =>
      obtain ⟨k, rfl, hk, hbw⟩ := hrel
      by_cases hlt : k < nq
      · have t1 : (k : Int) < (nq : Int) := by omega
        have q2 : IntKind.i64.wrap ((k : Int) + 1) = (k : Int) + 1 := wrapi (by omega) (by omega)
        have hqr : Qns wr (.slice aq nq cq) mqs := HQX.out.below hbw (Nat.le_refl _)
        obtain ⟨gq, off, rfl, hgw, hat⟩ := Qns.at (by rw [← HNQ.out] at hqr; exact hqr) (by rw [HNQ.out]; omega)
        obtain ⟨x0, x1, x2⟩ := hat k (by rw [HNQ.out]; exact hlt)
        have hmem := (qn_step HNQ.out hlt).2
        have hname := HQN.out _ hmem
        have hgood : qOk (mqs.getD k q0) = true := List.all_eq_true.1 hq _ hmem
        have hcs := qOk_cases (mqs.getD k q0)
        clear hmem
        generalize mqs.getD k q0 = y at *
        obtain ⟨yn, yt, yc⟩ := y
        simp only at hname hcs x0 x1 x2
        have hva := fun W => valid_any (mk yn) W (by rw [size_mk]; exact hname)
        rw [bl_mk] at hva
        obtain ⟨X1, hX1⟩ : ∃ X1, wr.alloc (.cells #[.string (mk yn), .int .i64 yt, .int .i64 yc] 47) = X1 := ⟨_, rfl⟩
        have hbn : Below X.heap.size X X1 := by rw [← hX1]; exact hbw.alloc hbw.size _
        have hnew : X1.heap[wr.heap.size]? = some (.cells #[.string (mk yn), .int .i64 yt, .int .i64 yc] 47 (0, 0)) := by rw [← hX1]; exact heap_alloc_new _ _
        have v0 : X1.cell? ⟨wr.heap.size, 0, none⟩ = some (.string (mk yn)) := row_cell hnew 0 _ rfl
        have v1 : X1.cell? ⟨wr.heap.size, 1, none⟩ = some (.int .i64 yt) := row_cell hnew 1 _ rfl
        have v2 : X1.cell? ⟨wr.heap.size, 2, none⟩ = some (.int .i64 yc) := row_cell hnew 2 _ rfl
        have hcc : Nm.valid yn = true ∧ withinN yt 65535 = true ∧ withinN yc 65535 = true := by
          rcases hcs with ⟨_, e1, e2, e3⟩ | ⟨e0, _⟩ | ⟨e0, _⟩ | ⟨e0, _⟩
          · exact ⟨e1, e2, e3⟩
          all_goals (rw [e0] at hgood; cases hgood)
        obtain ⟨e1, e2, e3⟩ := hcc
        have HVA := Go.Lib.hid hva
        have HBN := Go.Lib.hid hbn
        clear hva hbn
        clear hqr hat hbw hnew hcs hgood
        gi_wp2_with fail
        refine ⟨trivial, (callsIn_wide.2 (HVA.out _)).mono ?_⟩
        rintro e _ ⟨rfl, rfl⟩
        iterate 2
          gi_wp2_with fail
          refine ⟨trivial, (callsIn_wide.2 (mwithin_any _ _ _)).mono ?_⟩
          rintro e w9 ⟨rfl, hw9⟩
          have hw8 := hw9.symm
          clear hw9
          subst hw8
        gi_wp2_with fail
        go_roundw
        case rel => exact ⟨k + 1, by go_num, by omega, HBN.out⟩
        case measure => simp [RowKit.intOf]; omega
      · obtain rfl : k = nq := by omega
        have t1 : ¬ (k : Int) < (k : Int) := by omega
        have g1 := (hbw.block _ (Array.getElem?_eq_some_iff.1 HG1.out).1).trans HG1.out
        have g2 := (hbw.block _ (Array.getElem?_eq_some_iff.1 HSET.out).1).trans HSET.out
        have hbf : Below w.heap.size w wr := HB2.out.trans (hbw.mono HB2.out.size)
        have hrec := Records_fn ⟨mid, mre, mop, mau, mcu, mde, mav, mco, mqs, man, msv, mad, true, msi⟩ (.slice aq k cq) (.slice aa na ca) (.slice av ns cs) (.slice ad nd cd) wr
        obtain ⟨fs, hu⟩ := undMsg
        have l0 : wr.cell? ⟨w.heap.size, 0, none⟩ = some (.int .i64 mid) := row_cell g1 0 _ rfl
        have l1 : wr.cell? ⟨w.heap.size, 1, none⟩ = some (.bool mre) := row_cell g1 1 _ rfl
        have l2 : wr.cell? ⟨w.heap.size, 2, none⟩ = some (.int .i64 mop) := row_cell g1 2 _ rfl
        have l3 : wr.cell? ⟨w.heap.size, 3, none⟩ = some (.bool mau) := row_cell g1 3 _ rfl
        have l4 : wr.cell? ⟨w.heap.size, 4, none⟩ = some (.bool mcu) := row_cell g1 4 _ rfl
        have l5 : wr.cell? ⟨w.heap.size, 5, none⟩ = some (.bool mde) := row_cell g1 5 _ rfl
        have l6 : wr.cell? ⟨w.heap.size, 6, none⟩ = some (.bool mav) := row_cell g1 6 _ rfl
        have l7 : wr.cell? ⟨w.heap.size, 7, none⟩ = some (.int .i64 mco) := row_cell g1 7 _ rfl
        have l8 : wr.cell? ⟨w.heap.size, 8, none⟩ = some (.slice aq k cq) := row_cell g1 8 _ rfl
        have l9 : wr.cell? ⟨w.heap.size, 9, none⟩ = some (.slice aa na ca) := row_cell g1 9 _ rfl
        have l10 : wr.cell? ⟨w.heap.size, 10, none⟩ = some (.slice av ns cs) := row_cell g1 10 _ rfl
        have l11 : wr.cell? ⟨w.heap.size, 11, none⟩ = some (.slice ad nd cd) := row_cell g1 11 _ rfl
        have l12 : wr.cell? ⟨w.heap.size, 12, none⟩ = some (.bool true) := row_cell g1 12 _ rfl
        have l13 : wr.cell? ⟨w.heap.size, 13, none⟩ = some (.int .i64 msi) := row_cell g1 13 _ rfl
        have G1 := Go.Lib.hid g1
        have G2 := Go.Lib.hid g2
        have HBF := Go.Lib.hid hbf
        have HREC := Go.Lib.hid hrec
        have HU := Go.Lib.hid hu
        clear g1 g2 hbf hrec hu
        clear hbw
        gi_upto_region 11 with fail
        gi_cut [81] from 7 (fun v81 wx => v81 = .func (.func 46) #[] #[.pointer (some ⟨wr.heap.size, 0, none⟩)] ∧ wx = wr.alloc (.cells (MC ⟨mid, mre, mop, mau, mcu, mde, mav, mco, mqs, man, msv, mad, true, msi⟩ (.slice aq k cq) (.slice aa na ca) (.slice av ns cs) (.slice ad nd cd)) 27))
        case first =>
          gi_wp2_with fail
          refine ⟨trivial, (callsIn_wide.2 HREC.out).mono ?_⟩
          rintro e w2 ⟨rfl, hw2⟩
          gi_wp2_with fail
          gi_meet
          case rel => exact ⟨rfl, rfl⟩
        case rest =>
        clear l0 l1 l2 l3 l4 l5 l6 l7 l8 l9 l10 l11 l12 l13
        obtain ⟨rfl, hw2⟩ := hcut
        have hsz2 : wc.heap.size = wr.heap.size + 1 := by rw [hw2]; simp
        have hbc : Below wr.heap.size wr wc := by rw [hw2]; exact (Below.refl _ wr).alloc (Nat.le_refl _) _
        have hbox : wc.heap[wr.heap.size]? = some (.cells (MC ⟨mid, mre, mop, mau, mcu, mde, mav, mco, mqs, man, msv, mad, true, msi⟩ (.slice aq k cq) (.slice aa na ca) (.slice av ns cs) (.slice ad nd cd)) 27 (0, 0)) := by rw [hw2]; exact heap_alloc_new _ _
        have hbw2 : Below w.heap.size w wc := HBF.out.trans (hbc.mono HBF.out.size)
        have g3 := (hbc.block _ (Array.getElem?_eq_some_iff.1 G2.out).1).trans G2.out
        have hlw := (Array.getElem?_eq_some_iff.1 G2.out).1
        have hm0 : MsgL w ⟨mid, mre, mop, mau, mcu, mde, mav, mco, mqs, man, msv, mad, true, msi⟩ (.slice aq k cq) (.slice aa na ca) (.slice av ns cs) (.slice ad nd cd) := HM0.out
        have hseq := records_seq 7 (by omega) wr.heap.size ⟨mid, mre, mop, mau, mcu, mde, mav, mco, mqs, man, msv, mad, true, msi⟩ (.slice aq k cq) (.slice aa na ca) (.slice av ns cs) (.slice ad nd cd) w wc hm0 hbw2 (by omega) hbox HSL.out
        obtain ⟨R, hR⟩ : ∃ R, R = allR ⟨mid, mre, mop, mau, mcu, mde, mav, mco, mqs, man, msv, mad, true, msi⟩ := ⟨_, rfl⟩
        rw [← hR] at hseq
        have HSEQ := Go.Lib.hid hseq
        have HSZ2 := Go.Lib.hid hsz2
        have HBW2 := Go.Lib.hid hbw2
        have G3 := Go.Lib.hid g3
        have HR := Go.Lib.hid hR
        clear hseq hsz2 hbw2 g3 hR
        clear hw2 hbc hbox hm0
        gi_wp2_with fail
        refine wpIn_rangeFunc_ok rfl (by omega) (gf := 46) (lb := #[.pointer (some ⟨wr.heap.size, 0, none⟩)]) rfl trivial (enters_of Try.func46 (by kernel_rfl) rfl)
          HSEQ.out KN.trans (fun W l o o' hl h1 h2 _ => ⟨fun j hj => World.putObj_heap_other (by have := HSZ2.out; omega), KpT.put W l o o' h1 h2⟩) (Below.refl _ _) (fun _ => rfl)
          (fun pre W => Below wc.heap.size wc W ∧ ∀ x ∈ pre, checkB x.2 = true) (fun c pre W => (Below w.heap.size w W ∧ W.heap[w.heap.size + 1]? = some (.cells #[.bool false] 4 (0, 0))) ∧ (c = .ret ∧ ∃ x ∈ pre, checkB x.2 = false))
          (OwnFrom.and (ownFrom_below (Nat.le_refl _) (Nat.le_refl _)) (ownFrom_pure _ _))
          (fun c => OwnFrom.and (OwnFrom.and (ownFrom_below (Nat.le_refl _) (by have := HSZ2.out; omega)) (ownFrom_heap2 _ _ (fun _ => _) _ _)) (ownFrom_pure _ _))
          ⟨Below.refl _ _, fun x hx => by cases hx⟩ (fun x a' W => ∃ N, (wc.heap.size ≤ N ∧ a' = { tmps := #[MV ⟨mid, mre, mop, mau, mcu, mde, mav, mco, mqs, man, msv, mad, true, msi⟩ (.slice aq k cq) (.slice aa na ca) (.slice av ns cs) (.slice ad nd cd), .pointer (some ⟨w.heap.size, 0, none⟩), .pointer (some ⟨w.heap.size + 1, 0, none⟩), undef, u4, undef, .pointer (some ⟨N, 0, none⟩), u7, u8, u9, u10, u11, u12, u13, u14, u15, u16, u17, u18, u19, u20, u21, u22, u23, u24, u25, u26, u27, u28, u29, u30, u31, u32, u33, u34, u35, u36, u37, u38, u39, u40, u41, u42, u43, u44, u45, u46, u47, u48, u49, u50, u51, u52, u53, u54, u55, u56, u57, u58, u59, u60, u61, u62, u63, u64, u65, u66, u67, u68, u69, u70, u71, u72, u73, u74, u75, u76, u77, u78, u79, u80, .func (.func 46) #[] #[.pointer (some ⟨wr.heap.size, 0, none⟩)], .int .i64 (x.1 : Int), rrV x.2, u84, u85, u86], defers := [] }) ∧ W.heap[N]? = some (.cells (rrC x.2) 45 (0, 0)))
          (fun x a' => ownFrom_ex2 fun N => OwnFrom.and (ownFrom_pure _ (fun _ => _)) (ownFrom_heap2 _ _ (fun _ => _) _ _)) ?assign ?body ?done ?stop
        case assign =>
          rintro lp pre ⟨sx, rx⟩ W K hi hok hK
          obtain ⟨xn, xt, xc, xl, xd⟩ := rx
          have HK := Go.Lib.hid hK
          have HI := Go.Lib.hid hi
          clear hK hi
          unfold encSec
          gi_wp2
          refine HK.out _ _ (keepsFrom_below ((Below.refl _ W).alloc (Nat.le_refl _) _)) ((KN.refl _ W).alloc (by have := HI.out.1.size; have := HSZ2.out; omega) _) ⟨HI.out.1.alloc HI.out.1.size _, HI.out.2⟩ ⟨W.heap.size, ⟨HI.out.1.size, rfl⟩, heap_alloc_new _ _⟩
        case body =>
          rintro lp pre ⟨sx, rx⟩ a' W ⟨hb, hpre⟩ hok ⟨N, ⟨hN, rfl⟩, hx⟩
          have hmem : (sx, rx) ∈ R := hok.subset (by simp)
          have hro := HRR.out _ (by rw [HR.out] at hmem; exact hmem)
          have hck := Check_any rx W hro
          have g4 := (hb.block _ (by have := HSZ2.out; omega)).trans G3.out
          have e0 : W.cell? ⟨N, 0, none⟩ = some (.string (mk rx.name)) := row_cell hx 0 _ rfl
          have e1 : W.cell? ⟨N, 1, none⟩ = some (.int .i64 rx.ty) := row_cell hx 1 _ rfl
          have e2 : W.cell? ⟨N, 2, none⟩ = some (.int .i64 rx.cl) := row_cell hx 2 _ rfl
          have e3 : W.cell? ⟨N, 3, none⟩ = some (.int .i64 rx.ttl) := row_cell hx 3 _ rfl
          have e4 : W.cell? ⟨N, 4, none⟩ = some (.string (mk rx.data)) := row_cell hx 4 _ rfl
          obtain ⟨cb, hcb⟩ : ∃ cb, cb = checkB rx := ⟨_, rfl⟩
          rw [← hcb] at hck
          have HCK := Go.Lib.hid hck
          have HB := Go.Lib.hid hb
          have G4 := Go.Lib.hid g4
          have HPRE := Go.Lib.hid hpre
          have HCB := Go.Lib.hid hcb
          clear hck hb g4 hpre hcb
          clear hmem hro hok hx
          gi_wp2_with fail
          refine ⟨trivial, (callsIn_wide.2 HCK.out).mono ?_⟩
          rintro e W1 ⟨rfl, hx1⟩
          have g5 := (hx1.block _ (Array.getElem?_eq_some_iff.1 G4.out).1).trans G4.out
          have hb1 := HB.out.trans (hx1.mono HB.out.size)
          have r0 : W1.cell? ⟨w.heap.size + 1, 0, none⟩ = some (.bool false) := row_cell g5 0 _ rfl
          have z0 : W1.frozen? ⟨w.heap.size + 1, 0, none⟩ = false := row_frozen g5 0
          have HX1 := Go.Lib.hid hx1
          have G5 := Go.Lib.hid g5
          have HB1 := Go.Lib.hid hb1
          clear hx1 g5 hb1
          clear e0 e1 e2 e3 e4
          cases cb with
          | true =>
            gi_wp2_with fail
            exact ⟨keepsFrom_below HX1.out, ⟨fun j hj => HX1.out.block j (by have := HB.out.size; have := HSZ2.out; omega), .of_below HX1.out⟩, HB1.out, fun y hy => by
              rcases List.mem_append.1 hy with h | h
              · exact HPRE.out y h
              · simp at h; subst h; exact HCB.out.symm⟩
          | false =>
            gi_wp2_with fail
            first
              | exact ⟨keepsFrom_below HX1.out, ⟨HBW2.out.trans (HB1.out.mono HBW2.out.size), G5.out⟩, rfl, (sx, rx), by simp, HCB.out.symm⟩
              | exact ⟨(keepsFrom_below HX1.out).trans ((KeepsOthers.setCell _ _ _).from _), ⟨(HBW2.out.trans (HB1.out.mono HBW2.out.size)).setCell (p := ⟨w.heap.size + 1, 0, none⟩) (by show w.heap.size ≤ w.heap.size + 1; omega) _, heap_set (i := 0) G5.out⟩, rfl, (sx, rx), by simp, HCB.out.symm⟩
        case done =>
          rintro D ys W hD rfl ⟨hb, hall⟩ hK
          have hfin : (allR ⟨mid, mre, mop, mau, mcu, mde, mav, mco, mqs, man, msv, mad, true, msi⟩).all (fun x => checkB x.2) = true := by rw [← HR.out]; exact List.all_eq_true.2 hall
          have g4 := (hb.block _ (by have := HSZ2.out; omega)).trans G3.out
          have r0 : W.cell? ⟨w.heap.size + 1, 0, none⟩ = some (.bool false) := row_cell g4 0 _ rfl
          have z0 : W.frozen? ⟨w.heap.size + 1, 0, none⟩ = false := row_frozen g4 0
          have hbZ := (HBW2.out.trans (hb.mono HBW2.out.size)).setCell (p := ⟨w.heap.size + 1, 0, none⟩) (by show w.heap.size ≤ w.heap.size + 1; omega) (.bool true)
          have g5 : (W.setCell ⟨w.heap.size + 1, 0, none⟩ (.bool true)).heap[w.heap.size + 1]? = some (.cells #[.bool true] 4 (0, 0)) := heap_set g4
          have hKZ := (heap_set_other (i := 0) (v := .bool true) g4 (show D ≠ w.heap.size + 1 by have := HSZ2.out; omega)).trans hK
          have HLW := Go.Lib.hid hlw
          have HB := Go.Lib.hid hb
          have HDD := Go.Lib.hid hD
          have G4 := Go.Lib.hid g4
          have HBZ := Go.Lib.hid hbZ
          have G5 := Go.Lib.hid g5
          have HKZ := Go.Lib.hid hKZ
          have HFIN := Go.Lib.hid hfin
          have HK := Go.Lib.hid hK
          clear hb hD g4 hbZ g5 hKZ hfin hK
          clear hall
          gi_wp2_with fail
          have hzz := HSZ2.out
          have hdd := HDD.out
          refine ⟨by simp, .inl ⟨_, _, rfl, run_takeDeferred HKZ.out, ?_⟩⟩
          have q8 := (World.putObj_heap_other (w := W.setCell ⟨w.heap.size + 1, 0, none⟩ (.bool true)) (r := D) (o := .deferred none) (k := w.heap.size + 1) (by omega)).trans G5.out
          refine ⟨_, results_bool rfl _ _ _ _ rfl q8, ?_⟩
          rw [HFIN.out]
          exact ⟨rfl, HBZ.out.trans (belowK_b (w := w) (Nat.le_refl _) _ D _ _ (by omega) HKZ.out rfl rfl)⟩
        case stop =>
          rintro D c pre W hD hpre ⟨⟨hb, hbx⟩, rfl, x, hx, hxf⟩ hK
          have hfin : (allR ⟨mid, mre, mop, mau, mcu, mde, mav, mco, mqs, man, msv, mad, true, msi⟩).all (fun x => checkB x.2) = false := by
            rw [← HR.out, List.all_eq_false]
            exact ⟨x, hpre.subset hx, by simp [hxf]⟩
          have HLW := Go.Lib.hid hlw
          have HB := Go.Lib.hid hb
          have HDD := Go.Lib.hid hD
          have HBX := Go.Lib.hid hbx
          have HFIN := Go.Lib.hid hfin
          have HK := Go.Lib.hid hK
          clear hb hD hbx hfin hK
          gi_wp2_with fail
          have hzz := HSZ2.out
          have hdd := HDD.out
          refine ⟨by simp, .inl ⟨_, _, rfl, run_takeDeferred HK.out, ?_⟩⟩
          have q8 := (World.putObj_heap_other (w := W) (r := D) (o := .deferred none) (k := w.heap.size + 1) (by omega)).trans HBX.out
          refine ⟨_, results_bool rfl _ _ _ _ rfl q8, ?_⟩
          rw [HFIN.out]
          exact ⟨rfl, HB.out.trans (belowK_b (w := w) (Nat.le_refl _) W D _ _ (by omega) HK.out rfl rfl)⟩
  · refine (callsIn_wide (n := 8)).1 ?_
    refine callsIn_of_wp_marks Try.func18 rfl trivial ?_ rfl
    simp only [Try.ntmps18, List.size_toArray, List.length_cons, List.length_nil, Nat.reduceAdd, Nat.reduceSub, Array.replicate_succ, Array.replicate_zero, List.push_toArray, List.append_toArray, List.nil_append, List.cons_append]
    iterate 4
      gi_wp2_with fail
      refine ⟨trivial, (callsIn_wide.2 (mwithin_any _ _ _)).mono ?_⟩
      rintro e w9 ⟨rfl, hw9⟩
      have hw8 := hw9.symm
      clear hw9
      subst hw8
    gi_upto_region 3 with fail
    gi_cut [55] from 39 (fun v55 wx => v55 = .bool false ∧ wx = X)
    case first =>
      gi_wp2_with fail
      all_goals
        gi_meet
        case rel => exact ⟨by first | rfl | (simp; omega), rfl⟩
    case rest =>
    obtain ⟨rfl, hwc⟩ := hcut
    have hwc2 := hwc.symm
    clear hwc
    subst hwc2
    gi_wp2_with fail
    clear y0 y2 y7 y8 y9 y10 y11 y12 y13 hX h1 h2 h3 h4 t1 t2 u1 u2 u3
    gi_loopw [59] (fun i wr => ∃ k : Nat, i = .int .i64 k ∧ k ≤ nq ∧ Below X.heap.size X wr) (fun i _ => nq - (RowKit.intOf i).toNat)
    case atStart => exact ⟨0, rfl, Nat.zero_le _, Below.refl _ _⟩
    case round =>
      obtain ⟨k, rfl, hk, hbw⟩ := hrel
      by_cases hlt : k < nq
      · have t1 : (k : Int) < (nq : Int) := by omega
        have q2 : IntKind.i64.wrap ((k : Int) + 1) = (k : Int) + 1 := wrapi (by omega) (by omega)
        have hqr : Qns wr (.slice aq nq cq) mqs := HQX.out.below hbw (Nat.le_refl _)
        obtain ⟨gq, off, rfl, hgw, hat⟩ := Qns.at (by rw [← HNQ.out] at hqr; exact hqr) (by rw [HNQ.out]; omega)
        obtain ⟨x0, x1, x2⟩ := hat k (by rw [HNQ.out]; exact hlt)
        have hmem := (qn_step HNQ.out hlt).2
        have hname := HQN.out _ hmem
        have hgood : qOk (mqs.getD k q0) = true := List.all_eq_true.1 hq _ hmem
        have hcs := qOk_cases (mqs.getD k q0)
        clear hmem
        generalize mqs.getD k q0 = y at *
        obtain ⟨yn, yt, yc⟩ := y
        simp only at hname hcs x0 x1 x2
        have hva := fun W => valid_any (mk yn) W (by rw [size_mk]; exact hname)
        rw [bl_mk] at hva
        obtain ⟨X1, hX1⟩ : ∃ X1, wr.alloc (.cells #[.string (mk yn), .int .i64 yt, .int .i64 yc] 47) = X1 := ⟨_, rfl⟩
        have hbn : Below X.heap.size X X1 := by rw [← hX1]; exact hbw.alloc hbw.size _
        have hnew : X1.heap[wr.heap.size]? = some (.cells #[.string (mk yn), .int .i64 yt, .int .i64 yc] 47 (0, 0)) := by rw [← hX1]; exact heap_alloc_new _ _
        have v0 : X1.cell? ⟨wr.heap.size, 0, none⟩ = some (.string (mk yn)) := row_cell hnew 0 _ rfl
        have v1 : X1.cell? ⟨wr.heap.size, 1, none⟩ = some (.int .i64 yt) := row_cell hnew 1 _ rfl
        have v2 : X1.cell? ⟨wr.heap.size, 2, none⟩ = some (.int .i64 yc) := row_cell hnew 2 _ rfl
        have hcc : Nm.valid yn = true ∧ withinN yt 65535 = true ∧ withinN yc 65535 = true := by
          rcases hcs with ⟨_, e1, e2, e3⟩ | ⟨e0, _⟩ | ⟨e0, _⟩ | ⟨e0, _⟩
          · exact ⟨e1, e2, e3⟩
          all_goals (rw [e0] at hgood; cases hgood)
        obtain ⟨e1, e2, e3⟩ := hcc
        have HVA := Go.Lib.hid hva
        have HBN := Go.Lib.hid hbn
        clear hva hbn
        clear hqr hat hbw hnew hcs hgood
        gi_wp2_with fail
        refine ⟨trivial, (callsIn_wide.2 (HVA.out _)).mono ?_⟩
        rintro e _ ⟨rfl, rfl⟩
        iterate 2
          gi_wp2_with fail
          refine ⟨trivial, (callsIn_wide.2 (mwithin_any _ _ _)).mono ?_⟩
          rintro e w9 ⟨rfl, hw9⟩
          have hw8 := hw9.symm
          clear hw9
          subst hw8
        gi_wp2_with fail
        go_roundw
        case rel => exact ⟨k + 1, by go_num, by omega, HBN.out⟩
        case measure => simp [RowKit.intOf]; omega
      · obtain rfl : k = nq := by omega
        have t1 : ¬ (k : Int) < (k : Int) := by omega
        have g1 := (hbw.block _ (Array.getElem?_eq_some_iff.1 HG1.out).1).trans HG1.out
        have g2 := (hbw.block _ (Array.getElem?_eq_some_iff.1 HSET.out).1).trans HSET.out
        have hbf : Below w.heap.size w wr := HB2.out.trans (hbw.mono HB2.out.size)
        have hrec := Records_fn ⟨mid, mre, mop, mau, mcu, mde, mav, mco, mqs, man, msv, mad, false, 0⟩ (.slice aq k cq) (.slice aa na ca) (.slice av ns cs) (.slice ad nd cd) wr
        obtain ⟨fs, hu⟩ := undMsg
        have l0 : wr.cell? ⟨w.heap.size, 0, none⟩ = some (.int .i64 mid) := row_cell g1 0 _ rfl
        have l1 : wr.cell? ⟨w.heap.size, 1, none⟩ = some (.bool mre) := row_cell g1 1 _ rfl
        have l2 : wr.cell? ⟨w.heap.size, 2, none⟩ = some (.int .i64 mop) := row_cell g1 2 _ rfl
        have l3 : wr.cell? ⟨w.heap.size, 3, none⟩ = some (.bool mau) := row_cell g1 3 _ rfl
        have l4 : wr.cell? ⟨w.heap.size, 4, none⟩ = some (.bool mcu) := row_cell g1 4 _ rfl
        have l5 : wr.cell? ⟨w.heap.size, 5, none⟩ = some (.bool mde) := row_cell g1 5 _ rfl
        have l6 : wr.cell? ⟨w.heap.size, 6, none⟩ = some (.bool mav) := row_cell g1 6 _ rfl
        have l7 : wr.cell? ⟨w.heap.size, 7, none⟩ = some (.int .i64 mco) := row_cell g1 7 _ rfl
        have l8 : wr.cell? ⟨w.heap.size, 8, none⟩ = some (.slice aq k cq) := row_cell g1 8 _ rfl
        have l9 : wr.cell? ⟨w.heap.size, 9, none⟩ = some (.slice aa na ca) := row_cell g1 9 _ rfl
        have l10 : wr.cell? ⟨w.heap.size, 10, none⟩ = some (.slice av ns cs) := row_cell g1 10 _ rfl
        have l11 : wr.cell? ⟨w.heap.size, 11, none⟩ = some (.slice ad nd cd) := row_cell g1 11 _ rfl
        have l12 : wr.cell? ⟨w.heap.size, 12, none⟩ = some (.bool false) := row_cell g1 12 _ rfl
        have l13 : wr.cell? ⟨w.heap.size, 13, none⟩ = some (.int .i64 0) := row_cell g1 13 _ rfl
        have G1 := Go.Lib.hid g1
        have G2 := Go.Lib.hid g2
        have HBF := Go.Lib.hid hbf
        have HREC := Go.Lib.hid hrec
        have HU := Go.Lib.hid hu
        clear g1 g2 hbf hrec hu
        clear hbw
        gi_upto_region 11 with fail
        gi_cut [81] from 7 (fun v81 wx => v81 = .func (.func 46) #[] #[.pointer (some ⟨wr.heap.size, 0, none⟩)] ∧ wx = wr.alloc (.cells (MC ⟨mid, mre, mop, mau, mcu, mde, mav, mco, mqs, man, msv, mad, false, 0⟩ (.slice aq k cq) (.slice aa na ca) (.slice av ns cs) (.slice ad nd cd)) 27))
        case first =>
          gi_wp2_with fail
          refine ⟨trivial, (callsIn_wide.2 HREC.out).mono ?_⟩
          rintro e w2 ⟨rfl, hw2⟩
          gi_wp2_with fail
          gi_meet
          case rel => exact ⟨rfl, rfl⟩
        case rest =>
        clear l0 l1 l2 l3 l4 l5 l6 l7 l8 l9 l10 l11 l12 l13
        obtain ⟨rfl, hw2⟩ := hcut
        have hsz2 : wc.heap.size = wr.heap.size + 1 := by rw [hw2]; simp
        have hbc : Below wr.heap.size wr wc := by rw [hw2]; exact (Below.refl _ wr).alloc (Nat.le_refl _) _
        have hbox : wc.heap[wr.heap.size]? = some (.cells (MC ⟨mid, mre, mop, mau, mcu, mde, mav, mco, mqs, man, msv, mad, false, 0⟩ (.slice aq k cq) (.slice aa na ca) (.slice av ns cs) (.slice ad nd cd)) 27 (0, 0)) := by rw [hw2]; exact heap_alloc_new _ _
        have hbw2 : Below w.heap.size w wc := HBF.out.trans (hbc.mono HBF.out.size)
        have g3 := (hbc.block _ (Array.getElem?_eq_some_iff.1 G2.out).1).trans G2.out
        have hlw := (Array.getElem?_eq_some_iff.1 G2.out).1
        have hm0 : MsgL w ⟨mid, mre, mop, mau, mcu, mde, mav, mco, mqs, man, msv, mad, false, 0⟩ (.slice aq k cq) (.slice aa na ca) (.slice av ns cs) (.slice ad nd cd) := HM0.out
        have hseq := records_seq 7 (by omega) wr.heap.size ⟨mid, mre, mop, mau, mcu, mde, mav, mco, mqs, man, msv, mad, false, 0⟩ (.slice aq k cq) (.slice aa na ca) (.slice av ns cs) (.slice ad nd cd) w wc hm0 hbw2 (by omega) hbox HSL.out
        obtain ⟨R, hR⟩ : ∃ R, R = allR ⟨mid, mre, mop, mau, mcu, mde, mav, mco, mqs, man, msv, mad, false, 0⟩ := ⟨_, rfl⟩
        rw [← hR] at hseq
        have HSEQ := Go.Lib.hid hseq
        have HSZ2 := Go.Lib.hid hsz2
        have HBW2 := Go.Lib.hid hbw2
        have G3 := Go.Lib.hid g3
        have HR := Go.Lib.hid hR
        clear hseq hsz2 hbw2 g3 hR
        clear hw2 hbc hbox hm0
        gi_wp2_with fail
        refine wpIn_rangeFunc_ok rfl (by omega) (gf := 46) (lb := #[.pointer (some ⟨wr.heap.size, 0, none⟩)]) rfl trivial (enters_of Try.func46 (by kernel_rfl) rfl)
          HSEQ.out KN.trans (fun W l o o' hl h1 h2 _ => ⟨fun j hj => World.putObj_heap_other (by have := HSZ2.out; omega), KpT.put W l o o' h1 h2⟩) (Below.refl _ _) (fun _ => rfl)
          (fun pre W => Below wc.heap.size wc W ∧ ∀ x ∈ pre, checkB x.2 = true) (fun c pre W => (Below w.heap.size w W ∧ W.heap[w.heap.size + 1]? = some (.cells #[.bool false] 4 (0, 0))) ∧ (c = .ret ∧ ∃ x ∈ pre, checkB x.2 = false))
          (OwnFrom.and (ownFrom_below (Nat.le_refl _) (Nat.le_refl _)) (ownFrom_pure _ _))
          (fun c => OwnFrom.and (OwnFrom.and (ownFrom_below (Nat.le_refl _) (by have := HSZ2.out; omega)) (ownFrom_heap2 _ _ (fun _ => _) _ _)) (ownFrom_pure _ _))
          ⟨Below.refl _ _, fun x hx => by cases hx⟩ (fun x a' W => ∃ N, (wc.heap.size ≤ N ∧ a' = { tmps := #[MV ⟨mid, mre, mop, mau, mcu, mde, mav, mco, mqs, man, msv, mad, false, 0⟩ (.slice aq k cq) (.slice aa na ca) (.slice av ns cs) (.slice ad nd cd), .pointer (some ⟨w.heap.size, 0, none⟩), .pointer (some ⟨w.heap.size + 1, 0, none⟩), undef, u4, undef, .pointer (some ⟨N, 0, none⟩), u7, u8, u9, u10, u11, u12, u13, u14, u15, u16, u17, u18, u19, u20, u21, u22, u23, u24, u25, u26, u27, u28, u29, u30, u31, u32, u33, u34, u35, u36, u37, u38, u39, u40, u41, u42, u43, u44, u45, u46, u47, u48, u49, u50, u51, u52, u53, u54, u55, u56, u57, u58, u59, u60, u61, u62, u63, u64, u65, u66, u67, u68, u69, u70, u71, u72, u73, u74, u75, u76, u77, u78, u79, u80, .func (.func 46) #[] #[.pointer (some ⟨wr.heap.size, 0, none⟩)], .int .i64 (x.1 : Int), rrV x.2, u84, u85, u86], defers := [] }) ∧ W.heap[N]? = some (.cells (rrC x.2) 45 (0, 0)))
          (fun x a' => ownFrom_ex2 fun N => OwnFrom.and (ownFrom_pure _ (fun _ => _)) (ownFrom_heap2 _ _ (fun _ => _) _ _)) ?assign ?body ?done ?stop
        case assign =>
          rintro lp pre ⟨sx, rx⟩ W K hi hok hK
          obtain ⟨xn, xt, xc, xl, xd⟩ := rx
          have HK := Go.Lib.hid hK
          have HI := Go.Lib.hid hi
          clear hK hi
          unfold encSec
          gi_wp2
          refine HK.out _ _ (keepsFrom_below ((Below.refl _ W).alloc (Nat.le_refl _) _)) ((KN.refl _ W).alloc (by have := HI.out.1.size; have := HSZ2.out; omega) _) ⟨HI.out.1.alloc HI.out.1.size _, HI.out.2⟩ ⟨W.heap.size, ⟨HI.out.1.size, rfl⟩, heap_alloc_new _ _⟩
        case body =>
          rintro lp pre ⟨sx, rx⟩ a' W ⟨hb, hpre⟩ hok ⟨N, ⟨hN, rfl⟩, hx⟩
          have hmem : (sx, rx) ∈ R := hok.subset (by simp)
          have hro := HRR.out _ (by rw [HR.out] at hmem; exact hmem)
          have hck := Check_any rx W hro
          have g4 := (hb.block _ (by have := HSZ2.out; omega)).trans G3.out
          have e0 : W.cell? ⟨N, 0, none⟩ = some (.string (mk rx.name)) := row_cell hx 0 _ rfl
          have e1 : W.cell? ⟨N, 1, none⟩ = some (.int .i64 rx.ty) := row_cell hx 1 _ rfl
          have e2 : W.cell? ⟨N, 2, none⟩ = some (.int .i64 rx.cl) := row_cell hx 2 _ rfl
          have e3 : W.cell? ⟨N, 3, none⟩ = some (.int .i64 rx.ttl) := row_cell hx 3 _ rfl
          have e4 : W.cell? ⟨N, 4, none⟩ = some (.string (mk rx.data)) := row_cell hx 4 _ rfl
          obtain ⟨cb, hcb⟩ : ∃ cb, cb = checkB rx := ⟨_, rfl⟩
          rw [← hcb] at hck
          have HCK := Go.Lib.hid hck
          have HB := Go.Lib.hid hb
          have G4 := Go.Lib.hid g4
          have HPRE := Go.Lib.hid hpre
          have HCB := Go.Lib.hid hcb
          clear hck hb g4 hpre hcb
          clear hmem hro hok hx
          gi_wp2_with fail
          refine ⟨trivial, (callsIn_wide.2 HCK.out).mono ?_⟩
          rintro e W1 ⟨rfl, hx1⟩
          have g5 := (hx1.block _ (Array.getElem?_eq_some_iff.1 G4.out).1).trans G4.out
          have hb1 := HB.out.trans (hx1.mono HB.out.size)
          have r0 : W1.cell? ⟨w.heap.size + 1, 0, none⟩ = some (.bool false) := row_cell g5 0 _ rfl
          have z0 : W1.frozen? ⟨w.heap.size + 1, 0, none⟩ = false := row_frozen g5 0
          have HX1 := Go.Lib.hid hx1
          have G5 := Go.Lib.hid g5
          have HB1 := Go.Lib.hid hb1
          clear hx1 g5 hb1
          clear e0 e1 e2 e3 e4
          cases cb with
          | true =>
            gi_wp2_with fail
            exact ⟨keepsFrom_below HX1.out, ⟨fun j hj => HX1.out.block j (by have := HB.out.size; have := HSZ2.out; omega), .of_below HX1.out⟩, HB1.out, fun y hy => by
              rcases List.mem_append.1 hy with h | h
              · exact HPRE.out y h
              · simp at h; subst h; exact HCB.out.symm⟩
          | false =>
            gi_wp2_with fail
            first
              | exact ⟨keepsFrom_below HX1.out, ⟨HBW2.out.trans (HB1.out.mono HBW2.out.size), G5.out⟩, rfl, (sx, rx), by simp, HCB.out.symm⟩
              | exact ⟨(keepsFrom_below HX1.out).trans ((KeepsOthers.setCell _ _ _).from _), ⟨(HBW2.out.trans (HB1.out.mono HBW2.out.size)).setCell (p := ⟨w.heap.size + 1, 0, none⟩) (by show w.heap.size ≤ w.heap.size + 1; omega) _, heap_set (i := 0) G5.out⟩, rfl, (sx, rx), by simp, HCB.out.symm⟩
        case done =>
          rintro D ys W hD rfl ⟨hb, hall⟩ hK
          have hfin : (allR ⟨mid, mre, mop, mau, mcu, mde, mav, mco, mqs, man, msv, mad, false, 0⟩).all (fun x => checkB x.2) = true := by rw [← HR.out]; exact List.all_eq_true.2 hall
          have g4 := (hb.block _ (by have := HSZ2.out; omega)).trans G3.out
          have r0 : W.cell? ⟨w.heap.size + 1, 0, none⟩ = some (.bool false) := row_cell g4 0 _ rfl
          have z0 : W.frozen? ⟨w.heap.size + 1, 0, none⟩ = false := row_frozen g4 0
          have hbZ := (HBW2.out.trans (hb.mono HBW2.out.size)).setCell (p := ⟨w.heap.size + 1, 0, none⟩) (by show w.heap.size ≤ w.heap.size + 1; omega) (.bool true)
          have g5 : (W.setCell ⟨w.heap.size + 1, 0, none⟩ (.bool true)).heap[w.heap.size + 1]? = some (.cells #[.bool true] 4 (0, 0)) := heap_set g4
          have hKZ := (heap_set_other (i := 0) (v := .bool true) g4 (show D ≠ w.heap.size + 1 by have := HSZ2.out; omega)).trans hK
          have HLW := Go.Lib.hid hlw
          have HB := Go.Lib.hid hb
          have HDD := Go.Lib.hid hD
          have G4 := Go.Lib.hid g4
          have HBZ := Go.Lib.hid hbZ
          have G5 := Go.Lib.hid g5
          have HKZ := Go.Lib.hid hKZ
          have HFIN := Go.Lib.hid hfin
          have HK := Go.Lib.hid hK
          clear hb hD g4 hbZ g5 hKZ hfin hK
          clear hall
          gi_wp2_with fail
          have hzz := HSZ2.out
          have hdd := HDD.out
          refine ⟨by simp, .inl ⟨_, _, rfl, run_takeDeferred HKZ.out, ?_⟩⟩
          have q8 := (World.putObj_heap_other (w := W.setCell ⟨w.heap.size + 1, 0, none⟩ (.bool true)) (r := D) (o := .deferred none) (k := w.heap.size + 1) (by omega)).trans G5.out
          refine ⟨_, results_bool rfl _ _ _ _ rfl q8, ?_⟩
          rw [HFIN.out]
          exact ⟨rfl, HBZ.out.trans (belowK_b (w := w) (Nat.le_refl _) _ D _ _ (by omega) HKZ.out rfl rfl)⟩
        case stop =>
          rintro D c pre W hD hpre ⟨⟨hb, hbx⟩, rfl, x, hx, hxf⟩ hK
          have hfin : (allR ⟨mid, mre, mop, mau, mcu, mde, mav, mco, mqs, man, msv, mad, false, 0⟩).all (fun x => checkB x.2) = false := by
            rw [← HR.out, List.all_eq_false]
            exact ⟨x, hpre.subset hx, by simp [hxf]⟩
          have HLW := Go.Lib.hid hlw
          have HB := Go.Lib.hid hb
          have HDD := Go.Lib.hid hD
          have HBX := Go.Lib.hid hbx
          have HFIN := Go.Lib.hid hfin
          have HK := Go.Lib.hid hK
          clear hb hD hbx hfin hK
          gi_wp2_with fail
          have hzz := HSZ2.out
          have hdd := HDD.out
          refine ⟨by simp, .inl ⟨_, _, rfl, run_takeDeferred HK.out, ?_⟩⟩
          have q8 := (World.putObj_heap_other (w := W) (r := D) (o := .deferred none) (k := w.heap.size + 1) (by omega)).trans HBX.out
          refine ⟨_, results_bool rfl _ _ _ _ rfl q8, ?_⟩
          rw [HFIN.out]
          exact ⟨rfl, HB.out.trans (belowK_b (w := w) (Nat.le_refl _) W D _ _ (by omega) HK.out rfl rfl)⟩
end Go.Proofs.Ythfhmbooeemaaaa

/- Message: Check's contract; flags; what Encode writes. -/
namespace Go.Proofs.Ythfhmbooeemaaaa
open Go.RowKit Go.Maps Go.Sq
set_option maxRecDepth 100000
set_option linter.unusedVariables false

/-- a message whose lists are no longer than memory bears -/
structure MsgS (m : Msg) : Prop where
  q : m.qs.length ≤ 1099511627776
  a : m.an.length ≤ 1099511627776
  s : m.sv.length ≤ 1099511627776
  d : m.ad.length ≤ 1099511627776
  qn : ∀ x ∈ m.qs, x.name.length ≤ maxLen
  rr : ∀ x ∈ allR m, RROk x.2
theorem MCheck_any (m : Msg) (q a s d : Value) (w : World) (hm : MsgL w m q a s d) (hs : MsgS m) : Calls Try.prog 18 #[MV m q a s d] w (ChkEnd w (checkM m)) := by
  unfold checkM
  cases h1 : headOk m with
  | false => simpa [h1] using Check_head m q a s d w hm h1
  | true =>
    cases h2 : cntOk m with
    | false => simpa [h1, h2] using Check_cnt m q a s d w hm h1 h2 ⟨hs.q, hs.a, hs.s, hs.d⟩
    | true =>
      cases h3 : m.qs.all qOk with
      | false => simpa [h1, h2, h3] using Check_q m q a s d w hm h1 h2 h3 hs.qn
      | true =>
        have := Check_all m q a s d w hm h1 h2 h3 hs.qn hs.rr
        rw [Bool.true_and, Bool.true_and, Bool.true_and]
        exact this
/-- a message's second sixteen digits -/
def flagsN (m : Msg) : Int := bits .or .i64 (bits .or .i64 (bits .or .i64 (bits .or .i64 (bits .or .i64 (bits .or .i64 (flagN m.resp 15) (m.op * 2048)) (flagN m.auth 10)) (flagN m.cut 9)) (flagN m.des 8)) (flagN m.avail 7)) m.code
theorem flag_lit (b : Bool) (p : Int) (hp : 0 ≤ p ∧ p ≤ 15) (w : World) : Calls Try.prog 36 #[.bool b, .int .i64 p] w fun e w' => e = .returned (.int .i64 (flagN b p.toNat)) ∧ w' = w := by
  obtain ⟨n, rfl⟩ : ∃ n : Nat, p = (n : Int) := ⟨p.toNat, by omega⟩
  exact flag_any b n (by omega) w
set_option maxHeartbeats 4000000 in
theorem flags_any (m : Msg) (q a s d : Value) (w : World) (ho : 0 ≤ m.op ∧ m.op ≤ 15) : Calls Try.prog 37 #[MV m q a s d] w fun e w' => e = .returned (.int .i64 (flagsN m)) ∧ Below w.heap.size w w' := by
  have hb := (Below.refl w.heap.size w).alloc (Nat.le_refl _) (.cells (MC m q a s d) 27)
  have g1 := heap_alloc_new w (.cells (MC m q a s d) 27)
  obtain ⟨X, hX⟩ : ∃ X, w.alloc (.cells (MC m q a s d) 27) = X := ⟨_, rfl⟩
  rw [hX] at hb g1
  have y1 : X.cell? ⟨w.heap.size, 1, none⟩ = some (.bool m.resp) := row_cell g1 1 _ rfl
  have y2 : X.cell? ⟨w.heap.size, 2, none⟩ = some (.int .i64 m.op) := row_cell g1 2 _ rfl
  have y3 : X.cell? ⟨w.heap.size, 3, none⟩ = some (.bool m.auth) := row_cell g1 3 _ rfl
  have y4 : X.cell? ⟨w.heap.size, 4, none⟩ = some (.bool m.cut) := row_cell g1 4 _ rfl
  have y5 : X.cell? ⟨w.heap.size, 5, none⟩ = some (.bool m.des) := row_cell g1 5 _ rfl
  have y6 : X.cell? ⟨w.heap.size, 6, none⟩ = some (.bool m.avail) := row_cell g1 6 _ rfl
  have y7 : X.cell? ⟨w.heap.size, 7, none⟩ = some (.int .i64 m.code) := row_cell g1 7 _ rfl
  have q1 : IntKind.i64.wrap (m.op * 2048) = m.op * 2048 := wrapi (by omega) (by omega)
  obtain ⟨F, hF⟩ : ∃ F, F = flagsN m := ⟨_, rfl⟩
  rw [← hF]
  unfold flagsN at hF
  have HB := Go.Lib.hid hb
  clear hb
  clear g1 ho
  obtain ⟨mid, mre, mop, mau, mcu, mde, mav, mco, mqs, man, msv, mad, med, msi⟩ := m
  simp only at *
  simp only [MC] at hX
  go_enter Try.func37, Try.ntmps37
  go_wp2_with fail
  clear hX
  have HF := Go.Lib.hid hF
  clear hF
  go_quiet ((go_at_call 36; exact Calls.quiet_of_same (flag_lit _ _ (by omega) _)))
  go_wp2_with fail
  go_ret
  exact ⟨by rw [HF.out]; rfl, below_drewN HB.out _⟩
end Go.Proofs.Ythfhmbooeemaaaa

/- Message: what Encode writes; its early end. -/
namespace Go.Proofs.Ythfhmbooeemaaaa
open Go.RowKit Go.Maps Go.Sq
set_option maxRecDepth 100000
set_option linter.unusedVariables false

abbrev WSt := List UInt8 × Met
/-- a question written -/
def qW (st : WSt) (q : Qn) : WSt := ((nameW true (Nm.labs q.name) st.1 st.2).1 ++ two2 q.ty ++ two2 q.cl, (nameW true (Nm.labs q.name) st.1 st.2).2)
/-- data written, its names squeezed or whole -/
def putParts (sq : Bool) (d : List UInt8) : List (Nat × Nat) → Nat → WSt → WSt × Nat
  | [], fr, st => (st, fr)
  | (k, n) :: ps, fr, st => putParts sq d ps (k + n) (nameW sq (Nm.labs ((d.drop k).take n)) (st.1 ++ (d.drop fr).take (k - fr)) st.2)
/-- a record's first numbers -/
def putHead (r : Rc.RR) (st : WSt) : List UInt8 := (nameW true (Nm.labs r.name) st.1 st.2).1 ++ two2 r.ty ++ two2 r.cl ++ four r.ttl
def putBody (r : Rc.RR) (st : WSt) : WSt × Nat := putParts (r.ty != 33) r.data ((Rc.partsN r.ty r.data).getD []) 0 (putHead r st ++ two2 0, (nameW true (Nm.labs r.name) st.1 st.2).2)
/-- a record written -/
def putN (r : Rc.RR) (st : WSt) : WSt := (setTwo ((putBody r st).1.1 ++ r.data.drop (putBody r st).2) (putHead r st).length ((((putBody r st).1.1 ++ r.data.drop (putBody r st).2).length : Int) - (putHead r st).length - 2), (putBody r st).1.2)
def hdrV (m : Msg) : List Int := [m.id, flagsN m, (m.qs.length : Int), (m.an.length : Int), (m.sv.length : Int), (m.ad.length : Int) + flagN m.edns 0]
def hdrB (m : Msg) : List UInt8 := (hdrV m).flatMap two2
def endW (m : Msg) (b : List UInt8) : List UInt8 := if m.edns then b ++ [0] ++ two2 41 ++ two2 m.size ++ four 0 ++ two2 0 else b
def bodyW (m : Msg) : WSt := (allR m).foldl (fun st x => putN x.2 st) (m.qs.foldl qW (hdrB m, []))
/-- a message's bytes, and what is told -/
def encN (m : Msg) : List UInt8 × Int := if checkM m then outN 4096 (endW m (bodyW m).1) false else ([], 1)
theorem two2_len (n : Int) : (two2 n).length = 2 := rfl
theorem four_len (n : Int) : (four n).length = 4 := rfl
theorem hdrB_len (m : Msg) : (hdrB m).length = 12 := by simp [hdrB, hdrV, two2_len]
/-- a writer's state is within bounds -/
def StOk (st : WSt) : Prop := MOk st.2 ∧ st.2.length ≤ st.1.length
theorem nameW_len (sq : Bool) : ∀ (ls : List (List UInt8)) (b : List UInt8) (M : Met), M.length ≤ b.length → (nameW sq ls b M).2.length ≤ (nameW sq ls b M).1.length
  | [], b, M, h => by simp [nameW]; omega
  | l :: ls, b, M, h => by
    rw [nameW]
    split
    · simp [two2]; omega
    · refine nameW_len sq ls _ _ ?_
      split
      · simp; omega
      · simp; omega
theorem valid_len {n : List UInt8} (h : Nm.valid n = true) : n.length ≤ 255 := (Nm.labs_valid h).2.2
theorem nameW_st (sq : Bool) {n : List UInt8} (hv : Nm.valid n = true) {st : WSt} (h : StOk st) : StOk (nameW sq (Nm.labs n) st.1 st.2) ∧ (nameW sq (Nm.labs n) st.1 st.2).1.length ≤ st.1.length + 255 := by
  have h1 := nameW_ok sq (Nm.labs n) st.1 st.2 h.1
  have h2 := nameW_len sq (Nm.labs n) st.1 st.2 h.2
  rw [← (Nm.labs_valid hv).1] at h1
  have := valid_len hv
  exact ⟨⟨h1.1, h2⟩, by omega⟩
theorem qW_st {q : Qn} (hv : Nm.valid q.name = true) {st : WSt} (h : StOk st) : StOk (qW st q) ∧ (qW st q).1.length ≤ st.1.length + 259 := by
  obtain ⟨⟨h1, h2⟩, h3⟩ := nameW_st true hv h
  unfold qW
  refine ⟨⟨h1, ?_⟩, ?_⟩
  · simp only [List.length_append, two2_len]; omega
  · simp only [List.length_append, two2_len]; omega
section
variable {g bm base : Nat} {w0 : World} {most : Int} {b : List UInt8} {M : Met} {bad : Bool} {w : World}
theorem WName_val (c : WCtx g bm base w0) (h : WS g bm base w0 most b M bad w) (n : List UInt8) (sq : Bool) (hv : Nm.valid n = true) (hs : StOk (b, M)) (hl : b.length ≤ 1000000000) :
    Calls Try.prog 39 #[.pointer (some ⟨g, 0, none⟩), .string (mk n), .bool sq] w (WEnd bm (WS g bm base w0 most (nameW sq (Nm.labs n) b M).1 (nameW sq (Nm.labs n) b M).2 bad) w) := by
  obtain ⟨h1, h2, h3⟩ := Nm.labs_valid hv
  have := WName_wire c h (Nm.labs n) sq h2 (by rw [← h1]; exact h3) hs.1 hs.2 hl
  rw [← h1] at this
  exact this
end
/-- what Encode needs of a record -/
def PutOk (r : Rc.RR) : Prop := (∀ st : WSt, StOk st → StOk (putN r st) ∧ (putN r st).1.length ≤ st.1.length + 5000) ∧
  ∀ (g bm base : Nat) (w0 w : World) (most : Int) (st : WSt), WCtx g bm base w0 → WS g bm base w0 most st.1 st.2 false w → StOk st → st.1.length ≤ 2000000 →
    Calls Try.prog 40 #[.pointer (some ⟨g, 0, none⟩), rrV r] w (WEnd bm (WS g bm base w0 most (putN r st).1 (putN r st).2 false) w)
def EncEnd (w : World) (F : List UInt8 × Int) (e : Ending) (w' : World) : Prop := ∃ a c, e = .returned (.tuple #[.slice a F.1.length c, .int .i64 F.2]) ∧ SlT w' 5 1 (.slice a F.1.length c) F.1.length (encB F.1) ∧ Below w.heap.size w w'
set_option maxHeartbeats 4000000 in
theorem Encode_bad (m : Msg) (q a s d : Value) (w : World) (hm : MsgL w m q a s d) (hs : MsgS m) (hc : checkM m = false) : Calls Try.prog 16 #[MV m q a s d] w (EncEnd w (encN m)) := by
  have hF : encN m = ([], 1) := by unfold encN; rw [hc]; rfl
  rw [hF]
  obtain ⟨aq, cq, rfl, _, _⟩ := hm.qs.slice
  obtain ⟨aa, ca, rfl, _, _⟩ := hm.an.slice
  obtain ⟨av, cs, rfl, _, _⟩ := hm.sv.slice
  obtain ⟨ad, cd, rfl, _, _⟩ := hm.ad.slice
  obtain ⟨X, hX⟩ : ∃ X, w.alloc (.cells (MC m (.slice aq m.qs.length cq) (.slice aa m.an.length ca) (.slice av m.sv.length cs) (.slice ad m.ad.length cd)) 27) = X := ⟨_, rfl⟩
  have hb : Below w.heap.size w X := by rw [← hX]; exact (Below.refl _ w).alloc (Nat.le_refl _) _
  have g1 : X.heap[w.heap.size]? = some (.cells (MC m (.slice aq m.qs.length cq) (.slice aa m.an.length ca) (.slice av m.sv.length cs) (.slice ad m.ad.length cd)) 27 (0, 0)) := by rw [← hX]; exact heap_alloc_new _ _
  have hck := MCheck_any m _ _ _ _ X (hm.below hb (Nat.le_refl _)) hs
  rw [hc] at hck
  obtain ⟨fs, hu⟩ := undMsg
  have HCK := Go.Lib.hid hck
  have G1 := Go.Lib.hid g1
  have HB := Go.Lib.hid hb
  have HU := Go.Lib.hid hu
  clear hck g1 hb hu
  clear hm hs hc hF
  obtain ⟨mid, mre, mop, mau, mcu, mde, mav, mco, mqs, man, msv, mad, med, msi⟩ := m
  simp only at *
  generalize mqs.length = nq at *
  generalize man.length = na at *
  generalize msv.length = ns at *
  generalize mad.length = nd at *
  simp only [MC] at hX
  go_enter Try.func16, Try.ntmps16
  go_wp2_with (refine wpList_load_row rfl 27 (.tmp 1) rfl w.heap.size rfl _ _ (0, 0) _ G1.out HU.out rfl infoMsg ?_)
  refine HCK.out.mono ?_; rintro e w1 ⟨rfl, h1⟩
  have H1 := Go.Lib.hid h1
  clear h1
  go_wp2_with fail
  go_ret2
  exact ⟨none, 0, rfl, SlT.nil _ _ _, HB.out.trans (H1.out.mono HB.out.size)⟩
end Go.Proofs.Ythfhmbooeemaaaa

/- Message: what Encode's walk needs. -/
namespace Go.Proofs.Ythfhmbooeemaaaa
open Go.RowKit Go.Lib Go.Maps Go.Sq
set_option maxRecDepth 100000
set_option linter.unusedVariables false

attribute [local go_sem] Oper.semAt_some

theorem flat_len : ∀ l : List Int, (l.flatMap two2).length = 2 * l.length
  | [] => rfl
  | x :: l => by
    have := flat_len l
    rw [List.flatMap_cons, List.length_append, this, two2_len, List.length_cons]
    omega
theorem flat_step {l : List Int} {k : Nat} (h : k < l.length) : (l.take (k + 1)).flatMap two2 = (l.take k).flatMap two2 ++ two2 (l.getD k 0) := by
  rw [List.take_add_one, List.getElem?_eq_getElem h, List.flatMap_append, List.getD_eq_getElem?_getD, List.getElem?_eq_getElem h]
  simp
theorem foldQ_st : ∀ (l : List Qn), (∀ x ∈ l, Nm.valid x.name = true) → ∀ st : WSt, StOk st → StOk (l.foldl qW st) ∧ (l.foldl qW st).1.length ≤ st.1.length + 259 * l.length
  | [], _, st, h => ⟨h, by simp⟩
  | x :: l, hv, st, h => by
    obtain ⟨h1, h2⟩ := qW_st (hv x (by simp)) h
    obtain ⟨h3, h4⟩ := foldQ_st l (fun y hy => hv y (by simp [hy])) (qW st x) h1
    refine ⟨h3, ?_⟩
    rw [List.foldl_cons, List.length_cons]
    omega
theorem foldQ_step {l : List Qn} {k : Nat} (h : k < l.length) (st : WSt) : (l.take (k + 1)).foldl qW st = qW ((l.take k).foldl qW st) (l.getD k q0) := by
  rw [List.take_add_one, List.getElem?_eq_getElem h, List.foldl_append, List.getD_eq_getElem?_getD, List.getElem?_eq_getElem h]
  rfl
theorem qOk_valid {q : Qn} (h : qOk q = true) : Nm.valid q.name = true := by
  rcases qOk_cases q with ⟨_, e1, _, _⟩ | ⟨e0, _⟩ | ⟨e0, _⟩ | ⟨e0, _⟩
  · exact e1
  all_goals (rw [e0] at h; cases h)
theorem cell_putDef {w : World} {D : Nat} {ds : Option (List Deferred)} (h : w.heap[D]? = some (.deferred ds)) (p : Addr) : (w.putObj D (.deferred none)).cell? p = w.cell? p := by
  by_cases e : D = p.block
  · subst e
    have hlt := (Array.getElem?_eq_some_iff.1 h).1
    simp [World.cell?, h, World.putObj_heap_same hlt]
  · simp [World.cell?, World.putObj_heap_other (Ne.symm e)]
theorem SlT.putDef {w : World} {e sz n D : Nat} {v : Value} {cs : List Value} {ds : Option (List Deferred)} (h : SlT w e sz v n cs) (hD : w.heap[D]? = some (.deferred ds)) : SlT (w.putObj D (.deferred none)) e sz v n cs := by
  obtain ⟨⟨h1, a, cap, rfl, h2, h3, h4, h5⟩, hT⟩ := h
  refine ⟨⟨h1, a, cap, rfl, h2, h3, h4, ?_⟩, fun a' m c' e' hm => ?_⟩
  · rcases h5 with h5 | ⟨b, off, rfl, hlt, hc⟩
    · exact .inl h5
    · refine .inr ⟨b, off, rfl, by simpa [World.putObj] using hlt, fun j hj => ?_⟩
      rw [cell_putDef hD, hc j hj]
  · obtain ⟨xs, fr, hx⟩ := hT a' m c' e' hm
    refine ⟨xs, fr, (World.putObj_heap_other (fun e2 => ?_)).trans hx⟩
    rw [e2, hD] at hx
    cases hx
theorem ownFrom_KW {β : Type} {bm B : Nat} {w0 : World} (h0 : w0.heap.size ≤ B) : OwnFrom B (fun (_ : β) W => KW bm w0 W) := fun s W W' row hs hg hr =>
  ⟨Nat.le_trans hs.1 hg.size, fun k o hk h1 h2 => by
    have h3 := hs.2 k o hk h1 h2
    refine (hg.block k (Array.getElem?_eq_some_iff.1 h3).1 (fun e => ?_)).trans h3
    have := (hr k e.symm).1
    have := (Array.getElem?_eq_some_iff.1 hk).1
    omega⟩
theorem ownFrom_WS {β : Type} {g bm base B : Nat} {w1 : World} {most : Int} {bad : Bool} (f : β → WSt) (c : WCtx g bm base w1) (hB : bm < B) (hb : base ≤ B) (h1 : w1.heap.size ≤ B) : OwnFrom B (fun s W => WS g bm base w1 most (f s).1 (f s).2 bad W) := fun s W W' row hs hg hr => by
  obtain ⟨⟨⟨v, hrow, hown⟩, hmap⟩, hbw, hkw⟩ := hs
  have hcell : ∀ k cs T fr, W.heap[k]? = some (.cells cs T fr) → some k ≠ row := fun k cs T fr hk e => by
    obtain ⟨_, o, ho, hc⟩ := hr k e.symm
    rw [hk] at ho
    cases ho
    cases hc
  refine ⟨⟨⟨v, (hg.block g (Array.getElem?_eq_some_iff.1 hrow).1 (hcell _ _ _ _ hrow)).trans hrow, World.ownsRow.kept hown hg ?_⟩, hmap.kept hg (fun e => ?_)⟩, hbw.grown hg (Nat.le_trans c.hb hbw.size) (fun k e => Nat.le_trans hb (hr k e).1), ownFrom_KW (β := Unit) h1 () W W' row hkw hg hr⟩
  · cases hv : v.ownBlock with
    | none => exact .inl rfl
    | some k =>
      obtain ⟨cc, fz, hk⟩ := owns_kind hown k hv
      exact .inr (hcell _ _ _ _ hk)
  · have := (hr bm e.symm).1
    omega
theorem foldP_st : ∀ (l : List (Nat × Rc.RR)), (∀ x ∈ l, PutOk x.2) → ∀ st : WSt, StOk st → StOk (l.foldl (fun st x => putN x.2 st) st) ∧ (l.foldl (fun st x => putN x.2 st) st).1.length ≤ st.1.length + 5000 * l.length
  | [], _, st, h => ⟨h, by simp⟩
  | x :: l, hv, st, h => by
    obtain ⟨h1, h2⟩ := (hv x (by simp)).1 st h
    obtain ⟨h3, h4⟩ := foldP_st l (fun y hy => hv y (by simp [hy])) (putN x.2 st) h1
    refine ⟨h3, ?_⟩
    rw [List.foldl_cons, List.length_cons]
    omega
theorem allR_len (m : Msg) : (allR m).length = m.an.length + m.sv.length + m.ad.length := by
  simp only [allR, baseS, secL, List.length_append, List.length_map, List.length_nil]
  omega
theorem pre_sub {α : Type} {l m : List α} (h : l <+: m) : l.length ≤ m.length ∧ ∀ x ∈ l, x ∈ m := ⟨h.length_le, fun x hx => h.subset hx⟩
end Go.Proofs.Ythfhmbooeemaaaa

