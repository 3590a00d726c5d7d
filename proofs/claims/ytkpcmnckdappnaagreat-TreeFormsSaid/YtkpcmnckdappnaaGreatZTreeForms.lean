/- TreeForms: zones may be just as the document says: a root, unlike names, records of their own, no alias beside another record, servers. For every input; no conditions. -/
import Derived.Test.YtkpcmnckdappnaaGreatG9
namespace Go.Proofs.YtkpcmnckdappnaaGreat.treeForms
open Go.ChangeShapes Go.WideShapes Go.ChangeAt Go.RowKit Go.Sort Go.Lib
open Go.ChangeMaps (open_string shut_string)
set_option maxRecDepth 100000
set_option linter.unusedVariables false
set_option linter.unusedSimpArgs false

def fo1 : List Zp := [za1, za2, za3]
theorem fn1 : newP fo1 = none := by decide +kernel
theorem fk1 : ∀ z ∈ fo1, okB z = true := by decide +kernel
def fo2 : List Zp := [za0, za1, za2, za3, za1]
theorem fn2 : newP fo2 = none := by decide +kernel
theorem fk2 : ∀ z ∈ fo2, okB z = true := by decide +kernel
def fo3 : List Zp := [za0, { za1 with sv := [] }, za2, za3]
theorem fn3 : newP fo3 = none := by decide +kernel
theorem fk3 : ∀ z ∈ fo3, okB z = true := by decide +kernel
def fo4 : List Zp := [{ za0 with rs := za0.rs ++ [adrP [1, 119, 1, 97, 0] 5] }, za1, za2, za3]
theorem fn4 : newP fo4 = none := by decide +kernel
theorem fk4 : ∀ z ∈ fo4, okB z = true := by decide +kernel
def fo5 : List Zp := [za0, { za1 with rs := za1.rs ++ [adrP [1, 120, 1, 97, 0] 5] }, za2, za3]
theorem fn5 : newP fo5 = none := by decide +kernel
theorem fk5 : ∀ z ∈ fo5, okB z = true := by decide +kernel
def fo6 : List Zp := [za0, { za1 with rs := za1.rs ++ [aliR [1, 97, 0] [1, 98, 0]] }, za2, za3]
theorem fn6 : newP fo6 = none := by decide +kernel
theorem fk6 : ∀ z ∈ fo6, okB z = true := by decide +kernel
def fo7 : List Zp := [za0, { za1 with rs := za1.rs ++ [makeNN [1, 97, 0] 2 5 [1, 98, 0]] }, za2, za3]
theorem fn7 : newP fo7 = none := by decide +kernel
theorem fk7 : ∀ z ∈ fo7, okB z = true := by decide +kernel
def fo8 : List Zp := [za0, { za1 with rs := za1.rs ++ [adrP [1, 119, 1, 98, 0] 5] }, za2, za3]
theorem fn8 : newP fo8 = none := by decide +kernel
theorem fk8 : ∀ z ∈ fo8, okB z = true := by decide +kernel
def fo10 : List Zp := [za0, { za1 with nm := [97] }, za2, za3]
theorem fn10 : newP fo10 = none := by decide +kernel
theorem fk10 : ∀ z ∈ fo10, okB z = true := by decide +kernel
def fo11 : List Zp := [za0, { za1 with rs := za1.rs ++ [aliR [1, 112, 1, 97, 0] [1, 98, 0]] }, za2, za3]
theorem fn11 : (newP fo11).isSome = true := by decide +kernel
theorem fk11 : ∀ z ∈ fo11, okB z = true := by decide +kernel
def za2n (n : Int) : Zp := { za2 with sv := za2.sv ++ [([0], n)] }
def fo9 (n : Int) : List Zp := [za0, za1, za2n n, za3]
theorem fk9 (n : Int) : ∀ z ∈ fo9 n, okB z = true := by
  intro z hz
  simp only [fo9, List.mem_cons, List.not_mem_nil, or_false] at hz
  rcases hz with rfl | rfl | rfl | rfl
  · decide +kernel
  · decide +kernel
  · kernel_rfl
  · decide +kernel
theorem fa9 (n : Int) : addP [] (fo9 n) = some (fo9 n) := by kernel_rfl
theorem fb9 (n : Int) : (findP (fo9 n) [0]).isNone = false := by kernel_rfl
theorem fc9 (n : Int) : mayP (fo9 n) za0 = true ∧ mayP (fo9 n) za1 = true ∧ mayP (fo9 n) za3 = true := ⟨by kernel_rfl, by kernel_rfl, by kernel_rfl⟩
theorem fd9 (n : Int) : aliP (za2n n) = true ∧ (za2n n).rs.any (badP (fo9 n) (za2n n)) = false := ⟨by kernel_rfl, by kernel_rfl⟩
theorem fs9 (n : Int) : srvP (za2n n).sv = !(decide (n < 0) || decide (4294967295 < n)) := by
  have h : (za2n n).sv = [([2, 110, 115, 1, 98, 0], 3), ([0], n)] := rfl
  rw [h]
  unfold srvP
  have v1 : Nm.valid [2, 110, 115, 1, 98, 0] = true := by decide +kernel
  have v2 : Nm.valid [0] = true := by decide +kernel
  simp [v1, v2]
theorem fn9 (n : Int) : (newP (fo9 n)).isSome = (decide (0 ≤ n) && decide (n < 4294967296)) := by
  rw [newP_some (fa9 n), fb9]
  obtain ⟨h0, h1, h3⟩ := fc9 n
  obtain ⟨k1, k2⟩ := fd9 n
  have h2 : mayP (fo9 n) (za2n n) = !(decide (n < 0) || decide (4294967295 < n)) := by
    unfold mayP
    rw [k1, k2, fs9]
    have : decide ((za2n n).rs.length ≤ 100) = true := by kernel_rfl
    rw [this]
    simp
  have e : (fo9 n).any (fun z => !mayP (fo9 n) z) = (decide (n < 0) || decide (4294967295 < n)) := by
    show ([za0, za1, za2n n, za3] : List Zp).any (fun z => !mayP (fo9 n) z) = _
    simp only [List.any_cons, List.any_nil, h0, h1, h2, h3, Bool.not_true, Bool.not_not, Bool.false_or, Bool.or_false]
  rw [e]
  by_cases c1 : n < 0
  · have c2 : ¬ 0 ≤ n := by omega
    simp [c1, c2]
  · by_cases c3 : 4294967295 < n
    · have c4 : ¬ n < 4294967296 := by omega
      simp [c1, c3, c4]
    · have c4 : n < 4294967296 := by omega
      have c2 : 0 ≤ n := by omega
      simp [c1, c2, c3, c4]
theorem fm9 (n : Int) (h : ¬ (0 ≤ n ∧ n < 4294967296)) : newP (fo9 n) = none := by
  have h2 := fn9 n
  cases hc : newP (fo9 n) with
  | none => rfl
  | some T =>
    rw [hc] at h2
    simp only [Option.isSome_some] at h2
    have h3 := h2.symm
    simp only [Bool.and_eq_true, decide_eq_true_eq] at h3
    exact absurd h3 h
/-- what New answers at zones that may not be, and at those that may be -/
theorem bad_any (l : List Zn) (a : Option Addr) (c : Nat) (w : World) (Z : List Zp) (hl : Zns w (.slice a l.length c) l) (e : l.map Zn.p = Z) (hn : l.length ≤ 1000) (hok : ∀ z ∈ Z, okB z = true) (hnew : newP Z = none) :
    Calls Tryz.prog 7 #[.slice a l.length c] w fun e w' => e = .returned (.tuple #[.pointer none, .int .i64 1]) ∧ Below w.heap.size w w' := by
  refine (New_any l a c w hl (map_okB e hok) hn).mono ?_
  rintro en w' ⟨hb, h⟩
  rw [e, hnew] at h
  exact ⟨h, hb⟩
theorem good_any (l : List Zn) (a : Option Addr) (c : Nat) (w : World) (Z : List Zp) (hl : Zns w (.slice a l.length c) l) (e : l.map Zn.p = Z) (hn : l.length ≤ 1000) (hok : ∀ z ∈ Z, okB z = true) (hnew : (newP Z).isSome = true) :
    Calls Tryz.prog 7 #[.slice a l.length c] w fun e w' => ∃ tb, e = .returned (.tuple #[.pointer (some ⟨tb, 0, none⟩), .int .i64 0]) ∧ Below w.heap.size w w' := by
  refine (New_any l a c w hl (map_okB e hok) hn).mono ?_
  rintro en w' ⟨hb, h⟩
  rw [e] at h
  obtain ⟨T, hT⟩ := Option.isSome_iff_exists.1 hnew
  rw [hT] at h
  obtain ⟨tb, T, rfl, _, _⟩ := h
  exact ⟨tb, rfl, hb⟩
section
variable {B g : Nat} {z0 z1 z2 z3 : Zn} {w : World}
theorem setR0 (h : Z4 B g z0 z1 z2 z3 w) (a : Option Addr) (c n : Nat) (rs : List Rc.RR) (hn : rs.length = n) (hr : SlT w 43 5 (.slice a n c) n (encR rs)) : Z4 B g ⟨z0.nm, a, c, rs, z0.sa, z0.sc, z0.sv⟩ z1 z2 z3 (w.setCell ⟨g, 1, none⟩ (.slice a n c)) := by
  subst hn
  exact ⟨heap_setCell_same w g 1 _ _ _ h.row, h.le, ⟨hr.setCell h.row (by decide), h.a0.sv.setCell h.row (by decide)⟩, h.a1.setCell h.row, h.a2.setCell h.row, h.a3.setCell h.row⟩
theorem setR1 (h : Z4 B g z0 z1 z2 z3 w) (a : Option Addr) (c n : Nat) (rs : List Rc.RR) (hn : rs.length = n) (hr : SlT w 43 5 (.slice a n c) n (encR rs)) : Z4 B g z0 ⟨z1.nm, a, c, rs, z1.sa, z1.sc, z1.sv⟩ z2 z3 (w.setCell ⟨g, 4, none⟩ (.slice a n c)) := by
  subst hn
  exact ⟨heap_setCell_same w g 4 _ _ _ h.row, h.le, h.a0.setCell h.row, ⟨hr.setCell h.row (by decide), h.a1.sv.setCell h.row (by decide)⟩, h.a2.setCell h.row, h.a3.setCell h.row⟩
theorem setS1 (h : Z4 B g z0 z1 z2 z3 w) (a : Option Addr) (c n : Nat) (sv : List Sv) (hn : sv.length = n) (hr : SlT w 55 2 (.slice a n c) n (encV sv)) : Z4 B g z0 ⟨z1.nm, z1.ra, z1.rc, z1.rs, a, c, sv⟩ z2 z3 (w.setCell ⟨g, 5, none⟩ (.slice a n c)) := by
  subst hn
  exact ⟨heap_setCell_same w g 5 _ _ _ h.row, h.le, h.a0.setCell h.row, ⟨h.a1.rs.setCell h.row (by decide), hr.setCell h.row (by decide)⟩, h.a2.setCell h.row, h.a3.setCell h.row⟩
theorem setS2 (h : Z4 B g z0 z1 z2 z3 w) (a : Option Addr) (c n : Nat) (sv : List Sv) (hn : sv.length = n) (hr : SlT w 55 2 (.slice a n c) n (encV sv)) : Z4 B g z0 z1 ⟨z2.nm, z2.ra, z2.rc, z2.rs, a, c, sv⟩ z3 (w.setCell ⟨g, 8, none⟩ (.slice a n c)) := by
  subst hn
  exact ⟨heap_setCell_same w g 8 _ _ _ h.row, h.le, h.a0.setCell h.row, h.a1.setCell h.row, ⟨h.a2.rs.setCell h.row (by decide), hr.setCell h.row (by decide)⟩, h.a3.setCell h.row⟩
theorem setN1 (h : Z4 B g z0 z1 z2 z3 w) (n : List UInt8) : Z4 B g z0 ⟨n, z1.ra, z1.rc, z1.rs, z1.sa, z1.sc, z1.sv⟩ z2 z3 (w.setCell ⟨g, 3, none⟩ (.string (mk n))) :=
  ⟨heap_setCell_same w g 3 _ _ _ h.row, h.le, h.a0.setCell h.row, ⟨h.a1.rs.setCell h.row (by decide), h.a1.sv.setCell h.row (by decide)⟩, h.a2.setCell h.row, h.a3.setCell h.row⟩
theorem zns_tail (h : Z4 B g z0 z1 z2 z3 w) : Zns w (.slice (some ⟨g, 3, none⟩) 3 3) [z1, z2, z3] := by
  refine ⟨(slt_of_row (n := 3) (sz := 3) (cs := [z0, z1, z2, z3].flatMap znC) h.row 3 ([z1, z2, z3].flatMap znC) (fun j hj => ?_) rfl (by decide)).1, fun z hz => ?_⟩
  · rw [Nat.add_comm]; rfl
  · simp only [List.mem_cons, List.not_mem_nil, or_false] at hz
    rcases hz with rfl | rfl | rfl
    · exact h.a1.lies
    · exact h.a2.lies
    · exact h.a3.lies
theorem zns_five (h : Z4 B g z0 z1 z2 z3 w) {a : Option Addr} {c : Nat} (hs : SlC w 3 (.slice a (4 + 1) c) (4 + 1) ([z0, z1, z2, z3].flatMap znC ++ znC z1)) : Zns w (.slice a (4 + 1) c) [z0, z1, z2, z3, z1] := by
  refine ⟨hs, fun z hz => ?_⟩
  simp only [List.mem_cons, List.not_mem_nil, or_false] at hz
  rcases hz with rfl | rfl | rfl | rfl | rfl
  · exact h.a0.lies
  · exact h.a1.lies
  · exact h.a2.lies
  · exact h.a3.lies
  · exact h.a1.lies
end
set_option maxHeartbeats 64000000 in
theorem walk (k n : Int) (w : World) (hk : Fits k) (hn : Fits n) : Calls Tryz.prog 4 #[.int .i64 k, .int .i64 n] w fun e w' => e = .returned (.bool true) ∧ Below w.heap.size w w' := by
  have mixed : Tryz.prog.follows .mixedOrders = true := by kernel_rfl
  have hrd := fun W => Round_any k 12 W (by decide) (by decide)
  have haw := fun W => awake_any W
  have hzo := zones_any 0 w
  have ha : 0 ≤ k % 12 ∧ k % 12 < 12 := ⟨Int.emod_nonneg _ (by decide), Int.emod_lt_of_pos _ (by decide)⟩
  obtain ⟨i, hi⟩ : ∃ i : Nat, k % 12 = i := ⟨(k % 12).toNat, by omega⟩
  rw [hi] at ha hrd
  clear hi
  have HRD := Go.Lib.hid hrd
  have HAW := Go.Lib.hid haw
  have HZO := Go.Lib.hid hzo
  clear hrd haw hzo
  go_enter Tryz.func4, Tryz.ntmps4
  go_wp2_with fail
  refine HZO.out.mono ?_; rintro e W1 ⟨g, z0, z1, z2, z3, rfl, hp, hz4, hr0, hr1, hs2, hb1⟩
  have hq2 := hs2 rfl
  clear hs2
  obtain ⟨nm0, ra0, rc0, rs0, sa0, sc0, sv0⟩ := z0
  obtain ⟨nm1, ra1, rc1, rs1, sa1, sc1, sv1⟩ := z1
  obtain ⟨nm2, ra2, rc2, rs2, sa2, sc2, sv2⟩ := z2
  have hpp := hp
  have hze : zonesZ (0 % 4 : Int).toNat = [za0, za1, za2, za3] := rfl
  rw [hze] at hpp
  simp only [Zn.p, List.cons.injEq, and_true] at hpp
  obtain ⟨p0, p1, p2, p3⟩ := hpp
  simp only at hr0 hr1 hq2
  obtain rfl : nm0 = [0] := congrArg Zp.nm p0
  obtain rfl : nm1 = [1, 97, 0] := congrArg Zp.nm p1
  obtain rfl : nm2 = [1, 98, 0] := congrArg Zp.nm p2
  have r0 : rs0 = za0.rs := congrArg Zp.rs p0
  have r1 : rs1 = za1.rs := congrArg Zp.rs p1
  have r2 : rs2 = za2.rs := congrArg Zp.rs p2
  have s0' : sv0 = za0.sv := congrArg Zp.sv p0
  have s1 : sv1 = za1.sv := congrArg Zp.sv p1
  have s2 : sv2 = za2.sv := congrArg Zp.sv p2
  have lr0 : rs0.length = 2 := by rw [r0]; rfl
  have lr1 : rs1.length = 6 := by rw [r1]; rfl
  have ls2 : sv2.length = 1 := by rw [s2]; rfl
  have hgl := (Array.getElem?_eq_some_iff.1 hz4.row).1
  rw [lr0] at hr0
  rw [lr1] at hr1
  rw [ls2] at hq2
  subst hr0
  subst hr1
  subst hq2
  clear hp hze p0 p1 p2
  have P0 : (⟨[0], ra0, 2, rs0, sa0, sc0, sv0⟩ : Zn).p = za0 := by simp only [Zn.p, r0, s0']; rfl
  have P1 : (⟨[1, 97, 0], ra1, 6, rs1, sa1, sc1, sv1⟩ : Zn).p = za1 := by simp only [Zn.p, r1, s1]; rfl
  have P2 : (⟨[1, 98, 0], ra2, rc2, rs2, sa2, 1, sv2⟩ : Zn).p = za2 := by simp only [Zn.p, r2, s2]; rfl
  have P3 : z3.p = za3 := p3
  have hlw := hb1.size
  clear p3
  have HZ4 := Go.Lib.hid hz4
  have HB1 := Go.Lib.hid hb1
  have HR0 := Go.Lib.hid r0
  have HR1 := Go.Lib.hid r1
  have HR2 := Go.Lib.hid r2
  have HS0 := Go.Lib.hid s0'
  have HS1 := Go.Lib.hid s1
  have HS2 := Go.Lib.hid s2
  have HL0 := Go.Lib.hid lr0
  have HL1 := Go.Lib.hid lr1
  have HL2 := Go.Lib.hid ls2
  have HP0 := Go.Lib.hid P0
  have HP1 := Go.Lib.hid P1
  have HP2 := Go.Lib.hid P2
  have HP3 := Go.Lib.hid P3
  clear hz4 hb1 r0 r1 r2 s0' s1 s2 lr0 lr1 ls2 P0 P1 P2 P3
  obtain rfl | rfl | rfl | rfl | rfl | rfl | rfl | rfl | rfl | rfl | rfl | rfl : i = 0 ∨ i = 1 ∨ i = 2 ∨ i = 3 ∨ i = 4 ∨ i = 5 ∨ i = 6 ∨ i = 7 ∨ i = 8 ∨ i = 9 ∨ i = 10 ∨ i = 11 := by omega
  · go_wp2_with fail
    refine (HRD.out _).mono ?_; rintro e _ ⟨rfl, rfl⟩
    have hnew := good_any [⟨[0], ra0, 2, rs0, sa0, sc0, sv0⟩, ⟨[1, 97, 0], ra1, 6, rs1, sa1, sc1, sv1⟩, ⟨[1, 98, 0], ra2, rc2, rs2, sa2, 1, sv2⟩, z3] (some ⟨g, 0, none⟩) 4 W1 (zonesZ 0) HZ4.out.zns (by simp only [List.map_cons, List.map_nil, HP0.out, HP1.out, HP2.out, HP3.out]; rfl) (show 4 ≤ 1000 by decide) (zonesZ_ok 0 (by decide)) (by rw [new_ok 0 (by decide)]; rfl)
    have HNEW := Go.Lib.hid hnew
    clear hnew
    go_wp2_with fail
    refine HNEW.out.mono ?_; rintro e W8 ⟨tb, rfl, hx8⟩
    have hb8 := (HB1.out).trans (hx8.mono (HB1.out).size)
    have HB8 := Go.Lib.hid hb8
    clear hb8
    clear hx8
    go_wp2_with fail
    refine (HAW.out _).mono ?_; rintro e W9 ⟨rfl, hx9⟩
    have hb9 := HB8.out.trans (hx9.mono HB8.out.size)
    have HB9 := Go.Lib.hid hb9
    clear hb9
    clear hx9
    go_wp2_with fail
    go_ret
    exact ⟨rfl, HB9.out⟩
  · go_wp2_with fail
    refine (HRD.out _).mono ?_; rintro e _ ⟨rfl, rfl⟩
    have hz1 : Zns W1 (.slice (some ⟨g, 3, none⟩) 3 3) [⟨[1, 97, 0], ra1, 6, rs1, sa1, sc1, sv1⟩, ⟨[1, 98, 0], ra2, rc2, rs2, sa2, 1, sv2⟩, z3] := zns_tail HZ4.out
    have hnew := bad_any [⟨[1, 97, 0], ra1, 6, rs1, sa1, sc1, sv1⟩, ⟨[1, 98, 0], ra2, rc2, rs2, sa2, 1, sv2⟩, z3] (some ⟨g, 3, none⟩) 3 W1 fo1 hz1 (by simp only [List.map_cons, List.map_nil, HP1.out, HP2.out, HP3.out]; rfl) (show 3 ≤ 1000 by decide) fk1 fn1
    clear hz1
    have HNEW := Go.Lib.hid hnew
    clear hnew
    go_wp2_with fail
    refine HNEW.out.mono ?_; rintro e W8 ⟨rfl, hx8⟩
    have hb8 := (HB1.out).trans (hx8.mono (HB1.out).size)
    have HB8 := Go.Lib.hid hb8
    clear hb8
    clear hx8
    go_wp2_with fail
    refine (HAW.out _).mono ?_; rintro e W9 ⟨rfl, hx9⟩
    have hb9 := HB8.out.trans (hx9.mono HB8.out.size)
    have HB9 := Go.Lib.hid hb9
    clear hb9
    clear hx9
    go_wp2_with fail
    go_ret
    exact ⟨rfl, HB9.out⟩
  · have k3 : W1.cell? ⟨g, 3, none⟩ = some (.string (mk [1, 97, 0])) := row_cell HZ4.out.row 3 _ rfl
    have k4 : W1.cell? ⟨g, 4, none⟩ = some (.slice ra1 rs1.length 6) := row_cell HZ4.out.row 4 _ rfl
    have k5 : W1.cell? ⟨g, 5, none⟩ = some (.slice sa1 sv1.length sc1) := row_cell HZ4.out.row 5 _ rfl
    have hal : Below W1.heap.size W1 (W1.alloc (.cells #[.string (mk [1, 97, 0]), .slice ra1 rs1.length 6, .slice sa1 sv1.length sc1] 50)) := (Below.refl _ W1).alloc (Nat.le_refl _) _
    have hnc := new_cells W1 [.string (mk [1, 97, 0]), .slice ra1 rs1.length 6, .slice sa1 sv1.length sc1] 50
    have hzA := HZ4.out.below hal
    have hbA := HB1.out.trans (hal.mono HB1.out.size)
    clear hal
    have HZA := Go.Lib.hid hzA
    have HBA := Go.Lib.hid hbA
    have HNC := Go.Lib.hid hnc
    clear hzA hbA hnc
    go_wp2_with fail
    refine (HRD.out _).mono ?_; rintro e _ ⟨rfl, rfl⟩
    go_wp2_with (at_builtin; go_loud (refine wpList_appF eiZn (.tmp 20) (.tmp 24) rfl rfl (m := 1) rfl rfl HZA.out.zns.1 (by decide) (by decide) (news := [.string (mk [1, 97, 0]), .slice ra1 rs1.length 6, .slice sa1 sv1.length sc1]) rfl HNC.out (by decide) (by decide) ?_; intro v7 W7 own7 hx7; obtain ⟨a7, q7, rfl, _, _⟩ := (SlC.of_owns own7).slice; have O7 := Go.Lib.hid own7; have HX7 := Go.Lib.hid hx7; clear own7 hx7))
    have hb7 := HBA.out.trans (HX7.out.mono HBA.out.size)
    have hz7 := HZA.out.below HX7.out
    have hzn : Zns W7 (.slice a7 (4 + 1) q7) [⟨[0], ra0, 2, rs0, sa0, sc0, sv0⟩, ⟨[1, 97, 0], ra1, 6, rs1, sa1, sc1, sv1⟩, ⟨[1, 98, 0], ra2, rc2, rs2, sa2, 1, sv2⟩, z3, ⟨[1, 97, 0], ra1, 6, rs1, sa1, sc1, sv1⟩] := zns_five hz7 (SlC.of_owns O7.out)
    have hnew := bad_any [⟨[0], ra0, 2, rs0, sa0, sc0, sv0⟩, ⟨[1, 97, 0], ra1, 6, rs1, sa1, sc1, sv1⟩, ⟨[1, 98, 0], ra2, rc2, rs2, sa2, 1, sv2⟩, z3, ⟨[1, 97, 0], ra1, 6, rs1, sa1, sc1, sv1⟩] a7 q7 W7 fo2 hzn (by simp only [List.map_cons, List.map_nil, HP0.out, HP1.out, HP2.out, HP3.out]; rfl) (show 5 ≤ 1000 by decide) fk2 fn2
    clear hzn hz7
    have HB7 := Go.Lib.hid hb7
    clear hb7
    have HNEW := Go.Lib.hid hnew
    clear hnew
    go_wp2_with fail
    refine HNEW.out.mono ?_; rintro e W8 ⟨rfl, hx8⟩
    have hb8 := (HB7.out).trans (hx8.mono (HB7.out).size)
    have HB8 := Go.Lib.hid hb8
    clear hb8
    clear hx8
    go_wp2_with fail
    refine (HAW.out _).mono ?_; rintro e W9 ⟨rfl, hx9⟩
    have hb9 := HB8.out.trans (hx9.mono HB8.out.size)
    have HB9 := Go.Lib.hid hb9
    clear hb9
    clear hx9
    go_wp2_with fail
    go_ret
    exact ⟨rfl, HB9.out⟩
  · have k5 : W1.cell? ⟨g, 5, none⟩ = some (.slice sa1 sv1.length sc1) := row_cell HZ4.out.row 5 _ rfl
    have f5 := frozen_of_row W1 g 5 _ _ HZ4.out.row
    have hz8 := setS1 HZ4.out none 0 0 [] rfl (SlT.nil _ _ _)
    have hb7 := HB1.out.setCell (p := ⟨g, 5, none⟩) HZ4.out.le (.slice none 0 0)
    have hnew := bad_any [⟨[0], ra0, 2, rs0, sa0, sc0, sv0⟩, ⟨[1, 97, 0], ra1, 6, rs1, none, 0, []⟩, ⟨[1, 98, 0], ra2, rc2, rs2, sa2, 1, sv2⟩, z3] (some ⟨g, 0, none⟩) 4 _ fo3 hz8.zns (by simp only [List.map_cons, List.map_nil, HP0.out, HP2.out, HP3.out]; simp only [Zn.p, HR1.out]; rfl) (show 4 ≤ 1000 by decide) fk3 fn3
    clear hz8
    have HB7 := Go.Lib.hid hb7
    have HNW := Go.Lib.hid hnew
    clear hb7 hnew
    go_wp2_with fail
    refine (HRD.out _).mono ?_; rintro e _ ⟨rfl, rfl⟩
    have hnew := HNW.out
    clear HNW
    have HNEW := Go.Lib.hid hnew
    clear hnew
    go_wp2_with fail
    refine HNEW.out.mono ?_; rintro e W8 ⟨rfl, hx8⟩
    have hb8 := (HB7.out).trans (hx8.mono (HB7.out).size)
    have HB8 := Go.Lib.hid hb8
    clear hb8
    clear hx8
    go_wp2_with fail
    refine (HAW.out _).mono ?_; rintro e W9 ⟨rfl, hx9⟩
    have hb9 := HB8.out.trans (hx9.mono HB8.out.size)
    have HB9 := Go.Lib.hid hb9
    clear hb9
    clear hx9
    go_wp2_with fail
    go_ret
    exact ⟨rfl, HB9.out⟩
  · have hz4 := HZ4.out
    clear HZ4
    have HZ4 := Go.Lib.hid hz4
    clear hz4
    have hne : Nonempty (Subtype (KeepB g W1)) := ⟨⟨W1, rfl⟩⟩
    have D7 : ∀ y : Subtype (KeepB g W1), y.1.cell? ⟨g, 1, none⟩ = some (.slice ra0 2 2) := fun y => by have h := row_cell (y.2.trans HZ4.out.row) 1 (.slice ra0 rs0.length 2) rfl; rw [HL0.out] at h; exact h
    obtain ⟨⟨n13, t13, c13, l13, d13⟩, hr13⟩ : ∃ r, adrP [1, 119, 1, 97, 0] 5 = r := ⟨_, rfl⟩
    have hc13 := fun W => adr_any [1, 119, 1, 97, 0] 5 W (by decide)
    rw [hr13] at hc13
    simp only [rrV] at hc13
    have hon := one_rr ⟨n13, t13, c13, l13, d13⟩
    have hsn := encR_snoc rs0 ⟨n13, t13, c13, l13, d13⟩
    have HC13 := Go.Lib.hid hc13
    have HR13 := Go.Lib.hid hr13
    have HON := Go.Lib.hid hon
    have HSN := Go.Lib.hid hsn
    clear hc13 hr13 hon hsn
    go_wp2_with fail
    refine (HRD.out _).mono ?_; rintro e _ ⟨rfl, rfl⟩
    go_wp2_with fail
    refine Go.Mix.wp_region_mixT (Es := [5, 6, 7]) 10 (KeepB g W1) mixed (by kernel_rfl) rfl ?_
    iterate 5 (refine Go.Mix.mixT_step rfl (fun K hK => ?_); have HKK := Go.Lib.hid hK; clear hK; go_simp; refine HKK.out _ _ ?_; clear HKK K)
    refine Go.Mix.mixT_eff rfl (fun K hK => ?_)
    have HKK := Go.Lib.hid hK
    clear hK
    go_simp
    refine (HC13.out W1.drew).mono ?_; rintro e W5 ⟨rfl, hx5⟩
    have hb5 : Below W1.heap.size W1 W5 := (Below.refl _ W1).drew.trans hx5
    have k5 : KeepB g W1 W5 := hb5.block _ hgl
    clear hx5
    have HB5 := Go.Lib.hid hb5
    have HK5 := Go.Lib.hid k5
    clear hb5 k5
    go_simp
    refine HKK.out _ _ HK5.out ?_
    clear HKK K
    refine Go.Mix.mixT_eff rfl (fun K hK => ?_)
    have HKK := Go.Lib.hid hK
    clear hK
    go_simp
    have hal : Below W5.heap.size W5 (W5.alloc (.cells #[.string (mk n13), .int .i64 t13, .int .i64 c13, .int .i64 l13, .string (mk d13)] 43)) := (Below.refl _ W5).alloc (Nat.le_refl _) _
    have hb6 := HB5.out.trans (hal.mono HB5.out.size)
    have k6 : KeepB g W1 (W5.alloc (.cells #[.string (mk n13), .int .i64 t13, .int .i64 c13, .int .i64 l13, .string (mk d13)] 43)) := hb6.block _ hgl
    have hnc := new_cells W5 [.string (mk n13), .int .i64 t13, .int .i64 c13, .int .i64 l13, .string (mk d13)] 43
    have HB6 := Go.Lib.hid hb6
    have HK6 := Go.Lib.hid k6
    have HNC := Go.Lib.hid hnc
    clear hb6 k6 hnc
    clear hal
    refine HKK.out _ _ HK6.out ?_
    clear HKK K
    refine mixT_appF eiRR (.tmp 37) (.tmp 39) rfl rfl rfl (m := 1) rfl rfl (by have h := (HZ4.out.below HB6.out).a0.rs.1; simp only at h; rw [HL0.out] at h; exact h) (by decide) (by decide) (news := [.string (mk n13), .int .i64 t13, .int .i64 c13, .int .i64 l13, .string (mk d13)]) rfl HNC.out (by decide) (by decide) ?_
    intro v7 W7 own7 hx7
    obtain ⟨a7, q7, rfl, _, _⟩ := (SlC.of_owns own7).slice
    have hb7 := HB6.out.trans (hx7.mono HB6.out.size)
    have k7 : KeepB g W1 W7 := hb7.block _ hgl
    refine ⟨k7, ?_⟩
    have hz7 := HZ4.out.below hb7
    have c7' : W7.cell? ⟨g, 1, none⟩ = some (.slice ra0 2 2) := by have h := row_cell hz7.row 1 (.slice ra0 rs0.length 2) rfl; rw [HL0.out] at h; exact h
    have f7 := frozen_of_row W7 g 1 _ _ hz7.row
    rw [← HSN.out] at own7
    have hln : (rs0 ++ [(⟨n13, t13, c13, l13, d13⟩ : Rc.RR)]).length = 2 + 1 := by rw [List.length_append, HL0.out]; rfl
    have hz8 := setR0 hz7 a7 q7 (2 + 1) (rs0 ++ [⟨n13, t13, c13, l13, d13⟩]) hln (SlT.of_owns own7)
    have hb8' := (HB1.out.trans (hb7.mono HB1.out.size)).setCell (p := ⟨g, 1, none⟩) HZ4.out.le (.slice a7 (2 + 1) q7)
    clear k7 own7 hx7 hz7 hln
    have HB7 := Go.Lib.hid hb7
    have HZ8 := Go.Lib.hid hz8
    have HB8' := Go.Lib.hid hb8'
    clear hb7 hz8 hb8'
    iterate 2 (refine Go.Mix.mixT_step rfl (fun K hK => ?_); have HKK := Go.Lib.hid hK; clear hK; go_simp; refine HKK.out _ _ ?_; clear HKK K)
    refine Go.Mix.mixT_last rfl (fun K hK => ?_)
    have HKK := Go.Lib.hid hK
    clear hK
    go_simp
    refine HKK.out _ _ ?_
    clear HKK K D7 hne c7' f7
    have hnew := bad_any [⟨[0], a7, q7, rs0 ++ [⟨n13, t13, c13, l13, d13⟩], sa0, sc0, sv0⟩, ⟨[1, 97, 0], ra1, 6, rs1, sa1, sc1, sv1⟩, ⟨[1, 98, 0], ra2, rc2, rs2, sa2, 1, sv2⟩, z3] (some ⟨g, 0, none⟩) 4 _ fo4 HZ8.out.zns (by simp only [List.map_cons, List.map_nil, HP1.out, HP2.out, HP3.out]; simp only [Zn.p, HR0.out, HS0.out, ← HR13.out]; rfl) (show 4 ≤ 1000 by decide) fk4 fn4
    skip
    have HNEW := Go.Lib.hid hnew
    clear hnew
    go_wp2_with fail
    refine HNEW.out.mono ?_; rintro e W8 ⟨rfl, hx8⟩
    have hb8 := (HB8'.out).trans (hx8.mono (HB8'.out).size)
    have HB8 := Go.Lib.hid hb8
    clear hb8
    clear hx8
    go_wp2_with fail
    refine (HAW.out _).mono ?_; rintro e W9 ⟨rfl, hx9⟩
    have hb9 := HB8.out.trans (hx9.mono HB8.out.size)
    have HB9 := Go.Lib.hid hb9
    clear hb9
    clear hx9
    go_wp2_with fail
    go_ret
    exact ⟨rfl, HB9.out⟩
  · have hz4 := HZ4.out
    clear HZ4
    have HZ4 := Go.Lib.hid hz4
    clear hz4
    have hne : Nonempty (Subtype (KeepB g W1)) := ⟨⟨W1, rfl⟩⟩
    have D7 : ∀ y : Subtype (KeepB g W1), y.1.cell? ⟨g, 4, none⟩ = some (.slice ra1 6 6) := fun y => by have h := row_cell (y.2.trans HZ4.out.row) 4 (.slice ra1 rs1.length 6) rfl; rw [HL1.out] at h; exact h
    obtain ⟨⟨n13, t13, c13, l13, d13⟩, hr13⟩ : ∃ r, adrP [1, 120, 1, 97, 0] 5 = r := ⟨_, rfl⟩
    have hc13 := fun W => adr_any [1, 120, 1, 97, 0] 5 W (by decide)
    rw [hr13] at hc13
    simp only [rrV] at hc13
    have hon := one_rr ⟨n13, t13, c13, l13, d13⟩
    have hsn := encR_snoc rs1 ⟨n13, t13, c13, l13, d13⟩
    have HC13 := Go.Lib.hid hc13
    have HR13 := Go.Lib.hid hr13
    have HON := Go.Lib.hid hon
    have HSN := Go.Lib.hid hsn
    clear hc13 hr13 hon hsn
    go_wp2_with fail
    refine (HRD.out _).mono ?_; rintro e _ ⟨rfl, rfl⟩
    go_wp2_with fail
    refine Go.Mix.wp_region_mixT (Es := [5, 6, 7]) 10 (KeepB g W1) mixed (by kernel_rfl) rfl ?_
    iterate 5 (refine Go.Mix.mixT_step rfl (fun K hK => ?_); have HKK := Go.Lib.hid hK; clear hK; go_simp; refine HKK.out _ _ ?_; clear HKK K)
    refine Go.Mix.mixT_eff rfl (fun K hK => ?_)
    have HKK := Go.Lib.hid hK
    clear hK
    go_simp
    refine (HC13.out W1.drew).mono ?_; rintro e W5 ⟨rfl, hx5⟩
    have hb5 : Below W1.heap.size W1 W5 := (Below.refl _ W1).drew.trans hx5
    have k5 : KeepB g W1 W5 := hb5.block _ hgl
    clear hx5
    have HB5 := Go.Lib.hid hb5
    have HK5 := Go.Lib.hid k5
    clear hb5 k5
    go_simp
    refine HKK.out _ _ HK5.out ?_
    clear HKK K
    refine Go.Mix.mixT_eff rfl (fun K hK => ?_)
    have HKK := Go.Lib.hid hK
    clear hK
    go_simp
    have hal : Below W5.heap.size W5 (W5.alloc (.cells #[.string (mk n13), .int .i64 t13, .int .i64 c13, .int .i64 l13, .string (mk d13)] 43)) := (Below.refl _ W5).alloc (Nat.le_refl _) _
    have hb6 := HB5.out.trans (hal.mono HB5.out.size)
    have k6 : KeepB g W1 (W5.alloc (.cells #[.string (mk n13), .int .i64 t13, .int .i64 c13, .int .i64 l13, .string (mk d13)] 43)) := hb6.block _ hgl
    have hnc := new_cells W5 [.string (mk n13), .int .i64 t13, .int .i64 c13, .int .i64 l13, .string (mk d13)] 43
    have HB6 := Go.Lib.hid hb6
    have HK6 := Go.Lib.hid k6
    have HNC := Go.Lib.hid hnc
    clear hb6 k6 hnc
    clear hal
    refine HKK.out _ _ HK6.out ?_
    clear HKK K
    refine mixT_appF eiRR (.tmp 49) (.tmp 51) rfl rfl rfl (m := 1) rfl rfl (by have h := (HZ4.out.below HB6.out).a1.rs.1; simp only at h; rw [HL1.out] at h; exact h) (by decide) (by decide) (news := [.string (mk n13), .int .i64 t13, .int .i64 c13, .int .i64 l13, .string (mk d13)]) rfl HNC.out (by decide) (by decide) ?_
    intro v7 W7 own7 hx7
    obtain ⟨a7, q7, rfl, _, _⟩ := (SlC.of_owns own7).slice
    have hb7 := HB6.out.trans (hx7.mono HB6.out.size)
    have k7 : KeepB g W1 W7 := hb7.block _ hgl
    refine ⟨k7, ?_⟩
    have hz7 := HZ4.out.below hb7
    have c7' : W7.cell? ⟨g, 4, none⟩ = some (.slice ra1 6 6) := by have h := row_cell hz7.row 4 (.slice ra1 rs1.length 6) rfl; rw [HL1.out] at h; exact h
    have f7 := frozen_of_row W7 g 4 _ _ hz7.row
    rw [← HSN.out] at own7
    have hln : (rs1 ++ [(⟨n13, t13, c13, l13, d13⟩ : Rc.RR)]).length = 6 + 1 := by rw [List.length_append, HL1.out]; rfl
    have hz8 := setR1 hz7 a7 q7 (6 + 1) (rs1 ++ [⟨n13, t13, c13, l13, d13⟩]) hln (SlT.of_owns own7)
    have hb8' := (HB1.out.trans (hb7.mono HB1.out.size)).setCell (p := ⟨g, 4, none⟩) HZ4.out.le (.slice a7 (6 + 1) q7)
    clear k7 own7 hx7 hz7 hln
    have HB7 := Go.Lib.hid hb7
    have HZ8 := Go.Lib.hid hz8
    have HB8' := Go.Lib.hid hb8'
    clear hb7 hz8 hb8'
    iterate 2 (refine Go.Mix.mixT_step rfl (fun K hK => ?_); have HKK := Go.Lib.hid hK; clear hK; go_simp; refine HKK.out _ _ ?_; clear HKK K)
    refine Go.Mix.mixT_last rfl (fun K hK => ?_)
    have HKK := Go.Lib.hid hK
    clear hK
    go_simp
    refine HKK.out _ _ ?_
    clear HKK K D7 hne c7' f7
    have hnew := bad_any [⟨[0], ra0, 2, rs0, sa0, sc0, sv0⟩, ⟨[1, 97, 0], a7, q7, rs1 ++ [⟨n13, t13, c13, l13, d13⟩], sa1, sc1, sv1⟩, ⟨[1, 98, 0], ra2, rc2, rs2, sa2, 1, sv2⟩, z3] (some ⟨g, 0, none⟩) 4 _ fo5 HZ8.out.zns (by simp only [List.map_cons, List.map_nil, HP0.out, HP2.out, HP3.out]; simp only [Zn.p, HR1.out, HS1.out, ← HR13.out]; rfl) (show 4 ≤ 1000 by decide) fk5 fn5
    skip
    have HNEW := Go.Lib.hid hnew
    clear hnew
    go_wp2_with fail
    refine HNEW.out.mono ?_; rintro e W8 ⟨rfl, hx8⟩
    have hb8 := (HB8'.out).trans (hx8.mono (HB8'.out).size)
    have HB8 := Go.Lib.hid hb8
    clear hb8
    clear hx8
    go_wp2_with fail
    refine (HAW.out _).mono ?_; rintro e W9 ⟨rfl, hx9⟩
    have hb9 := HB8.out.trans (hx9.mono HB8.out.size)
    have HB9 := Go.Lib.hid hb9
    clear hb9
    clear hx9
    go_wp2_with fail
    go_ret
    exact ⟨rfl, HB9.out⟩
  · have hz4 := HZ4.out
    clear HZ4
    have HZ4 := Go.Lib.hid hz4
    clear hz4
    have hne : Nonempty (Subtype (KeepB g W1)) := ⟨⟨W1, rfl⟩⟩
    have D7 : ∀ y : Subtype (KeepB g W1), y.1.cell? ⟨g, 4, none⟩ = some (.slice ra1 6 6) := fun y => by have h := row_cell (y.2.trans HZ4.out.row) 4 (.slice ra1 rs1.length 6) rfl; rw [HL1.out] at h; exact h
    obtain ⟨⟨n13, t13, c13, l13, d13⟩, hr13⟩ : ∃ r, aliR [1, 97, 0] [1, 98, 0] = r := ⟨_, rfl⟩
    have hc13 := fun W => ali_any [1, 97, 0] [1, 98, 0] W (by decide) (by decide)
    rw [hr13] at hc13
    simp only [rrV] at hc13
    have hon := one_rr ⟨n13, t13, c13, l13, d13⟩
    have hsn := encR_snoc rs1 ⟨n13, t13, c13, l13, d13⟩
    have HC13 := Go.Lib.hid hc13
    have HR13 := Go.Lib.hid hr13
    have HON := Go.Lib.hid hon
    have HSN := Go.Lib.hid hsn
    clear hc13 hr13 hon hsn
    go_wp2_with fail
    refine (HRD.out _).mono ?_; rintro e _ ⟨rfl, rfl⟩
    go_wp2_with fail
    refine Go.Mix.wp_region_mixT (Es := [5, 6, 7]) 10 (KeepB g W1) mixed (by kernel_rfl) rfl ?_
    iterate 5 (refine Go.Mix.mixT_step rfl (fun K hK => ?_); have HKK := Go.Lib.hid hK; clear hK; go_simp; refine HKK.out _ _ ?_; clear HKK K)
    refine Go.Mix.mixT_eff rfl (fun K hK => ?_)
    have HKK := Go.Lib.hid hK
    clear hK
    go_simp
    refine (HC13.out W1.drew).mono ?_; rintro e W5 ⟨rfl, hx5⟩
    have hb5 : Below W1.heap.size W1 W5 := (Below.refl _ W1).drew.trans hx5
    have k5 : KeepB g W1 W5 := hb5.block _ hgl
    clear hx5
    have HB5 := Go.Lib.hid hb5
    have HK5 := Go.Lib.hid k5
    clear hb5 k5
    go_simp
    refine HKK.out _ _ HK5.out ?_
    clear HKK K
    refine Go.Mix.mixT_eff rfl (fun K hK => ?_)
    have HKK := Go.Lib.hid hK
    clear hK
    go_simp
    have hal : Below W5.heap.size W5 (W5.alloc (.cells #[.string (mk n13), .int .i64 t13, .int .i64 c13, .int .i64 l13, .string (mk d13)] 43)) := (Below.refl _ W5).alloc (Nat.le_refl _) _
    have hb6 := HB5.out.trans (hal.mono HB5.out.size)
    have k6 : KeepB g W1 (W5.alloc (.cells #[.string (mk n13), .int .i64 t13, .int .i64 c13, .int .i64 l13, .string (mk d13)] 43)) := hb6.block _ hgl
    have hnc := new_cells W5 [.string (mk n13), .int .i64 t13, .int .i64 c13, .int .i64 l13, .string (mk d13)] 43
    have HB6 := Go.Lib.hid hb6
    have HK6 := Go.Lib.hid k6
    have HNC := Go.Lib.hid hnc
    clear hb6 k6 hnc
    clear hal
    refine HKK.out _ _ HK6.out ?_
    clear HKK K
    refine mixT_appF eiRR (.tmp 61) (.tmp 63) rfl rfl rfl (m := 1) rfl rfl (by have h := (HZ4.out.below HB6.out).a1.rs.1; simp only at h; rw [HL1.out] at h; exact h) (by decide) (by decide) (news := [.string (mk n13), .int .i64 t13, .int .i64 c13, .int .i64 l13, .string (mk d13)]) rfl HNC.out (by decide) (by decide) ?_
    intro v7 W7 own7 hx7
    obtain ⟨a7, q7, rfl, _, _⟩ := (SlC.of_owns own7).slice
    have hb7 := HB6.out.trans (hx7.mono HB6.out.size)
    have k7 : KeepB g W1 W7 := hb7.block _ hgl
    refine ⟨k7, ?_⟩
    have hz7 := HZ4.out.below hb7
    have c7' : W7.cell? ⟨g, 4, none⟩ = some (.slice ra1 6 6) := by have h := row_cell hz7.row 4 (.slice ra1 rs1.length 6) rfl; rw [HL1.out] at h; exact h
    have f7 := frozen_of_row W7 g 4 _ _ hz7.row
    rw [← HSN.out] at own7
    have hln : (rs1 ++ [(⟨n13, t13, c13, l13, d13⟩ : Rc.RR)]).length = 6 + 1 := by rw [List.length_append, HL1.out]; rfl
    have hz8 := setR1 hz7 a7 q7 (6 + 1) (rs1 ++ [⟨n13, t13, c13, l13, d13⟩]) hln (SlT.of_owns own7)
    have hb8' := (HB1.out.trans (hb7.mono HB1.out.size)).setCell (p := ⟨g, 4, none⟩) HZ4.out.le (.slice a7 (6 + 1) q7)
    clear k7 own7 hx7 hz7 hln
    have HB7 := Go.Lib.hid hb7
    have HZ8 := Go.Lib.hid hz8
    have HB8' := Go.Lib.hid hb8'
    clear hb7 hz8 hb8'
    iterate 2 (refine Go.Mix.mixT_step rfl (fun K hK => ?_); have HKK := Go.Lib.hid hK; clear hK; go_simp; refine HKK.out _ _ ?_; clear HKK K)
    refine Go.Mix.mixT_last rfl (fun K hK => ?_)
    have HKK := Go.Lib.hid hK
    clear hK
    go_simp
    refine HKK.out _ _ ?_
    clear HKK K D7 hne c7' f7
    have hnew := bad_any [⟨[0], ra0, 2, rs0, sa0, sc0, sv0⟩, ⟨[1, 97, 0], a7, q7, rs1 ++ [⟨n13, t13, c13, l13, d13⟩], sa1, sc1, sv1⟩, ⟨[1, 98, 0], ra2, rc2, rs2, sa2, 1, sv2⟩, z3] (some ⟨g, 0, none⟩) 4 _ fo6 HZ8.out.zns (by simp only [List.map_cons, List.map_nil, HP0.out, HP2.out, HP3.out]; simp only [Zn.p, HR1.out, HS1.out, ← HR13.out]; rfl) (show 4 ≤ 1000 by decide) fk6 fn6
    skip
    have HNEW := Go.Lib.hid hnew
    clear hnew
    go_wp2_with fail
    refine HNEW.out.mono ?_; rintro e W8 ⟨rfl, hx8⟩
    have hb8 := (HB8'.out).trans (hx8.mono (HB8'.out).size)
    have HB8 := Go.Lib.hid hb8
    clear hb8
    clear hx8
    go_wp2_with fail
    refine (HAW.out _).mono ?_; rintro e W9 ⟨rfl, hx9⟩
    have hb9 := HB8.out.trans (hx9.mono HB8.out.size)
    have HB9 := Go.Lib.hid hb9
    clear hb9
    clear hx9
    go_wp2_with fail
    go_ret
    exact ⟨rfl, HB9.out⟩
  · have hz4 := HZ4.out
    clear HZ4
    have HZ4 := Go.Lib.hid hz4
    clear hz4
    have hne : Nonempty (Subtype (KeepB g W1)) := ⟨⟨W1, rfl⟩⟩
    have D7 : ∀ y : Subtype (KeepB g W1), y.1.cell? ⟨g, 4, none⟩ = some (.slice ra1 6 6) := fun y => by have h := row_cell (y.2.trans HZ4.out.row) 4 (.slice ra1 rs1.length 6) rfl; rw [HL1.out] at h; exact h
    obtain ⟨⟨n13, t13, c13, l13, d13⟩, hr13⟩ : ∃ r, makeNN [1, 97, 0] 2 5 [1, 98, 0] = r := ⟨_, rfl⟩
    have hc13 := fun W => refMakeName_any [1, 97, 0] 2 5 [1, 98, 0] W (by decide) (by decide)
    rw [hr13] at hc13
    simp only [rrV] at hc13
    have hon := one_rr ⟨n13, t13, c13, l13, d13⟩
    have hsn := encR_snoc rs1 ⟨n13, t13, c13, l13, d13⟩
    have HC13 := Go.Lib.hid hc13
    have HR13 := Go.Lib.hid hr13
    have HON := Go.Lib.hid hon
    have HSN := Go.Lib.hid hsn
    clear hc13 hr13 hon hsn
    go_wp2_with fail
    refine (HRD.out _).mono ?_; rintro e _ ⟨rfl, rfl⟩
    go_wp2_with fail
    refine Go.Mix.wp_region_mixT (Es := [5, 6, 7]) 10 (KeepB g W1) mixed (by kernel_rfl) rfl ?_
    iterate 5 (refine Go.Mix.mixT_step rfl (fun K hK => ?_); have HKK := Go.Lib.hid hK; clear hK; go_simp; refine HKK.out _ _ ?_; clear HKK K)
    refine Go.Mix.mixT_eff rfl (fun K hK => ?_)
    have HKK := Go.Lib.hid hK
    clear hK
    go_simp
    refine (HC13.out W1.drew).mono ?_; rintro e W5 ⟨rfl, hx5⟩
    have hb5 : Below W1.heap.size W1 W5 := (Below.refl _ W1).drew.trans hx5
    have k5 : KeepB g W1 W5 := hb5.block _ hgl
    clear hx5
    have HB5 := Go.Lib.hid hb5
    have HK5 := Go.Lib.hid k5
    clear hb5 k5
    go_simp
    refine HKK.out _ _ HK5.out ?_
    clear HKK K
    refine Go.Mix.mixT_eff rfl (fun K hK => ?_)
    have HKK := Go.Lib.hid hK
    clear hK
    go_simp
    have hal : Below W5.heap.size W5 (W5.alloc (.cells #[.string (mk n13), .int .i64 t13, .int .i64 c13, .int .i64 l13, .string (mk d13)] 43)) := (Below.refl _ W5).alloc (Nat.le_refl _) _
    have hb6 := HB5.out.trans (hal.mono HB5.out.size)
    have k6 : KeepB g W1 (W5.alloc (.cells #[.string (mk n13), .int .i64 t13, .int .i64 c13, .int .i64 l13, .string (mk d13)] 43)) := hb6.block _ hgl
    have hnc := new_cells W5 [.string (mk n13), .int .i64 t13, .int .i64 c13, .int .i64 l13, .string (mk d13)] 43
    have HB6 := Go.Lib.hid hb6
    have HK6 := Go.Lib.hid k6
    have HNC := Go.Lib.hid hnc
    clear hb6 k6 hnc
    clear hal
    refine HKK.out _ _ HK6.out ?_
    clear HKK K
    refine mixT_appF eiRR (.tmp 73) (.tmp 75) rfl rfl rfl (m := 1) rfl rfl (by have h := (HZ4.out.below HB6.out).a1.rs.1; simp only at h; rw [HL1.out] at h; exact h) (by decide) (by decide) (news := [.string (mk n13), .int .i64 t13, .int .i64 c13, .int .i64 l13, .string (mk d13)]) rfl HNC.out (by decide) (by decide) ?_
    intro v7 W7 own7 hx7
    obtain ⟨a7, q7, rfl, _, _⟩ := (SlC.of_owns own7).slice
    have hb7 := HB6.out.trans (hx7.mono HB6.out.size)
    have k7 : KeepB g W1 W7 := hb7.block _ hgl
    refine ⟨k7, ?_⟩
    have hz7 := HZ4.out.below hb7
    have c7' : W7.cell? ⟨g, 4, none⟩ = some (.slice ra1 6 6) := by have h := row_cell hz7.row 4 (.slice ra1 rs1.length 6) rfl; rw [HL1.out] at h; exact h
    have f7 := frozen_of_row W7 g 4 _ _ hz7.row
    rw [← HSN.out] at own7
    have hln : (rs1 ++ [(⟨n13, t13, c13, l13, d13⟩ : Rc.RR)]).length = 6 + 1 := by rw [List.length_append, HL1.out]; rfl
    have hz8 := setR1 hz7 a7 q7 (6 + 1) (rs1 ++ [⟨n13, t13, c13, l13, d13⟩]) hln (SlT.of_owns own7)
    have hb8' := (HB1.out.trans (hb7.mono HB1.out.size)).setCell (p := ⟨g, 4, none⟩) HZ4.out.le (.slice a7 (6 + 1) q7)
    clear k7 own7 hx7 hz7 hln
    have HB7 := Go.Lib.hid hb7
    have HZ8 := Go.Lib.hid hz8
    have HB8' := Go.Lib.hid hb8'
    clear hb7 hz8 hb8'
    iterate 2 (refine Go.Mix.mixT_step rfl (fun K hK => ?_); have HKK := Go.Lib.hid hK; clear hK; go_simp; refine HKK.out _ _ ?_; clear HKK K)
    refine Go.Mix.mixT_last rfl (fun K hK => ?_)
    have HKK := Go.Lib.hid hK
    clear hK
    go_simp
    refine HKK.out _ _ ?_
    clear HKK K D7 hne c7' f7
    have hnew := bad_any [⟨[0], ra0, 2, rs0, sa0, sc0, sv0⟩, ⟨[1, 97, 0], a7, q7, rs1 ++ [⟨n13, t13, c13, l13, d13⟩], sa1, sc1, sv1⟩, ⟨[1, 98, 0], ra2, rc2, rs2, sa2, 1, sv2⟩, z3] (some ⟨g, 0, none⟩) 4 _ fo7 HZ8.out.zns (by simp only [List.map_cons, List.map_nil, HP0.out, HP2.out, HP3.out]; simp only [Zn.p, HR1.out, HS1.out, ← HR13.out]; rfl) (show 4 ≤ 1000 by decide) fk7 fn7
    skip
    have HNEW := Go.Lib.hid hnew
    clear hnew
    go_wp2_with fail
    refine HNEW.out.mono ?_; rintro e W8 ⟨rfl, hx8⟩
    have hb8 := (HB8'.out).trans (hx8.mono (HB8'.out).size)
    have HB8 := Go.Lib.hid hb8
    clear hb8
    clear hx8
    go_wp2_with fail
    refine (HAW.out _).mono ?_; rintro e W9 ⟨rfl, hx9⟩
    have hb9 := HB8.out.trans (hx9.mono HB8.out.size)
    have HB9 := Go.Lib.hid hb9
    clear hb9
    clear hx9
    go_wp2_with fail
    go_ret
    exact ⟨rfl, HB9.out⟩
  · have hz4 := HZ4.out
    clear HZ4
    have HZ4 := Go.Lib.hid hz4
    clear hz4
    have hne : Nonempty (Subtype (KeepB g W1)) := ⟨⟨W1, rfl⟩⟩
    have D7 : ∀ y : Subtype (KeepB g W1), y.1.cell? ⟨g, 4, none⟩ = some (.slice ra1 6 6) := fun y => by have h := row_cell (y.2.trans HZ4.out.row) 4 (.slice ra1 rs1.length 6) rfl; rw [HL1.out] at h; exact h
    obtain ⟨⟨n13, t13, c13, l13, d13⟩, hr13⟩ : ∃ r, adrP [1, 119, 1, 98, 0] 5 = r := ⟨_, rfl⟩
    have hc13 := fun W => adr_any [1, 119, 1, 98, 0] 5 W (by decide)
    rw [hr13] at hc13
    simp only [rrV] at hc13
    have hon := one_rr ⟨n13, t13, c13, l13, d13⟩
    have hsn := encR_snoc rs1 ⟨n13, t13, c13, l13, d13⟩
    have HC13 := Go.Lib.hid hc13
    have HR13 := Go.Lib.hid hr13
    have HON := Go.Lib.hid hon
    have HSN := Go.Lib.hid hsn
    clear hc13 hr13 hon hsn
    go_wp2_with fail
    refine (HRD.out _).mono ?_; rintro e _ ⟨rfl, rfl⟩
    go_wp2_with fail
    refine Go.Mix.wp_region_mixT (Es := [5, 6, 7]) 10 (KeepB g W1) mixed (by kernel_rfl) rfl ?_
    iterate 5 (refine Go.Mix.mixT_step rfl (fun K hK => ?_); have HKK := Go.Lib.hid hK; clear hK; go_simp; refine HKK.out _ _ ?_; clear HKK K)
    refine Go.Mix.mixT_eff rfl (fun K hK => ?_)
    have HKK := Go.Lib.hid hK
    clear hK
    go_simp
    refine (HC13.out W1.drew).mono ?_; rintro e W5 ⟨rfl, hx5⟩
    have hb5 : Below W1.heap.size W1 W5 := (Below.refl _ W1).drew.trans hx5
    have k5 : KeepB g W1 W5 := hb5.block _ hgl
    clear hx5
    have HB5 := Go.Lib.hid hb5
    have HK5 := Go.Lib.hid k5
    clear hb5 k5
    go_simp
    refine HKK.out _ _ HK5.out ?_
    clear HKK K
    refine Go.Mix.mixT_eff rfl (fun K hK => ?_)
    have HKK := Go.Lib.hid hK
    clear hK
    go_simp
    have hal : Below W5.heap.size W5 (W5.alloc (.cells #[.string (mk n13), .int .i64 t13, .int .i64 c13, .int .i64 l13, .string (mk d13)] 43)) := (Below.refl _ W5).alloc (Nat.le_refl _) _
    have hb6 := HB5.out.trans (hal.mono HB5.out.size)
    have k6 : KeepB g W1 (W5.alloc (.cells #[.string (mk n13), .int .i64 t13, .int .i64 c13, .int .i64 l13, .string (mk d13)] 43)) := hb6.block _ hgl
    have hnc := new_cells W5 [.string (mk n13), .int .i64 t13, .int .i64 c13, .int .i64 l13, .string (mk d13)] 43
    have HB6 := Go.Lib.hid hb6
    have HK6 := Go.Lib.hid k6
    have HNC := Go.Lib.hid hnc
    clear hb6 k6 hnc
    clear hal
    refine HKK.out _ _ HK6.out ?_
    clear HKK K
    refine mixT_appF eiRR (.tmp 85) (.tmp 87) rfl rfl rfl (m := 1) rfl rfl (by have h := (HZ4.out.below HB6.out).a1.rs.1; simp only at h; rw [HL1.out] at h; exact h) (by decide) (by decide) (news := [.string (mk n13), .int .i64 t13, .int .i64 c13, .int .i64 l13, .string (mk d13)]) rfl HNC.out (by decide) (by decide) ?_
    intro v7 W7 own7 hx7
    obtain ⟨a7, q7, rfl, _, _⟩ := (SlC.of_owns own7).slice
    have hb7 := HB6.out.trans (hx7.mono HB6.out.size)
    have k7 : KeepB g W1 W7 := hb7.block _ hgl
    refine ⟨k7, ?_⟩
    have hz7 := HZ4.out.below hb7
    have c7' : W7.cell? ⟨g, 4, none⟩ = some (.slice ra1 6 6) := by have h := row_cell hz7.row 4 (.slice ra1 rs1.length 6) rfl; rw [HL1.out] at h; exact h
    have f7 := frozen_of_row W7 g 4 _ _ hz7.row
    rw [← HSN.out] at own7
    have hln : (rs1 ++ [(⟨n13, t13, c13, l13, d13⟩ : Rc.RR)]).length = 6 + 1 := by rw [List.length_append, HL1.out]; rfl
    have hz8 := setR1 hz7 a7 q7 (6 + 1) (rs1 ++ [⟨n13, t13, c13, l13, d13⟩]) hln (SlT.of_owns own7)
    have hb8' := (HB1.out.trans (hb7.mono HB1.out.size)).setCell (p := ⟨g, 4, none⟩) HZ4.out.le (.slice a7 (6 + 1) q7)
    clear k7 own7 hx7 hz7 hln
    have HB7 := Go.Lib.hid hb7
    have HZ8 := Go.Lib.hid hz8
    have HB8' := Go.Lib.hid hb8'
    clear hb7 hz8 hb8'
    iterate 2 (refine Go.Mix.mixT_step rfl (fun K hK => ?_); have HKK := Go.Lib.hid hK; clear hK; go_simp; refine HKK.out _ _ ?_; clear HKK K)
    refine Go.Mix.mixT_last rfl (fun K hK => ?_)
    have HKK := Go.Lib.hid hK
    clear hK
    go_simp
    refine HKK.out _ _ ?_
    clear HKK K D7 hne c7' f7
    have hnew := bad_any [⟨[0], ra0, 2, rs0, sa0, sc0, sv0⟩, ⟨[1, 97, 0], a7, q7, rs1 ++ [⟨n13, t13, c13, l13, d13⟩], sa1, sc1, sv1⟩, ⟨[1, 98, 0], ra2, rc2, rs2, sa2, 1, sv2⟩, z3] (some ⟨g, 0, none⟩) 4 _ fo8 HZ8.out.zns (by simp only [List.map_cons, List.map_nil, HP0.out, HP2.out, HP3.out]; simp only [Zn.p, HR1.out, HS1.out, ← HR13.out]; rfl) (show 4 ≤ 1000 by decide) fk8 fn8
    skip
    have HNEW := Go.Lib.hid hnew
    clear hnew
    go_wp2_with fail
    refine HNEW.out.mono ?_; rintro e W8 ⟨rfl, hx8⟩
    have hb8 := (HB8'.out).trans (hx8.mono (HB8'.out).size)
    have HB8 := Go.Lib.hid hb8
    clear hb8
    clear hx8
    go_wp2_with fail
    refine (HAW.out _).mono ?_; rintro e W9 ⟨rfl, hx9⟩
    have hb9 := HB8.out.trans (hx9.mono HB8.out.size)
    have HB9 := Go.Lib.hid hb9
    clear hb9
    clear hx9
    go_wp2_with fail
    go_ret
    exact ⟨rfl, HB9.out⟩
  · have k8 : W1.cell? ⟨g, 8, none⟩ = some (.slice sa2 1 1) := by have h := row_cell HZ4.out.row 8 (.slice sa2 sv2.length 1) rfl; rw [HL2.out] at h; exact h
    have hal : Below W1.heap.size W1 (W1.alloc (.cells #[.string ⟨#[0]⟩, .int .i64 n] 55)) := (Below.refl _ W1).alloc (Nat.le_refl _) _
    have hnc := new_cells W1 [.string ⟨#[0]⟩, .int .i64 n] 55
    have hzA := HZ4.out.below hal
    have hbA := HB1.out.trans (hal.mono HB1.out.size)
    have hsl : SlC (W1.alloc (.cells #[.string ⟨#[0]⟩, .int .i64 n] 55)) 2 (.slice sa2 1 1) 1 (encV sv2) := by have h := hzA.a2.sv.1; simp only at h; rw [HL2.out] at h; exact h
    clear hal
    have HZA := Go.Lib.hid hzA
    have HBA := Go.Lib.hid hbA
    have HNC := Go.Lib.hid hnc
    have HSL := Go.Lib.hid hsl
    clear hzA hbA hnc hsl
    by_cases h9 : 0 ≤ n ∧ n < 4294967296
    · obtain ⟨h9a, h9b⟩ := h9
      go_wp2_with fail
      refine (HRD.out _).mono ?_; rintro e _ ⟨rfl, rfl⟩
      go_wp2_with (at_builtin; go_loud (refine wpList_appF eiSv (.tmp 97) (.tmp 100) rfl rfl (m := 1) rfl rfl HSL.out (by decide) (by decide) (news := [.string ⟨#[0]⟩, .int .i64 n]) rfl HNC.out (by decide) (by decide) ?_; intro v7 W7 own7 hx7; obtain ⟨a7, q7, rfl, _, _⟩ := (SlC.of_owns own7).slice; have hz7 := HZA.out.below hx7; have c7 : W7.cell? ⟨g, 8, none⟩ = some (.slice sa2 1 1) := by { have h := row_cell hz7.row 8 (.slice sa2 sv2.length 1) rfl; rw [HL2.out] at h; exact h }; have f7 := frozen_of_row W7 g 8 _ _ hz7.row; have hb7 := (HBA.out.trans (hx7.mono HBA.out.size)).setCell (p := ⟨g, 8, none⟩) hz7.le (.slice a7 (1 + 1) q7); have e9 : encV (sv2 ++ [([0], n)]) = encV sv2 ++ [.string ⟨#[0]⟩, .int .i64 n] := by { unfold encV; rw [List.flatMap_append]; rfl }; have hln : (sv2 ++ [([0], n)] : List Sv).length = 1 + 1 := by { rw [List.length_append, HL2.out]; rfl }; have hz8 := setS2 hz7 a7 q7 (1 + 1) (sv2 ++ [([0], n)]) hln (by { rw [e9]; exact SlT.of_owns own7 }); have HZ8 := Go.Lib.hid hz8; have HB7 := Go.Lib.hid hb7; clear own7 hx7 hz7 hb7 e9 hln hz8))
      have hzl : ([⟨[0], ra0, 2, rs0, sa0, sc0, sv0⟩, ⟨[1, 97, 0], ra1, 6, rs1, sa1, sc1, sv1⟩, ⟨[1, 98, 0], ra2, rc2, rs2, a7, q7, sv2 ++ [([0], n)]⟩, z3] : List Zn).map Zn.p = fo9 n := by simp only [List.map_cons, List.map_nil, HP0.out, HP1.out, HP3.out]; simp only [Zn.p, HR2.out, HS2.out]; rfl
      have hnew := good_any [⟨[0], ra0, 2, rs0, sa0, sc0, sv0⟩, ⟨[1, 97, 0], ra1, 6, rs1, sa1, sc1, sv1⟩, ⟨[1, 98, 0], ra2, rc2, rs2, a7, q7, sv2 ++ [([0], n)]⟩, z3] (some ⟨g, 0, none⟩) 4 _ (fo9 n) HZ8.out.zns hzl (show 4 ≤ 1000 by decide) (fk9 n) (by rw [fn9]; simp [h9a, h9b])
      clear hzl
      have HNEW := Go.Lib.hid hnew
      clear hnew
      go_wp2_with fail
      refine HNEW.out.mono ?_; rintro e W8 ⟨tb, rfl, hx8⟩
      have hb8 := (HB7.out).trans (hx8.mono (HB7.out).size)
      have HB8 := Go.Lib.hid hb8
      clear hb8
      clear hx8
      go_wp2_with fail
      refine (HAW.out _).mono ?_; rintro e W9 ⟨rfl, hx9⟩
      have hb9 := HB8.out.trans (hx9.mono HB8.out.size)
      have HB9 := Go.Lib.hid hb9
      clear hb9
      clear hx9
      go_wp2_with fail
      go_ret
      exact ⟨rfl, HB9.out⟩
    · by_cases h9a : 0 ≤ n
      · have h9b : ¬ n < 4294967296 := fun h => h9 ⟨h9a, h⟩
        have h9c : decide (n < 4294967296) = false := decide_eq_false h9b
        have H9 := Go.Lib.hid (fm9 n h9)
        clear h9
        go_wp2_with fail
        refine (HRD.out _).mono ?_; rintro e _ ⟨rfl, rfl⟩
        go_wp2_with (at_builtin; go_loud (refine wpList_appF eiSv (.tmp 97) (.tmp 100) rfl rfl (m := 1) rfl rfl HSL.out (by decide) (by decide) (news := [.string ⟨#[0]⟩, .int .i64 n]) rfl HNC.out (by decide) (by decide) ?_; intro v7 W7 own7 hx7; obtain ⟨a7, q7, rfl, _, _⟩ := (SlC.of_owns own7).slice; have hz7 := HZA.out.below hx7; have c7 : W7.cell? ⟨g, 8, none⟩ = some (.slice sa2 1 1) := by { have h := row_cell hz7.row 8 (.slice sa2 sv2.length 1) rfl; rw [HL2.out] at h; exact h }; have f7 := frozen_of_row W7 g 8 _ _ hz7.row; have hb7 := (HBA.out.trans (hx7.mono HBA.out.size)).setCell (p := ⟨g, 8, none⟩) hz7.le (.slice a7 (1 + 1) q7); have e9 : encV (sv2 ++ [([0], n)]) = encV sv2 ++ [.string ⟨#[0]⟩, .int .i64 n] := by { unfold encV; rw [List.flatMap_append]; rfl }; have hln : (sv2 ++ [([0], n)] : List Sv).length = 1 + 1 := by { rw [List.length_append, HL2.out]; rfl }; have hz8 := setS2 hz7 a7 q7 (1 + 1) (sv2 ++ [([0], n)]) hln (by { rw [e9]; exact SlT.of_owns own7 }); have HZ8 := Go.Lib.hid hz8; have HB7 := Go.Lib.hid hb7; clear own7 hx7 hz7 hb7 e9 hln hz8))
        have hzl : ([⟨[0], ra0, 2, rs0, sa0, sc0, sv0⟩, ⟨[1, 97, 0], ra1, 6, rs1, sa1, sc1, sv1⟩, ⟨[1, 98, 0], ra2, rc2, rs2, a7, q7, sv2 ++ [([0], n)]⟩, z3] : List Zn).map Zn.p = fo9 n := by simp only [List.map_cons, List.map_nil, HP0.out, HP1.out, HP3.out]; simp only [Zn.p, HR2.out, HS2.out]; rfl
        have hnew := bad_any [⟨[0], ra0, 2, rs0, sa0, sc0, sv0⟩, ⟨[1, 97, 0], ra1, 6, rs1, sa1, sc1, sv1⟩, ⟨[1, 98, 0], ra2, rc2, rs2, a7, q7, sv2 ++ [([0], n)]⟩, z3] (some ⟨g, 0, none⟩) 4 _ (fo9 n) HZ8.out.zns hzl (show 4 ≤ 1000 by decide) (fk9 n) H9.out
        clear hzl
        have HNEW := Go.Lib.hid hnew
        clear hnew
        go_wp2_with fail
        refine HNEW.out.mono ?_; rintro e W8 ⟨rfl, hx8⟩
        have hb8 := (HB7.out).trans (hx8.mono (HB7.out).size)
        have HB8 := Go.Lib.hid hb8
        clear hb8
        clear hx8
        go_wp2_with fail
        refine (HAW.out _).mono ?_; rintro e W9 ⟨rfl, hx9⟩
        have hb9 := HB8.out.trans (hx9.mono HB8.out.size)
        have HB9 := Go.Lib.hid hb9
        clear hb9
        clear hx9
        go_wp2_with fail
        go_ret
        exact ⟨rfl, HB9.out⟩
      · have H9 := Go.Lib.hid (fm9 n h9)
        clear h9
        go_wp2_with fail
        refine (HRD.out _).mono ?_; rintro e _ ⟨rfl, rfl⟩
        go_wp2_with (at_builtin; go_loud (refine wpList_appF eiSv (.tmp 97) (.tmp 100) rfl rfl (m := 1) rfl rfl HSL.out (by decide) (by decide) (news := [.string ⟨#[0]⟩, .int .i64 n]) rfl HNC.out (by decide) (by decide) ?_; intro v7 W7 own7 hx7; obtain ⟨a7, q7, rfl, _, _⟩ := (SlC.of_owns own7).slice; have hz7 := HZA.out.below hx7; have c7 : W7.cell? ⟨g, 8, none⟩ = some (.slice sa2 1 1) := by { have h := row_cell hz7.row 8 (.slice sa2 sv2.length 1) rfl; rw [HL2.out] at h; exact h }; have f7 := frozen_of_row W7 g 8 _ _ hz7.row; have hb7 := (HBA.out.trans (hx7.mono HBA.out.size)).setCell (p := ⟨g, 8, none⟩) hz7.le (.slice a7 (1 + 1) q7); have e9 : encV (sv2 ++ [([0], n)]) = encV sv2 ++ [.string ⟨#[0]⟩, .int .i64 n] := by { unfold encV; rw [List.flatMap_append]; rfl }; have hln : (sv2 ++ [([0], n)] : List Sv).length = 1 + 1 := by { rw [List.length_append, HL2.out]; rfl }; have hz8 := setS2 hz7 a7 q7 (1 + 1) (sv2 ++ [([0], n)]) hln (by { rw [e9]; exact SlT.of_owns own7 }); have HZ8 := Go.Lib.hid hz8; have HB7 := Go.Lib.hid hb7; clear own7 hx7 hz7 hb7 e9 hln hz8))
        have hzl : ([⟨[0], ra0, 2, rs0, sa0, sc0, sv0⟩, ⟨[1, 97, 0], ra1, 6, rs1, sa1, sc1, sv1⟩, ⟨[1, 98, 0], ra2, rc2, rs2, a7, q7, sv2 ++ [([0], n)]⟩, z3] : List Zn).map Zn.p = fo9 n := by simp only [List.map_cons, List.map_nil, HP0.out, HP1.out, HP3.out]; simp only [Zn.p, HR2.out, HS2.out]; rfl
        have hnew := bad_any [⟨[0], ra0, 2, rs0, sa0, sc0, sv0⟩, ⟨[1, 97, 0], ra1, 6, rs1, sa1, sc1, sv1⟩, ⟨[1, 98, 0], ra2, rc2, rs2, a7, q7, sv2 ++ [([0], n)]⟩, z3] (some ⟨g, 0, none⟩) 4 _ (fo9 n) HZ8.out.zns hzl (show 4 ≤ 1000 by decide) (fk9 n) H9.out
        clear hzl
        have HNEW := Go.Lib.hid hnew
        clear hnew
        go_wp2_with fail
        refine HNEW.out.mono ?_; rintro e W8 ⟨rfl, hx8⟩
        have hb8 := (HB7.out).trans (hx8.mono (HB7.out).size)
        have HB8 := Go.Lib.hid hb8
        clear hb8
        clear hx8
        go_wp2_with fail
        refine (HAW.out _).mono ?_; rintro e W9 ⟨rfl, hx9⟩
        have hb9 := HB8.out.trans (hx9.mono HB8.out.size)
        have HB9 := Go.Lib.hid hb9
        clear hb9
        clear hx9
        go_wp2_with fail
        go_ret
        exact ⟨rfl, HB9.out⟩
  · have k3 : W1.cell? ⟨g, 3, none⟩ = some (.string (mk [1, 97, 0])) := row_cell HZ4.out.row 3 _ rfl
    have f3 := frozen_of_row W1 g 3 _ _ HZ4.out.row
    have hz8 : Z4 w.heap.size g _ _ _ _ (W1.setCell ⟨g, 3, none⟩ (.string ⟨#[97]⟩)) := setN1 HZ4.out [97]
    have hb7 := HB1.out.setCell (p := ⟨g, 3, none⟩) HZ4.out.le (.string ⟨#[97]⟩)
    have hnew := bad_any [⟨[0], ra0, 2, rs0, sa0, sc0, sv0⟩, ⟨[97], ra1, 6, rs1, sa1, sc1, sv1⟩, ⟨[1, 98, 0], ra2, rc2, rs2, sa2, 1, sv2⟩, z3] (some ⟨g, 0, none⟩) 4 _ fo10 hz8.zns (by simp only [List.map_cons, List.map_nil, HP0.out, HP2.out, HP3.out]; simp only [Zn.p, HR1.out, HS1.out]; rfl) (show 4 ≤ 1000 by decide) fk10 fn10
    clear hz8
    have HB7 := Go.Lib.hid hb7
    have HNW := Go.Lib.hid hnew
    clear hb7 hnew
    go_wp2_with fail
    refine (HRD.out _).mono ?_; rintro e _ ⟨rfl, rfl⟩
    have hnew := HNW.out
    clear HNW
    have HNEW := Go.Lib.hid hnew
    clear hnew
    go_wp2_with fail
    refine HNEW.out.mono ?_; rintro e W8 ⟨rfl, hx8⟩
    have hb8 := (HB7.out).trans (hx8.mono (HB7.out).size)
    have HB8 := Go.Lib.hid hb8
    clear hb8
    clear hx8
    go_wp2_with fail
    refine (HAW.out _).mono ?_; rintro e W9 ⟨rfl, hx9⟩
    have hb9 := HB8.out.trans (hx9.mono HB8.out.size)
    have HB9 := Go.Lib.hid hb9
    clear hb9
    clear hx9
    go_wp2_with fail
    go_ret
    exact ⟨rfl, HB9.out⟩
  · have hz4 := HZ4.out
    clear HZ4
    have HZ4 := Go.Lib.hid hz4
    clear hz4
    have hne : Nonempty (Subtype (KeepB g W1)) := ⟨⟨W1, rfl⟩⟩
    have D7 : ∀ y : Subtype (KeepB g W1), y.1.cell? ⟨g, 4, none⟩ = some (.slice ra1 6 6) := fun y => by have h := row_cell (y.2.trans HZ4.out.row) 4 (.slice ra1 rs1.length 6) rfl; rw [HL1.out] at h; exact h
    obtain ⟨⟨n13, t13, c13, l13, d13⟩, hr13⟩ : ∃ r, aliR [1, 112, 1, 97, 0] [1, 98, 0] = r := ⟨_, rfl⟩
    have hc13 := fun W => ali_any [1, 112, 1, 97, 0] [1, 98, 0] W (by decide) (by decide)
    rw [hr13] at hc13
    simp only [rrV] at hc13
    have hon := one_rr ⟨n13, t13, c13, l13, d13⟩
    have hsn := encR_snoc rs1 ⟨n13, t13, c13, l13, d13⟩
    have HC13 := Go.Lib.hid hc13
    have HR13 := Go.Lib.hid hr13
    have HON := Go.Lib.hid hon
    have HSN := Go.Lib.hid hsn
    clear hc13 hr13 hon hsn
    go_wp2_with fail
    refine (HRD.out _).mono ?_; rintro e _ ⟨rfl, rfl⟩
    go_wp2_with fail
    refine Go.Mix.wp_region_mixT (Es := [5, 6, 7]) 10 (KeepB g W1) mixed (by kernel_rfl) rfl ?_
    iterate 5 (refine Go.Mix.mixT_step rfl (fun K hK => ?_); have HKK := Go.Lib.hid hK; clear hK; go_simp; refine HKK.out _ _ ?_; clear HKK K)
    refine Go.Mix.mixT_eff rfl (fun K hK => ?_)
    have HKK := Go.Lib.hid hK
    clear hK
    go_simp
    refine (HC13.out W1.drew).mono ?_; rintro e W5 ⟨rfl, hx5⟩
    have hb5 : Below W1.heap.size W1 W5 := (Below.refl _ W1).drew.trans hx5
    have k5 : KeepB g W1 W5 := hb5.block _ hgl
    clear hx5
    have HB5 := Go.Lib.hid hb5
    have HK5 := Go.Lib.hid k5
    clear hb5 k5
    go_simp
    refine HKK.out _ _ HK5.out ?_
    clear HKK K
    refine Go.Mix.mixT_eff rfl (fun K hK => ?_)
    have HKK := Go.Lib.hid hK
    clear hK
    go_simp
    have hal : Below W5.heap.size W5 (W5.alloc (.cells #[.string (mk n13), .int .i64 t13, .int .i64 c13, .int .i64 l13, .string (mk d13)] 43)) := (Below.refl _ W5).alloc (Nat.le_refl _) _
    have hb6 := HB5.out.trans (hal.mono HB5.out.size)
    have k6 : KeepB g W1 (W5.alloc (.cells #[.string (mk n13), .int .i64 t13, .int .i64 c13, .int .i64 l13, .string (mk d13)] 43)) := hb6.block _ hgl
    have hnc := new_cells W5 [.string (mk n13), .int .i64 t13, .int .i64 c13, .int .i64 l13, .string (mk d13)] 43
    have HB6 := Go.Lib.hid hb6
    have HK6 := Go.Lib.hid k6
    have HNC := Go.Lib.hid hnc
    clear hb6 k6 hnc
    clear hal
    refine HKK.out _ _ HK6.out ?_
    clear HKK K
    refine mixT_appF eiRR (.tmp 121) (.tmp 123) rfl rfl rfl (m := 1) rfl rfl (by have h := (HZ4.out.below HB6.out).a1.rs.1; simp only at h; rw [HL1.out] at h; exact h) (by decide) (by decide) (news := [.string (mk n13), .int .i64 t13, .int .i64 c13, .int .i64 l13, .string (mk d13)]) rfl HNC.out (by decide) (by decide) ?_
    intro v7 W7 own7 hx7
    obtain ⟨a7, q7, rfl, _, _⟩ := (SlC.of_owns own7).slice
    have hb7 := HB6.out.trans (hx7.mono HB6.out.size)
    have k7 : KeepB g W1 W7 := hb7.block _ hgl
    refine ⟨k7, ?_⟩
    have hz7 := HZ4.out.below hb7
    have c7' : W7.cell? ⟨g, 4, none⟩ = some (.slice ra1 6 6) := by have h := row_cell hz7.row 4 (.slice ra1 rs1.length 6) rfl; rw [HL1.out] at h; exact h
    have f7 := frozen_of_row W7 g 4 _ _ hz7.row
    rw [← HSN.out] at own7
    have hln : (rs1 ++ [(⟨n13, t13, c13, l13, d13⟩ : Rc.RR)]).length = 6 + 1 := by rw [List.length_append, HL1.out]; rfl
    have hz8 := setR1 hz7 a7 q7 (6 + 1) (rs1 ++ [⟨n13, t13, c13, l13, d13⟩]) hln (SlT.of_owns own7)
    have hb8' := (HB1.out.trans (hb7.mono HB1.out.size)).setCell (p := ⟨g, 4, none⟩) HZ4.out.le (.slice a7 (6 + 1) q7)
    clear k7 own7 hx7 hz7 hln
    have HB7 := Go.Lib.hid hb7
    have HZ8 := Go.Lib.hid hz8
    have HB8' := Go.Lib.hid hb8'
    clear hb7 hz8 hb8'
    iterate 2 (refine Go.Mix.mixT_step rfl (fun K hK => ?_); have HKK := Go.Lib.hid hK; clear hK; go_simp; refine HKK.out _ _ ?_; clear HKK K)
    refine Go.Mix.mixT_last rfl (fun K hK => ?_)
    have HKK := Go.Lib.hid hK
    clear hK
    go_simp
    refine HKK.out _ _ ?_
    clear HKK K D7 hne c7' f7
    have hnew := good_any [⟨[0], ra0, 2, rs0, sa0, sc0, sv0⟩, ⟨[1, 97, 0], a7, q7, rs1 ++ [⟨n13, t13, c13, l13, d13⟩], sa1, sc1, sv1⟩, ⟨[1, 98, 0], ra2, rc2, rs2, sa2, 1, sv2⟩, z3] (some ⟨g, 0, none⟩) 4 _ fo11 HZ8.out.zns (by simp only [List.map_cons, List.map_nil, HP0.out, HP2.out, HP3.out]; simp only [Zn.p, HR1.out, HS1.out, ← HR13.out]; rfl) (show 4 ≤ 1000 by decide) fk11 fn11
    skip
    have HNEW := Go.Lib.hid hnew
    clear hnew
    go_wp2_with fail
    refine HNEW.out.mono ?_; rintro e W8 ⟨tb, rfl, hx8⟩
    have hb8 := (HB8'.out).trans (hx8.mono (HB8'.out).size)
    have HB8 := Go.Lib.hid hb8
    clear hb8
    clear hx8
    go_wp2_with fail
    refine (HAW.out _).mono ?_; rintro e W9 ⟨rfl, hx9⟩
    have hb9 := HB8.out.trans (hx9.mono HB8.out.size)
    have HB9 := Go.Lib.hid hb9
    clear hb9
    clear hx9
    go_wp2_with fail
    go_ret
    exact ⟨rfl, HB9.out⟩
set_option maxRecDepth 100000 in
theorem lifted (os : Os) (started : os.Started) (H : Type) (enc : TypeId × Value → H) :
    ReturnsInHanded {} Tryz.checked os 4 .any (Rows.treeFormsSpec.pre6 enc Tryz.prog Tryz.f4 Rows.treeFormsRow.domain false) (Rows.treeFormsSpec.post enc Tryz.prog Tryz.f4 false true false false) := by
  refine returnsInHanded_of_change (C := Tryz.checked) own started (by kernel_rfl) Tryz.func4
    (ChangeSpec.witness6 (enc := enc) (C := Tryz.checked) false ⟨#[], #[.int .i64 0, .int .i64 0], []⟩ 8 (by kernel_rfl) (by kernel_rfl) (by kernel_rfl) (by kernel_rfl)) ?_
  intro W base args ds gs before hval0 hW hcnd _
  have hval : ∀ (j : Nat) t v, Tryz.f4.params[j]? = some t → args[j]? = some v → Value.okWide Tryz.prog W .any base t v := hval0
  refine law_post enc 2 (by kernel_rfl) rfl rfl (by kernel_rfl) (fun ds h => match ds, h with | [_, _], _ => rfl) hW ?_
  obtain ⟨p, q, hA0, hV, rfl, _, _⟩ := hW
  have hA : DataW.TrodAll enc Tryz.prog W 0 (fun _ => true) true Tryz.f4.params.toList args.toList ds p := hA0
  rw [Tryz.params4] at hA hval
  obtain ⟨v0, vs0, d0, ds0, p0, q0, hargs, rfl, rfl, h0, r0⟩ := trodAll_cons hA
  obtain ⟨v1, vs1, d1, ds1, p1, q1, rfl, rfl, rfl, h1, r1⟩ := trodAll_cons r0
  obtain ⟨rfl, rfl, rfl⟩ := trodAll_nil r1
  obtain rfl : args = #[v0, v1] := by cases args; simp_all
  obtain ⟨a0, rfl, rfl, rfl, w0⟩ := open_int Tryz.underlying3 (hval 0 3 v0 rfl rfl) h0
  obtain ⟨a1, rfl, rfl, rfl, w1⟩ := open_int Tryz.underlying3 (hval 1 3 v1 rfl rfl) h1
  exact walk a0 a1 W (fits_of_wf w0) (fits_of_wf w1)

theorem over : Rows.treeFormsRow.holds Tryz.pinned (OpenSpec.ofChange Rows.treeFormsSpec) :=
  OpenClaim.holds_of_wide 4 Tryz.f4 rfl rfl rfl rfl rfl rfl rfl ⟨rfl, rfl, rfl, rfl, rfl⟩ rfl rfl rfl rfl rfl (by kernel_rfl) Tryz.func4 (by kernel_rfl)
    (of_decide_eq_true (by kernel_rfl)) (by unfold Func.isWrapper; first | (rw [if_pos (by decide +kernel)]; kernel_rfl) | (rw [if_neg (by decide +kernel)]; exact ⟨rfl, rfl⟩))
    (fun os started H enc _ => lifted os started H enc)

/-- the statement -/
theorem proved : Rows.TreeFormsSaid := over
#print axioms proved
end Go.Proofs.YtkpcmnckdappnaaGreat.treeForms
