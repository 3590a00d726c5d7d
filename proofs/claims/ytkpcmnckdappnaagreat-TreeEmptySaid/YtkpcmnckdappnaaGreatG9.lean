/- Merged texts of the seat, in their order: TrY, TrL, TrJ, Alk, RefD, RefB, RefC, Alike, TrZ. -/
import Derived.Test.YtkpcmnckdappnaaGreatG2
import Derived.Test.YtkpcmnckdappnaaGreatG3
import Derived.Test.YtkpcmnckdappnaaGreatG4
import Derived.Test.YtkpcmnckdappnaaGreatG5
import Derived.Test.YtkpcmnckdappnaaGreatG6
import Derived.Test.YtkpcmnckdappnaaGreatG8
import Derived.BigQuiet
import Derived.Deep.QuietTactic
/- Tree: the law's zones. -/
namespace Go.Proofs.YtkpcmnckdappnaaGreat
open Go.RowKit Go.Sort Go.Lib
set_option maxRecDepth 100000
set_option linter.unusedVariables false
set_option linter.unusedSimpArgs false

theorem slt_of_row {w : World} {g sz n T : Nat} {fr : Nat × Nat} {cs : List Value} (h : w.heap[g]? = some (.cells cs.toArray T fr)) (off : Nat) (ds : List Value) (hd : ∀ j, j < n * sz → cs[off + j]? = ds[j]?) (hl : ds.length = n * sz) (hn : n ≤ maxLen) : SlT w T sz (.slice (some ⟨g, off, none⟩) n n) n ds := by
  refine ⟨⟨hl, _, _, rfl, Nat.le_refl _, hn, (fun h => by cases h), .inr ⟨g, off, rfl, (Array.getElem?_eq_some_iff.1 h).1, fun j hj => ?_⟩⟩, fun a m c hv _ => ?_⟩
  · rw [← hd j hj]
    simp [World.cell?, h]
  · simp only [Value.slice.injEq, Option.some.injEq] at hv
    obtain ⟨rfl, _, _⟩ := hv
    exact ⟨_, _, h⟩
theorem slt_row {w : World} {g sz n T : Nat} {fr : Nat × Nat} {cs : List Value} (h : w.heap[g]? = some (.cells cs.toArray T fr)) (hl : cs.length = n * sz) (hn : n ≤ maxLen) : SlT w T sz (.slice (some ⟨g, 0, none⟩) n n) n cs :=
  slt_of_row h 0 cs (fun j _ => by rw [Nat.zero_add]) hl hn
/-- a zone's lists, and the types of their blocks -/
structure ZnT (w : World) (z : Zn) : Prop where
  rs : SlT w 43 5 (.slice z.ra z.rs.length z.rc) z.rs.length (encR z.rs)
  sv : SlT w 55 2 (.slice z.sa z.sv.length z.sc) z.sv.length (encV z.sv)
theorem ZnT.lies {w : World} {z : Zn} (h : ZnT w z) : ZnAt w z := ⟨h.rs.1, h.sv.1⟩
theorem ZnT.below {w w' : World} {z : Zn} (h : ZnT w z) (hb : Below w.heap.size w w') : ZnT w' z := ⟨h.rs.below hb, h.sv.below hb⟩
theorem ZnT.setCell {w : World} {z : Zn} {g i : Nat} {u : Value} {old : Array Value} {fr : Nat × Nat} (h : ZnT w z) (hg : w.heap[g]? = some (.cells old 50 fr)) : ZnT (w.setCell ⟨g, i, none⟩ u) z := ⟨h.rs.setCell hg (by decide), h.sv.setCell hg (by decide)⟩
theorem MadeL.push2 {B : Nat} {l : List (Nat × Obj)} {w W : World} (h : MadeL B l w W) (o1 o2 : Obj) : MadeL B ((W.heap.size + 1, o2) :: (W.heap.size, o1) :: l) w ((W.alloc o1).alloc o2) := by
  have := (h.push o1).push o2
  rwa [show (W.alloc o1).heap.size = W.heap.size + 1 by simp] at this
/-- four zones in a row at block g -/
structure Z4 (B g : Nat) (z0 z1 z2 z3 : Zn) (w : World) : Prop where
  row : w.heap[g]? = some (.cells #[.string (mk z0.nm), .slice z0.ra z0.rs.length z0.rc, .slice z0.sa z0.sv.length z0.sc, .string (mk z1.nm), .slice z1.ra z1.rs.length z1.rc, .slice z1.sa z1.sv.length z1.sc, .string (mk z2.nm), .slice z2.ra z2.rs.length z2.rc, .slice z2.sa z2.sv.length z2.sc, .string (mk z3.nm), .slice z3.ra z3.rs.length z3.rc, .slice z3.sa z3.sv.length z3.sc] 50 (0, 0))
  le : B ≤ g
  a0 : ZnT w z0
  a1 : ZnT w z1
  a2 : ZnT w z2
  a3 : ZnT w z3
theorem Z4.below {B g : Nat} {z0 z1 z2 z3 : Zn} {w w' : World} (h : Z4 B g z0 z1 z2 z3 w) (hb : Below w.heap.size w w') : Z4 B g z0 z1 z2 z3 w' :=
  ⟨heap_later hb h.row, h.le, h.a0.below hb, h.a1.below hb, h.a2.below hb, h.a3.below hb⟩
theorem Z4.zns {B g : Nat} {z0 z1 z2 z3 : Zn} {w : World} (h : Z4 B g z0 z1 z2 z3 w) : Zns w (.slice (some ⟨g, 0, none⟩) 4 4) [z0, z1, z2, z3] := by
  refine ⟨(slt_row (cs := [z0, z1, z2, z3].flatMap znC) h.row rfl (by decide)).1, fun z hz => ?_⟩
  simp only [List.mem_cons, List.not_mem_nil, or_false] at hz
  rcases hz with rfl | rfl | rfl | rfl
  · exact h.a0.lies
  · exact h.a1.lies
  · exact h.a2.lies
  · exact h.a3.lies
/-- a block lies as it lay -/
def KeepB (G : Nat) (Y W : World) : Prop := W.heap[G]? = Y.heap[G]?
/-- what zones(k) hands back -/
def RetZ (k : Nat) (w : World) (e : Ending) (w' : World) : Prop := ∃ g z0 z1 z2 z3, e = .returned (.slice (some ⟨g, 0, none⟩) 4 4) ∧ [z0.p, z1.p, z2.p, z3.p] = zonesZ k ∧ Z4 w.heap.size g z0 z1 z2 z3 w' ∧ z0.rc = z0.rs.length ∧ z1.rc = z1.rs.length ∧ (k = 0 → z2.sc = z2.sv.length) ∧ Below w.heap.size w w'

set_option maxHeartbeats 16000000 in
theorem zones_any (k : Int) (w : World) : Calls Tryz.prog 8 #[.int .i64 k] w (RetZ (k % 4).toNat w) := by
  have mixed : Tryz.prog.follows .mixedOrders = true := by kernel_rfl
  have hrd := fun W => Round_any k 4 W (by decide) (by decide)
  have hc1 := fun W => adr_any [1, 114, 0] 1 W (by decide)
  obtain ⟨⟨n1, t1, c1, l1, d1⟩, hr1⟩ : ∃ r, adrP [1, 114, 0] 1 = r := ⟨_, rfl⟩
  rw [hr1] at hc1
  simp only [rrV] at hc1
  have hc2 := fun W => ali_any [1, 120, 0] [1, 119, 1, 97, 0] W (by decide) (by decide)
  obtain ⟨⟨n2, t2, c2, l2, d2⟩, hr2⟩ : ∃ r, aliR [1, 120, 0] [1, 119, 1, 97, 0] = r := ⟨_, rfl⟩
  rw [hr2] at hc2
  simp only [rrV] at hc2
  have hc3 := fun W => adr_any [2, 110, 115, 1, 97, 0] 2 W (by decide)
  obtain ⟨⟨n3, t3, c3, l3, d3⟩, hr3⟩ : ∃ r, adrP [2, 110, 115, 1, 97, 0] 2 = r := ⟨_, rfl⟩
  rw [hr3] at hc3
  simp only [rrV] at hc3
  have hc4 := fun W => adr_any [1, 119, 1, 97, 0] 20 W (by decide)
  obtain ⟨⟨n4, t4, c4, l4, d4⟩, hr4⟩ : ∃ r, adrP [1, 119, 1, 97, 0] 20 = r := ⟨_, rfl⟩
  rw [hr4] at hc4
  simp only [rrV] at hc4
  have hc5 := fun W => adr_any [1, 119, 1, 97, 0] 21 W (by decide)
  obtain ⟨⟨n5, t5, c5, l5, d5⟩, hr5⟩ : ∃ r, adrP [1, 119, 1, 97, 0] 21 = r := ⟨_, rfl⟩
  rw [hr5] at hc5
  simp only [rrV] at hc5
  have hc6 := fun W => ali_any [1, 120, 1, 97, 0] [1, 121, 1, 97, 0] W (by decide) (by decide)
  obtain ⟨⟨n6, t6, c6, l6, d6⟩, hr6⟩ : ∃ r, aliR [1, 120, 1, 97, 0] [1, 121, 1, 97, 0] = r := ⟨_, rfl⟩
  rw [hr6] at hc6
  simp only [rrV] at hc6
  have hc7 := fun W => ali_any [1, 121, 1, 97, 0] [1, 119, 1, 99, 1, 98, 0] W (by decide) (by decide)
  obtain ⟨⟨n7, t7, c7, l7, d7⟩, hr7⟩ : ∃ r, aliR [1, 121, 1, 97, 0] [1, 119, 1, 99, 1, 98, 0] = r := ⟨_, rfl⟩
  rw [hr7] at hc7
  simp only [rrV] at hc7
  have hc8 := fun W => ali_any [1, 108, 1, 97, 0] [1, 108, 1, 97, 0] W (by decide) (by decide)
  obtain ⟨⟨n8, t8, c8, l8, d8⟩, hr8⟩ : ∃ r, aliR [1, 108, 1, 97, 0] [1, 108, 1, 97, 0] = r := ⟨_, rfl⟩
  rw [hr8] at hc8
  simp only [rrV] at hc8
  have hc9 := fun W => adr_any [2, 110, 115, 1, 98, 0] 3 W (by decide)
  obtain ⟨⟨n9, t9, c9, l9, d9⟩, hr9⟩ : ∃ r, adrP [2, 110, 115, 1, 98, 0] 3 = r := ⟨_, rfl⟩
  rw [hr9] at hc9
  simp only [rrV] at hc9
  have hc10 := fun W => adr_any [1, 119, 1, 98, 0] 30 W (by decide)
  obtain ⟨⟨n10, t10, c10, l10, d10⟩, hr10⟩ : ∃ r, adrP [1, 119, 1, 98, 0] 30 = r := ⟨_, rfl⟩
  rw [hr10] at hc10
  simp only [rrV] at hc10
  have hc11 := fun W => adr_any [1, 119, 1, 99, 1, 98, 0] 40 W (by decide)
  obtain ⟨⟨n11, t11, c11, l11, d11⟩, hr11⟩ : ∃ r, adrP [1, 119, 1, 99, 1, 98, 0] 40 = r := ⟨_, rfl⟩
  rw [hr11] at hc11
  simp only [rrV] at hc11
  have hc12 := fun W => ali_any [1, 122, 1, 99, 1, 98, 0] [1, 113, 1, 97, 0] W (by decide) (by decide)
  obtain ⟨⟨n12, t12, c12, l12, d12⟩, hr12⟩ : ∃ r, aliR [1, 122, 1, 99, 1, 98, 0] [1, 113, 1, 97, 0] = r := ⟨_, rfl⟩
  rw [hr12] at hc12
  simp only [rrV] at hc12
  have hc13 := fun W => ali_any [1, 100, 1, 98, 0] [1, 120, 0] W (by decide) (by decide)
  obtain ⟨⟨n13, t13, c13, l13, d13⟩, hr13⟩ : ∃ r, aliR [1, 100, 1, 98, 0] [1, 120, 0] = r := ⟨_, rfl⟩
  rw [hr13] at hc13
  simp only [rrV] at hc13
  have ha : 0 ≤ k % 4 ∧ k % 4 < 4 := ⟨Int.emod_nonneg _ (by decide), Int.emod_lt_of_pos _ (by decide)⟩
  obtain ⟨i, hi⟩ : ∃ i : Nat, k % 4 = i := ⟨(k % 4).toNat, by omega⟩
  rw [hi] at ha hrd
  have e : (k % 4).toNat = i := by omega
  rw [e]
  clear hi e
  have HM := Go.Lib.hid (MadeL.start w)
  have HRD := Go.Lib.hid hrd
  have HC1 := Go.Lib.hid hc1
  have HR1 := Go.Lib.hid hr1
  have HC2 := Go.Lib.hid hc2
  have HR2 := Go.Lib.hid hr2
  have HC3 := Go.Lib.hid hc3
  have HR3 := Go.Lib.hid hr3
  have HC4 := Go.Lib.hid hc4
  have HR4 := Go.Lib.hid hr4
  have HC5 := Go.Lib.hid hc5
  have HR5 := Go.Lib.hid hr5
  have HC6 := Go.Lib.hid hc6
  have HR6 := Go.Lib.hid hr6
  have HC7 := Go.Lib.hid hc7
  have HR7 := Go.Lib.hid hr7
  have HC8 := Go.Lib.hid hc8
  have HR8 := Go.Lib.hid hr8
  have HC9 := Go.Lib.hid hc9
  have HR9 := Go.Lib.hid hr9
  have HC10 := Go.Lib.hid hc10
  have HR10 := Go.Lib.hid hr10
  have HC11 := Go.Lib.hid hc11
  have HR11 := Go.Lib.hid hr11
  have HC12 := Go.Lib.hid hc12
  have HR12 := Go.Lib.hid hr12
  have HC13 := Go.Lib.hid hc13
  have HR13 := Go.Lib.hid hr13
  clear hrd hc1 hr1 hc2 hr2 hc3 hr3 hc4 hr4 hc5 hr5 hc6 hr6 hc7 hr7 hc8 hr8 hc9 hr9 hc10 hr10 hc11 hr11 hc12 hr12 hc13 hr13
  go_enter Tryz.func8, Tryz.ntmps8
  go_wp2_with fail
  refine (HC1.out _).mono ?_; rintro e W1 ⟨rfl, hx1⟩
  have hm1 := (HM.out.push _).below hx1
  clear HM hx1
  have HM := Go.Lib.hid hm1
  clear hm1
  go_wp2_with fail
  refine (HC2.out _).mono ?_; rintro e W2 ⟨rfl, hx2⟩
  have hm2 := HM.out.below hx2
  clear HM hx2
  have HM := Go.Lib.hid hm2
  clear hm2
  go_wp2_with fail
  refine (HC3.out _).mono ?_; rintro e W3 ⟨rfl, hx3⟩
  have hm3 := (HM.out.push2 _ _).below hx3
  clear HM hx3
  have HM := Go.Lib.hid hm3
  clear hm3
  go_wp2_with fail
  refine (HC4.out _).mono ?_; rintro e W4 ⟨rfl, hx4⟩
  have hm4 := HM.out.below hx4
  clear HM hx4
  have HM := Go.Lib.hid hm4
  clear hm4
  go_wp2_with fail
  refine (HC5.out _).mono ?_; rintro e W5 ⟨rfl, hx5⟩
  have hm5 := HM.out.below hx5
  clear HM hx5
  have HM := Go.Lib.hid hm5
  clear hm5
  go_wp2_with fail
  refine (HC6.out _).mono ?_; rintro e W6 ⟨rfl, hx6⟩
  have hm6 := HM.out.below hx6
  clear HM hx6
  have HM := Go.Lib.hid hm6
  clear hm6
  go_wp2_with fail
  refine (HC7.out _).mono ?_; rintro e W7 ⟨rfl, hx7⟩
  have hm7 := HM.out.below hx7
  clear HM hx7
  have HM := Go.Lib.hid hm7
  clear hm7
  go_wp2_with fail
  refine (HC8.out _).mono ?_; rintro e W8 ⟨rfl, hx8⟩
  have hm8 := HM.out.below hx8
  clear HM hx8
  have HM := Go.Lib.hid hm8
  clear hm8
  go_wp2_with fail
  refine (HC9.out _).mono ?_; rintro e W9 ⟨rfl, hx9⟩
  have hm9 := (HM.out.push2 _ _).below hx9
  clear HM hx9
  have HM := Go.Lib.hid hm9
  clear hm9
  go_wp2_with fail
  refine (HC10.out _).mono ?_; rintro e W10 ⟨rfl, hx10⟩
  have hm10 := HM.out.below hx10
  clear HM hx10
  have HM := Go.Lib.hid hm10
  clear hm10
  go_wp2_with fail
  refine (HC11.out _).mono ?_; rintro e W11 ⟨rfl, hx11⟩
  have hm11 := (HM.out.push2 _ _).below hx11
  clear HM hx11
  have HM := Go.Lib.hid hm11
  clear hm11
  go_wp2_with fail
  refine (HC12.out _).mono ?_; rintro e W12 ⟨rfl, hx12⟩
  have hm12 := HM.out.below hx12
  clear HM hx12
  have HM := Go.Lib.hid hm12
  clear hm12
  obtain ⟨V, hV⟩ : ∃ V, (W12.alloc (.cells #[.string (mk n11), .int .i64 t11, .int .i64 c11, .int .i64 l11, .string (mk d11), .string (mk n12), .int .i64 t12, .int .i64 c12, .int .i64 l12, .string (mk d12)] 43)).alloc (.cells #[.string ⟨#[0]⟩, .slice (some ⟨W2.heap.size, 0, none⟩) 2 2, .slice (some ⟨w.heap.size, 0, none⟩) 1 1, .string ⟨#[1, 97, 0]⟩, .slice (some ⟨W8.heap.size, 0, none⟩) 6 6, .slice (some ⟨W2.heap.size + 1, 0, none⟩) 2 2, .string ⟨#[1, 98, 0]⟩, .slice (some ⟨W10.heap.size, 0, none⟩) 3 3, .slice (some ⟨W8.heap.size + 1, 0, none⟩) 1 1, .string ⟨#[1, 99, 1, 98, 0]⟩, .slice (some ⟨W12.heap.size, 0, none⟩) 2 2, .slice (some ⟨W10.heap.size + 1, 0, none⟩) 1 1] 50) = V := ⟨_, rfl⟩
  have hv := HM.out.push2 (.cells #[.string (mk n11), .int .i64 t11, .int .i64 c11, .int .i64 l11, .string (mk d11), .string (mk n12), .int .i64 t12, .int .i64 c12, .int .i64 l12, .string (mk d12)] 43) (.cells #[.string ⟨#[0]⟩, .slice (some ⟨W2.heap.size, 0, none⟩) 2 2, .slice (some ⟨w.heap.size, 0, none⟩) 1 1, .string ⟨#[1, 97, 0]⟩, .slice (some ⟨W8.heap.size, 0, none⟩) 6 6, .slice (some ⟨W2.heap.size + 1, 0, none⟩) 2 2, .string ⟨#[1, 98, 0]⟩, .slice (some ⟨W10.heap.size, 0, none⟩) 3 3, .slice (some ⟨W8.heap.size + 1, 0, none⟩) 1 1, .string ⟨#[1, 99, 1, 98, 0]⟩, .slice (some ⟨W12.heap.size, 0, none⟩) 2 2, .slice (some ⟨W10.heap.size + 1, 0, none⟩) 1 1] 50)
  rw [hV] at hv
  have gZ := (hv.at_ _ (.head _)).2
  have gr3 := (hv.at_ _ (.tail _ (.head _))).2
  have gs3 := (hv.at_ _ (.tail _ (.tail _ (.head _)))).2
  have gr2 := (hv.at_ _ (.tail _ (.tail _ (.tail _ (.head _))))).2
  have gs2 := (hv.at_ _ (.tail _ (.tail _ (.tail _ (.tail _ (.head _)))))).2
  have gr1 := (hv.at_ _ (.tail _ (.tail _ (.tail _ (.tail _ (.tail _ (.head _))))))).2
  have gs1 := (hv.at_ _ (.tail _ (.tail _ (.tail _ (.tail _ (.tail _ (.tail _ (.head _)))))))).2
  have gr0 := (hv.at_ _ (.tail _ (.tail _ (.tail _ (.tail _ (.tail _ (.tail _ (.tail _ (.head _))))))))).2
  have gs0 := (hv.at_ _ (.tail _ (.tail _ (.tail _ (.tail _ (.tail _ (.tail _ (.tail _ (.tail _ (.head _)))))))))).2
  have hgB := (hv.at_ _ (.head _)).1
  have hbV := hv.bl
  have hVs : V.heap.size = W12.heap.size + 1 + 1 := by rw [← hV]; simp
  have hz0 : ZnT V ⟨[0], some ⟨W2.heap.size, 0, none⟩, 2, [⟨n1, t1, c1, l1, d1⟩, ⟨n2, t2, c2, l2, d2⟩], some ⟨w.heap.size, 0, none⟩, 1, [([1, 114, 0], 1)]⟩ := ⟨slt_row (n := 2) (cs := encR [⟨n1, t1, c1, l1, d1⟩, ⟨n2, t2, c2, l2, d2⟩]) gr0 rfl (by decide), slt_row (n := 1) (cs := encV [([1, 114, 0], 1)]) gs0 rfl (by decide)⟩
  have hz1 : ZnT V ⟨[1, 97, 0], some ⟨W8.heap.size, 0, none⟩, 6, [⟨n3, t3, c3, l3, d3⟩, ⟨n4, t4, c4, l4, d4⟩, ⟨n5, t5, c5, l5, d5⟩, ⟨n6, t6, c6, l6, d6⟩, ⟨n7, t7, c7, l7, d7⟩, ⟨n8, t8, c8, l8, d8⟩], some ⟨W2.heap.size + 1, 0, none⟩, 2, [([2, 110, 115, 1, 97, 0], 2), ([2, 110, 115, 1, 98, 0], 3)]⟩ := ⟨slt_row (n := 6) (cs := encR [⟨n3, t3, c3, l3, d3⟩, ⟨n4, t4, c4, l4, d4⟩, ⟨n5, t5, c5, l5, d5⟩, ⟨n6, t6, c6, l6, d6⟩, ⟨n7, t7, c7, l7, d7⟩, ⟨n8, t8, c8, l8, d8⟩]) gr1 rfl (by decide), slt_row (n := 2) (cs := encV [([2, 110, 115, 1, 97, 0], 2), ([2, 110, 115, 1, 98, 0], 3)]) gs1 rfl (by decide)⟩
  have hz2 : ZnT V ⟨[1, 98, 0], some ⟨W10.heap.size, 0, none⟩, 3, [⟨n9, t9, c9, l9, d9⟩, ⟨n10, t10, c10, l10, d10⟩, ⟨[1, 109, 1, 98, 0], 15, 1, 60, [0, 5, 1, 119, 1, 98, 0]⟩], some ⟨W8.heap.size + 1, 0, none⟩, 1, [([2, 110, 115, 1, 98, 0], 3)]⟩ := ⟨slt_row (n := 3) (cs := encR [⟨n9, t9, c9, l9, d9⟩, ⟨n10, t10, c10, l10, d10⟩, ⟨[1, 109, 1, 98, 0], 15, 1, 60, [0, 5, 1, 119, 1, 98, 0]⟩]) gr2 rfl (by decide), slt_row (n := 1) (cs := encV [([2, 110, 115, 1, 98, 0], 3)]) gs2 rfl (by decide)⟩
  have hz3 : ZnT V ⟨[1, 99, 1, 98, 0], some ⟨W12.heap.size, 0, none⟩, 2, [⟨n11, t11, c11, l11, d11⟩, ⟨n12, t12, c12, l12, d12⟩], some ⟨W10.heap.size + 1, 0, none⟩, 1, [([2, 110, 115, 1, 97, 0], 2)]⟩ := ⟨slt_row (n := 2) (cs := encR [⟨n11, t11, c11, l11, d11⟩, ⟨n12, t12, c12, l12, d12⟩]) gr3 rfl (by decide), slt_row (n := 1) (cs := encV [([2, 110, 115, 1, 97, 0], 2)]) gs3 rfl (by decide)⟩
  clear gr0 gr1 gr2 gr3 gs0 gs2 gs3 hv HM
  have HZ0 := Go.Lib.hid hz0
  have HZ1 := Go.Lib.hid hz1
  have HZ2 := Go.Lib.hid hz2
  have HZ3 := Go.Lib.hid hz3
  have GZ := Go.Lib.hid gZ
  have HBV := Go.Lib.hid hbV
  have GS1 := Go.Lib.hid gs1
  have HVS := Go.Lib.hid hVs
  clear hz0 hz1 hz2 hz3 gZ hbV gs1 hVs
  obtain rfl | rfl | rfl | rfl : i = 0 ∨ i = 1 ∨ i = 2 ∨ i = 3 := by omega
  · go_wp2_with fail
    refine (HRD.out _).mono ?_; rintro e _ ⟨rfl, rfl⟩
    clear hV
    go_wp2_with fail
    go_ret
    exact ⟨W12.heap.size + 1, ⟨[0], some ⟨W2.heap.size, 0, none⟩, 2, [⟨n1, t1, c1, l1, d1⟩, ⟨n2, t2, c2, l2, d2⟩], some ⟨w.heap.size, 0, none⟩, 1, [([1, 114, 0], 1)]⟩, ⟨[1, 97, 0], some ⟨W8.heap.size, 0, none⟩, 6, [⟨n3, t3, c3, l3, d3⟩, ⟨n4, t4, c4, l4, d4⟩, ⟨n5, t5, c5, l5, d5⟩, ⟨n6, t6, c6, l6, d6⟩, ⟨n7, t7, c7, l7, d7⟩, ⟨n8, t8, c8, l8, d8⟩], some ⟨W2.heap.size + 1, 0, none⟩, 2, [([2, 110, 115, 1, 97, 0], 2), ([2, 110, 115, 1, 98, 0], 3)]⟩, ⟨[1, 98, 0], some ⟨W10.heap.size, 0, none⟩, 3, [⟨n9, t9, c9, l9, d9⟩, ⟨n10, t10, c10, l10, d10⟩, ⟨[1, 109, 1, 98, 0], 15, 1, 60, [0, 5, 1, 119, 1, 98, 0]⟩], some ⟨W8.heap.size + 1, 0, none⟩, 1, [([2, 110, 115, 1, 98, 0], 3)]⟩, ⟨[1, 99, 1, 98, 0], some ⟨W12.heap.size, 0, none⟩, 2, [⟨n11, t11, c11, l11, d11⟩, ⟨n12, t12, c12, l12, d12⟩], some ⟨W10.heap.size + 1, 0, none⟩, 1, [([2, 110, 115, 1, 97, 0], 2)]⟩, rfl, by simp only [zonesZ, za0, za1, za2, za3, Zn.p, HR1.out, HR2.out, HR3.out, HR4.out, HR5.out, HR6.out, HR7.out, HR8.out, HR9.out, HR10.out, HR11.out, HR12.out, HR13.out], ⟨GZ.out, hgB, HZ0.out, HZ1.out, HZ2.out, HZ3.out⟩, rfl, rfl, fun _ => rfl, HBV.out⟩
  · have hVs := HVS.out
    obtain ⟨V1, hV1⟩ : ∃ V1, V.alloc (.cells #[.string ⟨#[1, 119, 1, 98, 0]⟩, .int .i64 30] 55) = V1 := ⟨_, rfl⟩
    have hal : Below V.heap.size V V1 := by rw [← hV1]; exact (Below.refl _ V).alloc (Nat.le_refl _) _
    have g1 := heap_later hal GZ.out
    have k1 : V1.cell? ⟨W12.heap.size + 1, 11, none⟩ = some (.slice (some ⟨W10.heap.size + 1, 0, none⟩) 1 1) := row_cell g1 11 _ rfl
    have f1 := frozen_of_row _ (W12.heap.size + 1) 11 _ _ g1
    have g2 := heap_setCell_same _ (W12.heap.size + 1) 11 _ _ (.slice (some ⟨V.heap.size, 0, none⟩) 1 1) g1
    have hn : SlT V1 55 2 (.slice (some ⟨V.heap.size, 0, none⟩) 1 1) 1 (encV [([1, 119, 1, 98, 0], 30)]) := by rw [← hV1]; exact slt_new V 2 1 55 (encV [([1, 119, 1, 98, 0], 30)]) rfl (by decide)
    have hn2 := hn.setCell (i := 11) (u := .slice (some ⟨V.heap.size, 0, none⟩) 1 1) g1 (by decide)
    have y0 := (HZ0.out.below hal).setCell (i := 11) (u := .slice (some ⟨V.heap.size, 0, none⟩) 1 1) g1
    have y1 := (HZ1.out.below hal).setCell (i := 11) (u := .slice (some ⟨V.heap.size, 0, none⟩) 1 1) g1
    have y2 := (HZ2.out.below hal).setCell (i := 11) (u := .slice (some ⟨V.heap.size, 0, none⟩) 1 1) g1
    have y3 := (HZ3.out.below hal).setCell (i := 11) (u := .slice (some ⟨V.heap.size, 0, none⟩) 1 1) g1
    have hbe := (HBV.out.trans (hal.mono (by omega))).setCell (p := ⟨W12.heap.size + 1, 11, none⟩) hgB (.slice (some ⟨V.heap.size, 0, none⟩) 1 1)
    clear hal g1 hn hVs
    have G2 := Go.Lib.hid g2
    have HN2 := Go.Lib.hid hn2
    have Y0 := Go.Lib.hid y0
    have Y1 := Go.Lib.hid y1
    have Y2 := Go.Lib.hid y2
    have Y3 := Go.Lib.hid y3
    have HBE := Go.Lib.hid hbe
    clear g2 hn2 y0 y1 y2 y3 hbe
    go_wp2_with fail
    refine (HRD.out _).mono ?_; rintro e _ ⟨rfl, rfl⟩
    clear hV
    go_wp2_with fail
    go_ret
    exact ⟨W12.heap.size + 1, ⟨[0], some ⟨W2.heap.size, 0, none⟩, 2, [⟨n1, t1, c1, l1, d1⟩, ⟨n2, t2, c2, l2, d2⟩], some ⟨w.heap.size, 0, none⟩, 1, [([1, 114, 0], 1)]⟩, ⟨[1, 97, 0], some ⟨W8.heap.size, 0, none⟩, 6, [⟨n3, t3, c3, l3, d3⟩, ⟨n4, t4, c4, l4, d4⟩, ⟨n5, t5, c5, l5, d5⟩, ⟨n6, t6, c6, l6, d6⟩, ⟨n7, t7, c7, l7, d7⟩, ⟨n8, t8, c8, l8, d8⟩], some ⟨W2.heap.size + 1, 0, none⟩, 2, [([2, 110, 115, 1, 97, 0], 2), ([2, 110, 115, 1, 98, 0], 3)]⟩, ⟨[1, 98, 0], some ⟨W10.heap.size, 0, none⟩, 3, [⟨n9, t9, c9, l9, d9⟩, ⟨n10, t10, c10, l10, d10⟩, ⟨[1, 109, 1, 98, 0], 15, 1, 60, [0, 5, 1, 119, 1, 98, 0]⟩], some ⟨W8.heap.size + 1, 0, none⟩, 1, [([2, 110, 115, 1, 98, 0], 3)]⟩, ⟨[1, 99, 1, 98, 0], some ⟨W12.heap.size, 0, none⟩, 2, [⟨n11, t11, c11, l11, d11⟩, ⟨n12, t12, c12, l12, d12⟩], some ⟨V.heap.size, 0, none⟩, 1, [([1, 119, 1, 98, 0], 30)]⟩, rfl, by simp only [zonesZ, za0, za1, za2, za3, Zn.p, HR1.out, HR2.out, HR3.out, HR4.out, HR5.out, HR6.out, HR7.out, HR8.out, HR9.out, HR10.out, HR11.out, HR12.out, HR13.out], ⟨G2.out, hgB, Y0.out, Y1.out, Y2.out, ⟨Y3.out.rs, HN2.out⟩⟩, rfl, rfl, fun _ => rfl, HBE.out⟩
  · have k5 : V.cell? ⟨W12.heap.size + 1, 5, none⟩ = some (.slice (some ⟨W2.heap.size + 1, 0, none⟩) 2 2) := row_cell GZ.out 5 _ rfl
    have f5 := frozen_of_row V (W12.heap.size + 1) 5 _ _ GZ.out
    have ht : SlT V 55 2 (.slice (some ⟨W2.heap.size + 1, 2, none⟩) 1 1) 1 (encV [([2, 110, 115, 1, 98, 0], 3)]) := slt_of_row (n := 1) (cs := encV [([2, 110, 115, 1, 97, 0], 2), ([2, 110, 115, 1, 98, 0], 3)]) GS1.out 2 (encV [([2, 110, 115, 1, 98, 0], 3)]) (fun j hj => by rcases (show j = 0 ∨ j = 1 by omega) with rfl | rfl <;> rfl) rfl (by decide)
    obtain ⟨V1, hV1⟩ : ∃ V1, V.setCell ⟨W12.heap.size + 1, 5, none⟩ (.slice (some ⟨W2.heap.size + 1, 2, none⟩) 1 1) = V1 := ⟨_, rfl⟩
    have g1 := heap_setCell_same V (W12.heap.size + 1) 5 _ _ (.slice (some ⟨W2.heap.size + 1, 2, none⟩) 1 1) GZ.out
    have ht1 := ht.setCell (i := 5) (u := .slice (some ⟨W2.heap.size + 1, 2, none⟩) 1 1) GZ.out (by decide)
    have x0 := HZ0.out.setCell (i := 5) (u := .slice (some ⟨W2.heap.size + 1, 2, none⟩) 1 1) GZ.out
    have x1 := HZ1.out.setCell (i := 5) (u := .slice (some ⟨W2.heap.size + 1, 2, none⟩) 1 1) GZ.out
    have x2 := HZ2.out.setCell (i := 5) (u := .slice (some ⟨W2.heap.size + 1, 2, none⟩) 1 1) GZ.out
    have x3 := HZ3.out.setCell (i := 5) (u := .slice (some ⟨W2.heap.size + 1, 2, none⟩) 1 1) GZ.out
    have hb1 := HBV.out.setCell (p := ⟨W12.heap.size + 1, 5, none⟩) hgB (.slice (some ⟨W2.heap.size + 1, 2, none⟩) 1 1)
    have hs1 : V1.heap.size = V.heap.size := by rw [← hV1]; simp
    rw [hV1] at g1 ht1 x0 x1 x2 x3 hb1
    have k11 : V1.cell? ⟨W12.heap.size + 1, 11, none⟩ = some (.slice (some ⟨W10.heap.size + 1, 0, none⟩) 1 1) := row_cell g1 11 _ rfl
    have hVs := HVS.out
    have hal : Below V1.heap.size V1 (V1.alloc (.cells #[.string ⟨#[1, 114, 0]⟩, .int .i64 1] 55)) := (Below.refl _ V1).alloc (Nat.le_refl _) _
    have hnc := new_cells V1 [.string ⟨#[1, 114, 0]⟩, .int .i64 1] 55
    have g2 := heap_later hal g1
    have ht2 := ht1.below hal
    have y0 := x0.below hal
    have y1 := x1.below hal
    have y2 := x2.below hal
    have y3 := x3.below hal
    have hb2 := hb1.trans (hal.mono (by omega))
    have hs2 : w.heap.size ≤ (V1.alloc (.cells #[.string ⟨#[1, 114, 0]⟩, .int .i64 1] 55)).heap.size := hb2.size
    clear x0 x1 x2 x3 g1 ht ht1 hb1 hal hs1 hVs
    have G2 := Go.Lib.hid g2
    have HT2 := Go.Lib.hid ht2
    have Y0 := Go.Lib.hid y0
    have Y1 := Go.Lib.hid y1
    have Y2 := Go.Lib.hid y2
    have Y3 := Go.Lib.hid y3
    have HB2 := Go.Lib.hid hb2
    have HNC := Go.Lib.hid hnc
    clear g2 ht2 y0 y1 y2 y3 hb2 hnc
    go_wp2_with fail
    refine (HRD.out _).mono ?_; rintro e _ ⟨rfl, rfl⟩
    clear hV
    go_wp2_with (at_builtin; go_loud (refine wpList_appF eiSv (.tmp 58) (.tmp 60) rfl rfl (m := 1) rfl rfl Y3.out.sv.1 (by decide) (by decide) (news := [.string ⟨#[1, 114, 0]⟩, .int .i64 1]) rfl HNC.out (by decide) (by decide) ?_; intro v7 W7 own7 hx7; obtain ⟨a7, q7, rfl, _, _⟩ := (SlC.of_owns own7).slice; have g7 := heap_later hx7 G2.out; have k7 : W7.cell? ⟨W12.heap.size + 1, 11, none⟩ = some (.slice (some ⟨W10.heap.size + 1, 0, none⟩) 1 1) := row_cell g7 11 _ rfl; have f7 := frozen_of_row W7 (W12.heap.size + 1) 11 _ _ g7; have G7 := Go.Lib.hid g7; have O7 := Go.Lib.hid own7; have HX7 := Go.Lib.hid hx7; clear g7 own7 hx7))
    have g8 := heap_setCell_same W7 (W12.heap.size + 1) 11 _ _ (.slice a7 (1 + 1) q7) G7.out
    have n8 := SlT.of_owns (owns_setCellT O7.out (i := 11) G7.out (by decide) (.slice a7 (1 + 1) q7))
    have t8 := (HT2.out.below HX7.out).setCell (i := 11) (u := .slice a7 (1 + 1) q7) G7.out (by decide)
    have z0 := (Y0.out.below HX7.out).setCell (i := 11) (u := .slice a7 (1 + 1) q7) G7.out
    have z1 := (Y1.out.below HX7.out).setCell (i := 11) (u := .slice a7 (1 + 1) q7) G7.out
    have z2 := (Y2.out.below HX7.out).setCell (i := 11) (u := .slice a7 (1 + 1) q7) G7.out
    have z3 := (Y3.out.below HX7.out).setCell (i := 11) (u := .slice a7 (1 + 1) q7) G7.out
    have hb8 := (HB2.out.trans (HX7.out.mono hs2)).setCell (p := ⟨W12.heap.size + 1, 11, none⟩) hgB (.slice a7 (1 + 1) q7)
    have G8 := Go.Lib.hid g8
    have N8 := Go.Lib.hid n8
    have T8 := Go.Lib.hid t8
    have Z0 := Go.Lib.hid z0
    have Z1 := Go.Lib.hid z1
    have Z2 := Go.Lib.hid z2
    have Z3 := Go.Lib.hid z3
    have HB8 := Go.Lib.hid hb8
    clear g8 n8 t8 z0 z1 z2 z3 hb8
    go_ret
    exact ⟨W12.heap.size + 1, ⟨[0], some ⟨W2.heap.size, 0, none⟩, 2, [⟨n1, t1, c1, l1, d1⟩, ⟨n2, t2, c2, l2, d2⟩], some ⟨w.heap.size, 0, none⟩, 1, [([1, 114, 0], 1)]⟩, ⟨[1, 97, 0], some ⟨W8.heap.size, 0, none⟩, 6, [⟨n3, t3, c3, l3, d3⟩, ⟨n4, t4, c4, l4, d4⟩, ⟨n5, t5, c5, l5, d5⟩, ⟨n6, t6, c6, l6, d6⟩, ⟨n7, t7, c7, l7, d7⟩, ⟨n8, t8, c8, l8, d8⟩], some ⟨W2.heap.size + 1, 2, none⟩, 1, [([2, 110, 115, 1, 98, 0], 3)]⟩, ⟨[1, 98, 0], some ⟨W10.heap.size, 0, none⟩, 3, [⟨n9, t9, c9, l9, d9⟩, ⟨n10, t10, c10, l10, d10⟩, ⟨[1, 109, 1, 98, 0], 15, 1, 60, [0, 5, 1, 119, 1, 98, 0]⟩], some ⟨W8.heap.size + 1, 0, none⟩, 1, [([2, 110, 115, 1, 98, 0], 3)]⟩, ⟨[1, 99, 1, 98, 0], some ⟨W12.heap.size, 0, none⟩, 2, [⟨n11, t11, c11, l11, d11⟩, ⟨n12, t12, c12, l12, d12⟩], a7, q7, [([2, 110, 115, 1, 97, 0], 2), ([1, 114, 0], 1)]⟩, rfl, by simp only [zonesZ, za0, za1, za2, za3, Zn.p, HR1.out, HR2.out, HR3.out, HR4.out, HR5.out, HR6.out, HR7.out, HR8.out, HR9.out, HR10.out, HR11.out, HR12.out, HR13.out], ⟨G8.out, hgB, Z0.out, ⟨Z1.out.rs, T8.out⟩, Z2.out, ⟨Z3.out.rs, N8.out⟩⟩, rfl, rfl, fun _ => rfl, HB8.out⟩
  · have hne : Nonempty (Subtype (KeepB (W12.heap.size + 1) V)) := ⟨⟨V, rfl⟩⟩
    have D7 : ∀ y : Subtype (KeepB (W12.heap.size + 1) V), y.1.cell? ⟨W12.heap.size + 1, 7, none⟩ = some (.slice (some ⟨W10.heap.size, 0, none⟩) 3 3) := fun y => row_cell (y.2.trans GZ.out) 7 _ rfl
    go_wp2_with fail
    refine (HRD.out _).mono ?_; rintro e _ ⟨rfl, rfl⟩
    clear hV
    go_wp2_with fail
    refine Go.Mix.wp_region_mixT (Es := [5, 6, 7]) 10 (KeepB (W12.heap.size + 1) V) mixed (by kernel_rfl) rfl ?_
    iterate 5 (refine Go.Mix.mixT_step rfl (fun K hK => ?_); have HKK := Go.Lib.hid hK; clear hK; go_simp; refine HKK.out _ _ ?_; clear HKK K)
    refine Go.Mix.mixT_eff rfl (fun K hK => ?_)
    have HKK := Go.Lib.hid hK
    clear hK
    go_simp
    refine (HC13.out V.drew).mono ?_; rintro e W5 ⟨rfl, hx5⟩
    have hb5 : Below V.heap.size V W5 := (Below.refl _ V).drew.trans hx5
    have hVs := HVS.out
    have k5 : KeepB (W12.heap.size + 1) V W5 := hb5.block _ (by omega)
    clear hx5 hVs
    have HB5 := Go.Lib.hid hb5
    have HK5 := Go.Lib.hid k5
    clear hb5 k5
    go_simp
    refine HKK.out _ _ HK5.out ?_
    clear HKK K
    refine Go.Mix.mixT_eff rfl (fun K hK => ?_)
    have HKK := Go.Lib.hid hK
    clear hK
    go_simp
    have hal : Below W5.heap.size W5 (W5.alloc (.cells #[.string (mk n13), .int .i64 t13, .int .i64 c13, .int .i64 l13, .string (mk d13)] 43)) := (Below.refl _ W5).alloc (Nat.le_refl _) _
    have hb6 := HB5.out.trans (hal.mono HB5.out.size)
    have hVs := HVS.out
    have k6 : KeepB (W12.heap.size + 1) V (W5.alloc (.cells #[.string (mk n13), .int .i64 t13, .int .i64 c13, .int .i64 l13, .string (mk d13)] 43)) := hb6.block _ (by omega)
    have hnc := new_cells W5 [.string (mk n13), .int .i64 t13, .int .i64 c13, .int .i64 l13, .string (mk d13)] 43
    have HB6 := Go.Lib.hid hb6
    have HK6 := Go.Lib.hid k6
    have HNC := Go.Lib.hid hnc
    clear hb6 k6 hnc
    clear hal hVs
    refine HKK.out _ _ HK6.out ?_
    clear HKK K
    refine mixT_appF eiRR (.tmp 70) (.tmp 72) rfl rfl rfl (m := 1) rfl rfl (HZ2.out.below HB6.out).rs.1 (by decide) (by decide) (news := [.string (mk n13), .int .i64 t13, .int .i64 c13, .int .i64 l13, .string (mk d13)]) rfl HNC.out (by decide) (by decide) ?_
    intro v7 W7 own7 hx7
    obtain ⟨a7, q7, rfl, _, _⟩ := (SlC.of_owns own7).slice
    have hb7 := HB6.out.trans (hx7.mono HB6.out.size)
    have hVs := HVS.out
    have k7 : KeepB (W12.heap.size + 1) V W7 := hb7.block _ (by omega)
    refine ⟨k7, ?_⟩
    have g7 := heap_later hb7 GZ.out
    have c7' : W7.cell? ⟨W12.heap.size + 1, 7, none⟩ = some (.slice (some ⟨W10.heap.size, 0, none⟩) 3 3) := row_cell g7 7 _ rfl
    have f7 := frozen_of_row W7 (W12.heap.size + 1) 7 _ _ g7
    clear k7 hVs
    have O7 := Go.Lib.hid own7
    have HB7 := Go.Lib.hid hb7
    have G7 := Go.Lib.hid g7
    clear own7 hb7 g7
    clear hx7
    iterate 2 (refine Go.Mix.mixT_step rfl (fun K hK => ?_); have HKK := Go.Lib.hid hK; clear hK; go_simp; refine HKK.out _ _ ?_; clear HKK K)
    refine Go.Mix.mixT_last rfl (fun K hK => ?_)
    have HKK := Go.Lib.hid hK
    clear hK
    go_simp
    refine HKK.out _ _ ?_
    clear HKK K D7 hne
    have g8 := heap_setCell_same W7 (W12.heap.size + 1) 7 _ _ (.slice a7 (3 + 1) q7) G7.out
    have n8 := SlT.of_owns (owns_setCellT O7.out (i := 7) G7.out (by decide) (.slice a7 (3 + 1) q7))
    have z0 := (HZ0.out.below HB7.out).setCell (i := 7) (u := .slice a7 (3 + 1) q7) G7.out
    have z1 := (HZ1.out.below HB7.out).setCell (i := 7) (u := .slice a7 (3 + 1) q7) G7.out
    have z2 := (HZ2.out.below HB7.out).setCell (i := 7) (u := .slice a7 (3 + 1) q7) G7.out
    have z3 := (HZ3.out.below HB7.out).setCell (i := 7) (u := .slice a7 (3 + 1) q7) G7.out
    have hb8 := (HBV.out.trans (HB7.out.mono (by have := HVS.out; omega))).setCell (p := ⟨W12.heap.size + 1, 7, none⟩) hgB (.slice a7 (3 + 1) q7)
    clear c7' f7
    have G8 := Go.Lib.hid g8
    have N8 := Go.Lib.hid n8
    have Z0 := Go.Lib.hid z0
    have Z1 := Go.Lib.hid z1
    have Z2 := Go.Lib.hid z2
    have Z3 := Go.Lib.hid z3
    have HB8 := Go.Lib.hid hb8
    clear g8 n8 z0 z1 z2 z3 hb8
    go_wp2_with fail
    go_ret
    exact ⟨W12.heap.size + 1, ⟨[0], some ⟨W2.heap.size, 0, none⟩, 2, [⟨n1, t1, c1, l1, d1⟩, ⟨n2, t2, c2, l2, d2⟩], some ⟨w.heap.size, 0, none⟩, 1, [([1, 114, 0], 1)]⟩, ⟨[1, 97, 0], some ⟨W8.heap.size, 0, none⟩, 6, [⟨n3, t3, c3, l3, d3⟩, ⟨n4, t4, c4, l4, d4⟩, ⟨n5, t5, c5, l5, d5⟩, ⟨n6, t6, c6, l6, d6⟩, ⟨n7, t7, c7, l7, d7⟩, ⟨n8, t8, c8, l8, d8⟩], some ⟨W2.heap.size + 1, 0, none⟩, 2, [([2, 110, 115, 1, 97, 0], 2), ([2, 110, 115, 1, 98, 0], 3)]⟩, ⟨[1, 98, 0], a7, q7, [⟨n9, t9, c9, l9, d9⟩, ⟨n10, t10, c10, l10, d10⟩, ⟨[1, 109, 1, 98, 0], 15, 1, 60, [0, 5, 1, 119, 1, 98, 0]⟩, ⟨n13, t13, c13, l13, d13⟩], some ⟨W8.heap.size + 1, 0, none⟩, 1, [([2, 110, 115, 1, 98, 0], 3)]⟩, ⟨[1, 99, 1, 98, 0], some ⟨W12.heap.size, 0, none⟩, 2, [⟨n11, t11, c11, l11, d11⟩, ⟨n12, t12, c12, l12, d12⟩], some ⟨W10.heap.size + 1, 0, none⟩, 1, [([2, 110, 115, 1, 97, 0], 2)]⟩, rfl, by simp only [zonesZ, za0, za1, za2, za3, Zn.p, List.cons_append, List.nil_append, HR1.out, HR2.out, HR3.out, HR4.out, HR5.out, HR6.out, HR7.out, HR8.out, HR9.out, HR10.out, HR11.out, HR12.out, HR13.out], ⟨G8.out, hgB, Z0.out, Z1.out, ⟨N8.out, Z2.out.sv⟩, Z3.out⟩, rfl, rfl, (fun h => by cases h), HB8.out⟩
end Go.Proofs.YtkpcmnckdappnaaGreat

/- Tree: the laws, in plain words: found by the kernel, zone by zone, question by question. -/
namespace Go.Proofs.YtkpcmnckdappnaaGreat
open Go.Lib Go.Sort
set_option maxRecDepth 100000
set_option linter.unusedVariables false

/-- from the root on, so many steps -/
def goodG (T : List Zp) (n : List UInt8) (t : Int) : Nat → List UInt8 → Bool
  | 0, _ => false
  | f + 1, zone =>
    let m := serveP T zone n t
    if m.auth then
      let b := bestP T n
      let x := lookP T n t
      b.2 && (decide (b.1 = zone) && (decide (x.1 = 2) || (decide (m.an.length ≤ x.2.length) && (decide (m.an = x.2.take m.an.length) && (decide (m.code = x.1) || decide (m.code = 0))))))
    else
      let nx := (m.sv.getD 0 rZ).name
      decide (m.code = 0) && (decide (0 < m.sv.length) && (decide (m.an.length = 0) && (Nm.underN nx zone && (!Nm.sameN nx zone && (Nm.underN n nx && goodG T n t f (Nm.foldN nx))))))
theorem leads0 : ∀ a, a < 12 → ∀ b, b < 9 → goodG (zonesZ 0) (askN12.getD a []) (askT9.getD b 0) 6 [0] = true := by decide +kernel
theorem new_ok : ∀ k, k < 4 → newP (zonesZ k) = some (zonesZ k) := by decide +kernel
end Go.Proofs.YtkpcmnckdappnaaGreat

/- Tree: the contract of New. -/
namespace Go.Proofs.YtkpcmnckdappnaaGreat
open Go.RowKit Go.Sort Go.Lib
set_option maxRecDepth 100000
set_option linter.unusedVariables false
set_option linter.unusedSimpArgs false

/-- a tree while it is made -/
structure NW (tb pb XB : Nat) (v : Value) (T : List Zn) (w : World) : Prop where
  bx : w.heap[tb]? = some (.cells #[v] 61 (0, 0))
  px : w.heap[pb]? = some (.cells #[.pointer (some ⟨tb, 0, none⟩)] 22 (0, 0))
  own : w.ownsRow XB 50 3 v T.length (T.flatMap znC)
  zs : ∀ z ∈ T, ZnOw XB w z
  ok : ∀ z ∈ T, ZnOk z
theorem NW.zns {tb pb XB : Nat} {v : Value} {T : List Zn} {w : World} (h : NW tb pb XB v T w) : Zns w v T := ⟨SlC.of_owns h.own, fun z hz => (h.zs z hz).lies⟩
theorem NW.tro {tb pb XB : Nat} {v : Value} {T : List Zn} {w : World} (h : NW tb pb XB v T w) (hl : T.length ≤ 100) : TRo tb T w := by
  obtain ⟨a, c, rfl, _, _⟩ := (SlC.of_owns h.own).slice
  exact ⟨⟨a, c, h.bx, h.zns⟩, h.ok, hl⟩
theorem NW.below {tb pb XB : Nat} {v : Value} {T : List Zn} {w w' : World} (h : NW tb pb XB v T w) (hb : Below w.heap.size w w') : NW tb pb XB v T w' :=
  ⟨heap_later hb h.bx, heap_later hb h.px, owns_below h.own hb, fun z hz => (h.zs z hz).below hb, h.ok⟩
def RetT (w : World) (o : Option (List Zp)) (e : Ending) (w' : World) : Prop := Below w.heap.size w w' ∧ match o with
  | none => e = .returned (.tuple #[.pointer none, .int .i64 1])
  | some T => ∃ tb T', e = .returned (.tuple #[.pointer (some ⟨tb, 0, none⟩), .int .i64 0]) ∧ T'.map Zn.p = T ∧ TRo tb T' w'
theorem addP_cons (T : List Zp) (z : Zp) (l : List Zp) : addP T (z :: l) = if !Nm.valid z.nm || ((findP T z.nm).isSome || decide (T.length = 20)) then none else addP (T ++ [z]) l := by
  conv => lhs; unfold addP
theorem addP_nil (T : List Zp) : addP T [] = some T := by unfold addP; rfl
theorem newP_none {l : List Zp} (h : addP [] l = none) : newP l = none := by unfold newP; rw [h]
theorem newP_some {l T : List Zp} (h : addP [] l = some T) : newP l = if (findP T [0]).isNone || T.any (fun z => !mayP T z) then none else some T := by unfold newP; rw [h]
theorem ZnOk.of_p {z z' : Zn} (h : ZnOk z) (e : z'.p = z.p) : ZnOk z' := by
  have e1 : z'.nm = z.nm := congrArg Zp.nm e
  have e2 : z'.rs = z.rs := congrArg Zp.rs e
  have e3 : z'.sv = z.sv := congrArg Zp.sv e
  exact ⟨by rw [e1]; exact h.nm, by rw [e2]; exact h.rs, by rw [e3]; exact h.sv, by rw [e2]; exact h.l1, by rw [e3]; exact h.l2⟩
theorem new1_any (tb pb : Nat) (T : List Zn) (z : Zn) (w : World) (ht : TRo tb T w) (hz : ZnAt w z) (hzo : ZnOk z) (hp : w.heap[pb]? = some (.cells #[.pointer (some ⟨tb, 0, none⟩)] 22 (0, 0))) :
    Calls Tryz.prog 30 #[znV z, .pointer (some ⟨pb, 0, none⟩)] w fun e w' => e = .returned (.bool (!mayP (T.map Zn.p) z.p)) ∧ Below w.heap.size w w' := by
  obtain ⟨Y, hY⟩ : ∃ Y, w.alloc (.cells #[.string (mk z.nm), .slice z.ra z.rs.length z.rc, .slice z.sa z.sv.length z.sc] 50) = Y := ⟨_, rfl⟩
  have gY : Y.heap[w.heap.size]? = some (.cells #[.string (mk z.nm), .slice z.ra z.rs.length z.rc, .slice z.sa z.sv.length z.sc] 50 (0, 0)) := by rw [← hY]; exact World.alloc_heap_new _ _
  have hbY : Below w.heap.size w Y := by rw [← hY]; exact (Below.refl _ w).alloc (Nat.le_refl _) _
  have k0 : Y.cell? ⟨w.heap.size, 0, none⟩ = some (.string (mk z.nm)) := row_cell gY 0 _ rfl
  have k1 : Y.cell? ⟨w.heap.size, 1, none⟩ = some (.slice z.ra z.rs.length z.rc) := row_cell gY 1 _ rfl
  have k2 : Y.cell? ⟨w.heap.size, 2, none⟩ = some (.slice z.sa z.sv.length z.sc) := row_cell gY 2 _ rfl
  have k3 : Y.cell? ⟨pb, 0, none⟩ = some (.pointer (some ⟨tb, 0, none⟩)) := row_cell (heap_later hbY hp) 0 _ rfl
  have hm := may_any tb T z Y (ht.below hbY) (hz.below hbY) hzo
  generalize mayP (T.map Zn.p) z.p = q at *
  clear ht hz hzo hp gY
  obtain ⟨zn, ra, rc, rs, sa, sc, sv⟩ := z
  simp only at hY k0 k1 k2
  show Calls Tryz.prog 30 #[.agg #[.string (mk zn), .slice ra rs.length rc, .slice sa sv.length sc], .pointer (some ⟨pb, 0, none⟩)] w _
  simp only [znV] at hm
  have HBY := Go.Lib.hid hbY
  have HM := Go.Lib.hid hm
  clear hbY hm
  go_enter Tryz.func30, Tryz.ntmps30
  go_wp2_with fail
  refine HM.out.mono ?_; rintro e wb ⟨rfl, hx⟩
  have HX := Go.Lib.hid hx
  clear hx
  go_wp2_with fail
  go_ret
  exact ⟨rfl, HBY.out.trans (HX.out.mono HBY.out.size)⟩
/-- what region 7 leaves as it lies -/
structure CN (tb pb yb : Nat) (Y W : World) : Prop where
  t : W.heap[tb]? = Y.heap[tb]?
  p : W.heap[pb]? = Y.heap[pb]?
  y : W.heap[yb]? = Y.heap[yb]?
set_option maxHeartbeats 16000000 in
theorem New_any (l : List Zn) (a : Option Addr) (c : Nat) (w : World) (hl : Zns w (.slice a l.length c) l) (hok : ∀ z ∈ l, ZnOk z) (hn : l.length ≤ 1000) :
    Calls Tryz.prog 7 #[.slice a l.length c] w (RetT w (newP (l.map Zn.p))) := by
  have mixed : Tryz.prog.follows .mixedOrders = true := by kernel_rfl
  obtain ⟨X1, hX1⟩ : ∃ X, w.alloc (.cells #[.slice none 0 0] 61) = X := ⟨_, rfl⟩
  obtain ⟨X, hX⟩ : ∃ X, X1.alloc (.cells #[.pointer (some ⟨w.heap.size, 0, none⟩)] 22) = X := ⟨_, rfl⟩
  have g1 : X1.heap[w.heap.size]? = some (.cells #[.slice none 0 0] 61 (0, 0)) := by rw [← hX1]; exact World.alloc_heap_new _ _
  have b1 : Below w.heap.size w X1 := by rw [← hX1]; exact (Below.refl _ w).alloc (Nat.le_refl _) _
  have s1 : X1.heap.size = w.heap.size + 1 := by rw [← hX1]; simp
  have g2 : X.heap[X1.heap.size]? = some (.cells #[.pointer (some ⟨w.heap.size, 0, none⟩)] 22 (0, 0)) := by rw [← hX]; exact World.alloc_heap_new _ _
  have b2 : Below X1.heap.size X1 X := by rw [← hX]; exact (Below.refl _ X1).alloc (Nat.le_refl _) _
  have s2 : X.heap.size = w.heap.size + 2 := by rw [← hX]; simp [s1]
  have g1' := heap_later b2 g1
  have hbX := b1.trans (b2.mono b1.size)
  have hl0 : NW w.heap.size X1.heap.size X.heap.size (.slice none 0 0) [] X := ⟨g1', g2, World.ownsRow_nil _ _ _ _, fun z h => by simp at h, fun z h => by simp at h⟩
  have hnone := newP_none (l := l.map Zn.p)
  have hsome := fun T => newP_some (l := l.map Zn.p) (T := T)
  generalize newP (l.map Zn.p) = R at *
  have hA0 : addP (([] : List Zn).map Zn.p) ((l.drop 0).map Zn.p) = addP [] (l.map Zn.p) := rfl
  generalize addP [] (l.map Zn.p) = A at *
  generalize hN : l.length = N at *
  clear g1 b1 g2 b2 g1'
  have hlA := hl
  have HL := Go.Lib.hid hl
  have HOK := Go.Lib.hid hok
  have HL0 := Go.Lib.hid hl0
  have HNO := Go.Lib.hid hnone
  have HYES := Go.Lib.hid hsome
  have HBX := Go.Lib.hid hbX
  have HA0 := Go.Lib.hid hA0
  have HN := Go.Lib.hid hN
  have HS1 := Go.Lib.hid s1
  have HS2 := Go.Lib.hid s2
  clear hl hok hl0 hnone hsome hbX hA0 hN s1 s2
  go_enter Tryz.func7, Tryz.ntmps7
  go_wp2_with fail
  clear hlA
  go_loopw [11] (fun i wr => ∃ (k : Nat) (T : List Zn) (v : Value), i = .int .i64 k ∧ k ≤ N ∧ addP (T.map Zn.p) ((l.drop k).map Zn.p) = A ∧ T.length ≤ 20 ∧ NW w.heap.size X1.heap.size X.heap.size v T wr ∧ Below w.heap.size w wr) (fun i _ => N - (intOf i).toNat)
  case atStart => exact ⟨0, [], _, rfl, Nat.zero_le _, HA0.out, Nat.zero_le _, HL0.out, HBX.out⟩
  case round =>
    clear HA0 HL0 hX hX1
    obtain ⟨k, T, v, rfl, hk, hA, hT, hnw, hbr⟩ := hrel
    have hwr : X.heap.size ≤ wr.heap.size := by
      have h1 := (Array.getElem?_eq_some_iff.1 hnw.px).1
      have h2 := HS1.out
      have h3 := HS2.out
      omega
    have hpl : X1.heap.size < wr.heap.size := (Array.getElem?_eq_some_iff.1 hnw.px).1
    have htl : w.heap.size < wr.heap.size := (Array.getElem?_eq_some_iff.1 hnw.bx).1
    obtain ⟨av, cv, rfl, _, _⟩ := (SlC.of_owns hnw.own).slice
    have hog : ∀ q, q = w.heap.size ∨ q = X1.heap.size ∨ q = wr.heap.size → some q ≠ (Value.slice av T.length cv).ownBlock := by
      intro q hq e
      have h1 := HS1.out
      have h2 := HS2.out
      rcases hnw.own.2 with ⟨hv, _⟩ | ⟨g, cap, cur, hv, hg, hgh, _⟩
      · simp only [Value.slice.injEq] at hv
        obtain ⟨rfl, _, _⟩ := hv
        simp [Value.ownBlock] at e
      · have hgl := (Array.getElem?_eq_some_iff.1 hgh).1
        simp only [Value.slice.injEq] at hv
        obtain ⟨rfl, _, _⟩ := hv
        simp only [Value.ownBlock, Option.some.injEq] at e
        rcases hq with hq | hq | hq <;> omega
    by_cases hlt : k < N
    · have hlw : Zns wr (.slice a l.length c) l := by rw [HN.out]; exact HL.out.below (hbr.mono (Nat.le_refl _))
      obtain ⟨b, off, rfl, hzp⟩ := Zns.place hlw (k := k) (by rw [HN.out]; exact hlt)
      have hmem := zn_mem (l := l) (k := k) (by rw [HN.out]; exact hlt)
      have hzo := HOK.out _ hmem
      have hzt := hlw.2 _ hmem
      have hdr : l.drop k = l.getD k zn0 :: l.drop (k + 1) := by
        rw [List.drop_eq_getElem_cons (by rw [HN.out]; exact hlt)]
        simp [HN.out, hlt]
      rw [hdr, List.map_cons, addP_cons] at hA
      have hlt2 : (k : Int) < (N : Int) := by omega
      have w1 : IntKind.i64.wrap ((k : Int) + 1) = (k : Int) + 1 := wrapi (by omega) (by omega)
      clear hlw hmem hdr
      generalize l.getD k zn0 = z at *
      have hown := fun W (h : Below wr.heap.size wr W) => own_any z W (hzt.below h) hzo
      have hnm := hzo.nmM
      have d0 := hzp.c0
      have d1 := hzp.c1
      have d2 := hzp.c2
      obtain ⟨Y, hY⟩ : ∃ Y, wr.alloc (.cells #[.string (mk z.nm), .slice z.ra z.rs.length z.rc, .slice z.sa z.sv.length z.sc] 50) = Y := ⟨_, rfl⟩
      have gY : Y.heap[wr.heap.size]? = some (.cells #[.string (mk z.nm), .slice z.ra z.rs.length z.rc, .slice z.sa z.sv.length z.sc] 50 (0, 0)) := by rw [← hY]; exact World.alloc_heap_new _ _
      have hbY : Below wr.heap.size wr Y := by rw [← hY]; exact (Below.refl _ wr).alloc (Nat.le_refl _) _
      have hnY := hnw.below hbY
      have hbwY := hbr.trans (hbY.mono hbr.size)
      have hgn := (Array.getElem?_eq_some_iff.1 gY).1
      have hvld := validM z.nm Y hnm
      have hfnd := find_any w.heap.size T z.nm Y (hnY.tro (by omega)) hnm
      have k0 : Y.cell? ⟨wr.heap.size, 0, none⟩ = some (.string (mk z.nm)) := row_cell gY 0 _ rfl
      have k1 : Y.cell? ⟨wr.heap.size, 1, none⟩ = some (.slice z.ra z.rs.length z.rc) := row_cell gY 1 _ rfl
      have k2 : Y.cell? ⟨wr.heap.size, 2, none⟩ = some (.slice z.sa z.sv.length z.sc) := row_cell gY 2 _ rfl
      have k3 : Y.cell? ⟨X1.heap.size, 0, none⟩ = some (.pointer (some ⟨w.heap.size, 0, none⟩)) := row_cell hnY.px 0 _ rfl
      have k4 : Y.cell? ⟨w.heap.size, 0, none⟩ = some (.slice av T.length cv) := row_cell hnY.bx 0 _ rfl
      have hzpm : ∀ z' : Zn, z'.p = z.p → (T ++ [z']).map Zn.p = T.map Zn.p ++ [z.p] := fun z' h => by rw [List.map_append, List.map_cons, List.map_nil, h]
      have hzok : ∀ z' : Zn, z'.p = z.p → ZnOk z' := fun z' h => hzo.of_p h
      have hTm : (T.map Zn.p).length = T.length := List.length_map ..
      generalize hzE : z.p = zp at *
      have hznm : zp.nm = z.nm := by rw [← hzE]; rfl
      rw [hznm, hTm] at hA
      generalize findP (T.map Zn.p) z.nm = fo at *
      obtain ⟨zn, ra, rc, rs, sa, sc, sv⟩ := z
      simp only at d0 d1 d2 hY gY k0 k1 k2 hvld hfnd hA hznm
      simp only [znV] at hown
      generalize hTn : T.length = M at *
      clear hzE hznm hnm hzp hzt hzo hTm hnw
      have HOWN := Go.Lib.hid hown
      have HNY := Go.Lib.hid hnY
      have HA := Go.Lib.hid hA
      have HVLD := Go.Lib.hid hvld
      have HFND := Go.Lib.hid hfnd
      have HBY := Go.Lib.hid hbY
      have HBWY := Go.Lib.hid hbwY
      have GY := Go.Lib.hid gY
      have HZPM := Go.Lib.hid hzpm
      have HZOK := Go.Lib.hid hzok
      have HTN := Go.Lib.hid hTn
      have HBR := Go.Lib.hid hbr
      have HOG := Go.Lib.hid hog
      clear hown hnY hA hvld hfnd hbY hbwY gY hzpm hzok hTn hbr hog
      cases hv : Nm.valid zn with
      | false =>
        rw [hv] at HVLD HA
        have HNONE := Go.Lib.hid (HNO.out HA.out.symm)
        clear hv
        go_wp2_with fail
        refine HVLD.out.mono ?_; rintro e _ ⟨rfl, rfl⟩
        go_wp2_with fail
        go_ret2
        refine ⟨HBWY.out, ?_⟩
        rw [HNONE.out]
        exact rfl
      | true =>
      rw [hv] at HVLD HA
      clear hv
      cases fo with
      | some y =>
        have HNONE := Go.Lib.hid (HNO.out HA.out.symm)
        go_wp2_with fail
        refine HVLD.out.mono ?_; rintro e _ ⟨rfl, rfl⟩
        go_wp2_with fail
        refine HFND.out.mono ?_; rintro e W1 ⟨pv, rfl, hpz, hx⟩
        obtain ⟨yn, b2, o2, rfl, rfl, _, _⟩ := hpz
        have HX := Go.Lib.hid hx
        clear hx
        go_wp2_with fail
        go_ret2
        refine ⟨HBWY.out.trans (HX.out.mono HBWY.out.size), ?_⟩
        rw [HNONE.out]
        exact rfl
      | none =>
      by_cases h20 : M = 20
      · have HNONE := Go.Lib.hid (HNO.out (by have := HA.out; rw [if_pos (by simp [h20])] at this; exact this.symm))
        subst h20
        go_wp2_with fail
        refine HVLD.out.mono ?_; rintro e _ ⟨rfl, rfl⟩
        go_wp2_with fail
        refine HFND.out.mono ?_; rintro e W1 ⟨pv, rfl, hpz, hx⟩
        have hpv : _ = Value.pointer none := hpz
        clear hpz
        subst hpv
        have j3 := (hx.cell (p := ⟨X1.heap.size, 0, none⟩) (by simp only; omega)).trans k3
        have j4 := (hx.cell (p := ⟨w.heap.size, 0, none⟩) (by simp only; omega)).trans k4
        have HX := Go.Lib.hid hx
        clear hx
        go_wp2_with fail
        go_ret2
        refine ⟨HBWY.out.trans (HX.out.mono HBWY.out.size), ?_⟩
        rw [HNONE.out]
        exact rfl
      · have hA2 := HA.out
        rw [if_neg (by simp [h20])] at hA2
        have h20b : ((M : Int) == 20) = false := beq_eq_false_iff_ne.2 (by omega)
        have h20c : ¬ (M : Int) = 20 := by omega
        have HA2 := Go.Lib.hid hA2
        clear hA2
        clear HA
        go_wp2_with fail
        refine HVLD.out.mono ?_; rintro e _ ⟨rfl, rfl⟩
        go_wp2_with fail
        refine HFND.out.mono ?_; rintro e W1 ⟨pv, rfl, hpz, hx⟩
        have hpv : _ = Value.pointer none := hpz
        clear hpz
        subst hpv
        have j3 := (hx.cell (p := ⟨X1.heap.size, 0, none⟩) (by simp only; omega)).trans k3
        have j4 := (hx.cell (p := ⟨w.heap.size, 0, none⟩) (by simp only; omega)).trans k4
        have hn1 := HNY.out.below hx
        have hb1 := HBWY.out.trans (hx.mono HBWY.out.size)
        have gy1 := heap_later hx GY.out
        have hxs := hx.size
        have hwW1 := HBY.out.trans (hx.mono HBY.out.size)
        have HX := Go.Lib.hid hx
        clear hx
        go_wp2_with fail
        have D3 : ∀ y : Subtype (CN w.heap.size X1.heap.size wr.heap.size W1), y.1.cell? ⟨X1.heap.size, 0, none⟩ = some (.pointer (some ⟨w.heap.size, 0, none⟩)) := fun y => row_cell (y.2.p.trans hn1.px) 0 _ rfl
        have D4 : ∀ y : Subtype (CN w.heap.size X1.heap.size wr.heap.size W1), y.1.cell? ⟨w.heap.size, 0, none⟩ = some (.slice av M cv) := fun y => row_cell (y.2.t.trans hn1.bx) 0 _ rfl
        have D0 : ∀ y : Subtype (CN w.heap.size X1.heap.size wr.heap.size W1), y.1.cell? ⟨wr.heap.size, 0, none⟩ = some (.string (mk zn)) := fun y => row_cell (y.2.y.trans gy1) 0 _ rfl
        have D1 : ∀ y : Subtype (CN w.heap.size X1.heap.size wr.heap.size W1), y.1.cell? ⟨wr.heap.size, 1, none⟩ = some (.slice ra rs.length rc) := fun y => row_cell (y.2.y.trans gy1) 1 _ rfl
        have D2 : ∀ y : Subtype (CN w.heap.size X1.heap.size wr.heap.size W1), y.1.cell? ⟨wr.heap.size, 2, none⟩ = some (.slice sa sv.length sc) := fun y => row_cell (y.2.y.trans gy1) 2 _ rfl
        have hneC : Nonempty (Subtype (CN w.heap.size X1.heap.size wr.heap.size W1)) := ⟨⟨W1, rfl, rfl, rfl⟩⟩
        clear k0 k1 k2 k3 k4 d0 d1 d2 j3 j4 hY
        have HN1 := Go.Lib.hid hn1
        have HB1 := Go.Lib.hid hb1
        have GY1 := Go.Lib.hid gy1
        have HWW1 := Go.Lib.hid hwW1
        clear hn1 hb1 gy1 hwW1
        refine Go.Mix.wp_region_mixT (Es := [6, 7, 8]) 11 (CN w.heap.size X1.heap.size wr.heap.size W1) mixed (by kernel_rfl) ⟨rfl, rfl, rfl⟩ ?_
        iterate 6 (refine Go.Mix.mixT_step rfl (fun K hK => ?_); have HKK := Go.Lib.hid hK; clear hK; go_simp; refine HKK.out _ _ ?_; clear HKK K)
        refine Go.Mix.mixT_eff rfl (fun K hK => ?_)
        have HKK := Go.Lib.hid hK
        clear hK
        go_simp
        refine (HOWN.out W1.drew HWW1.out.drew).mono ?_; rintro e W2 ⟨z', rfl, hzp', hzow, hx2⟩
        have hx2' : Below W1.heap.size W1 W2 := (Below.refl _ W1).drew.trans hx2
        have hn2 := HN1.out.below hx2'
        have hb2 := HB1.out.trans (hx2'.mono HB1.out.size)
        have hxs2 := hx2'.size
        have hcn2 : CN w.heap.size X1.heap.size wr.heap.size W1 W2 := ⟨hx2'.block _ (by omega), hx2'.block _ (by omega), hx2'.block _ (by omega)⟩
        have hzow2 := hzow.lower (B' := X.heap.size) (by show X.heap.size ≤ W1.heap.size; omega)
        have hzpm := HZPM.out z' hzp'
        have hzok := HZOK.out z' hzp'
        clear hzp' hzow hx2 hx2'
        obtain ⟨zn', ra', rc', rs', sa', sc', sv'⟩ := z'
        have HN2 := Go.Lib.hid hn2
        have HB2 := Go.Lib.hid hb2
        have HZOW := Go.Lib.hid hzow2
        have HCN2 := Go.Lib.hid hcn2
        have HZM := Go.Lib.hid hzpm
        have HZK := Go.Lib.hid hzok
        clear hn2 hb2 hzow2 hcn2 hzpm hzok
        go_simp
        refine HKK.out _ _ HCN2.out ?_
        clear HKK K
        refine Go.Mix.mixT_eff rfl (fun K hK => ?_)
        have HKK := Go.Lib.hid hK
        clear hK
        go_simp
        have hal : Below W2.heap.size W2 (W2.alloc (.cells #[.string (mk zn'), .slice ra' rs'.length rc', .slice sa' sv'.length sc'] 50)) := (Below.refl _ W2).alloc (Nat.le_refl _) _
        have hcn3 : CN w.heap.size X1.heap.size wr.heap.size W1 (W2.alloc (.cells #[.string (mk zn'), .slice ra' rs'.length rc', .slice sa' sv'.length sc'] 50)) := ⟨(hal.block _ (by omega)).trans HCN2.out.t, (hal.block _ (by omega)).trans HCN2.out.p, (hal.block _ (by omega)).trans HCN2.out.y⟩
        refine HKK.out _ _ hcn3 ?_
        clear HKK K
        have hn3 := HN2.out.below hal
        have hz3 := HZOW.out.below hal
        have hb3 := HB2.out.trans (hal.mono HB2.out.size)
        have hnc := new_cells W2 [.string (mk zn'), .slice ra' rs'.length rc', .slice sa' sv'.length sc'] 50
        have hone := one_znC ⟨zn', ra', rc', rs', sa', sc', sv'⟩
        have hs3 := hal.size
        have hown3 := hn3.own
        rw [HTN.out] at hown3
        have HN3 := Go.Lib.hid hn3
        have HZ3 := Go.Lib.hid hz3
        have HB3 := Go.Lib.hid hb3
        have HNC := Go.Lib.hid hnc
        have HONE := Go.Lib.hid hone
        have HCN3 := Go.Lib.hid hcn3
        have HOW3 := Go.Lib.hid hown3
        clear hn3 hz3 hb3 hnc hone hcn3 hown3
        clear hal
        refine mixT_app1 eiZn (.tmp 38) (.tmp 41) rfl rfl rfl X.heap.size (v := .slice av M cv) (n := M) (xs := T.flatMap znC) (ad := ⟨W2.heap.size, 0, none⟩) (c := 1) rfl rfl HOW3.out (news := [.string (mk zn'), .slice ra' rs'.length rc', .slice sa' sv'.length sc']) rfl HNC.out HONE.out (by unfold maxLen; omega) (by omega) (by omega) ?_
        intro v5 W5 hown5 hg5 hsn5
        obtain ⟨a5, c5, rfl, _, _⟩ := (SlC.of_owns hown5).slice
        have hne5 := HOG.out
        have hcn5 : CN w.heap.size X1.heap.size wr.heap.size W1 W5 := ⟨(hg5.block _ (by omega) (hne5 _ (.inl rfl))).trans HCN3.out.t, (hg5.block _ (by omega) (hne5 _ (.inr (.inl rfl)))).trans HCN3.out.p, (hg5.block _ (by omega) (hne5 _ (.inr (.inr rfl)))).trans HCN3.out.y⟩
        refine ⟨hcn5, ?_⟩
        have hnb5 := (hg5.block _ (show w.heap.size < _ by omega) (hne5 _ (.inl rfl))).trans HN3.out.bx
        have hnp5 := (hg5.block _ (show X1.heap.size < _ by omega) (hne5 _ (.inr (.inl rfl)))).trans HN3.out.px
        have hz5 : ∀ z ∈ T ++ [⟨zn', ra', rc', rs', sa', sc', sv'⟩], ZnOw X.heap.size W5 z := fun z hz => by
          rcases List.mem_append.1 hz with h | h
          · exact (HN3.out.zs z h).kept HOW3.out hg5
          · rw [List.mem_singleton.1 h]; exact HZ3.out.kept HOW3.out hg5
        have hb5 : Below w.heap.size w W5 := below_app HB3.out HOW3.out hg5 (by have := HS2.out; omega) (by omega)
        have hs5 := hg5.size
        have hfz5 := frozen_of_row W5 w.heap.size 0 _ _ hnb5
        have hc5 : W5.cell? ⟨w.heap.size, 0, none⟩ = some (.slice av M cv) := row_cell hnb5 0 _ rfl
        clear hg5 hsn5 hne5 hcn5
        have HNB5 := Go.Lib.hid hnb5
        have HNP5 := Go.Lib.hid hnp5
        have HZ5 := Go.Lib.hid hz5
        have HB5 := Go.Lib.hid hb5
        have HOW5 := Go.Lib.hid hown5
        clear hnb5 hnp5 hz5 hb5 hown5
        iterate 2 (refine Go.Mix.mixT_step rfl (fun K hK => ?_); have HKK := Go.Lib.hid hK; clear hK; go_simp; refine HKK.out _ _ ?_; clear HKK K)
        refine Go.Mix.mixT_last rfl (fun K hK => ?_)
        have HKK := Go.Lib.hid hK
        clear hK
        go_simp
        refine HKK.out _ _ ?_
        clear HKK K
        have hfin : NW w.heap.size X1.heap.size X.heap.size (.slice a5 (M + 1) c5) (T ++ [⟨zn', ra', rc', rs', sa', sc', sv'⟩]) (W5.setCell ⟨w.heap.size, 0, none⟩ (.slice a5 (M + 1) c5)) := by
          refine ⟨heap_setCell_same W5 w.heap.size 0 _ _ (.slice a5 (M + 1) c5) HNB5.out, (heap_setCell_other W5 ⟨w.heap.size, 0, none⟩ X1.heap.size (.slice a5 (M + 1) c5) (by have := HS1.out; simp only; omega)).trans HNP5.out, ?_, fun z hz => (HZ5.out z hz).setCell (by have := HS2.out; simp only; omega) (.slice a5 (M + 1) c5), ?_⟩
          · rw [List.length_append, HTN.out, znC_snoc]
            exact owns_setCell HOW5.out (by have := HS2.out; simp only; omega) (.slice a5 (M + 1) c5)
          · intro z hz
            rcases List.mem_append.1 hz with h | h
            · exact HN3.out.ok z h
            · rw [List.mem_singleton.1 h]; exact HZK.out
        have hb6 := HB5.out.setCell (p := ⟨w.heap.size, 0, none⟩) (Nat.le_refl _) (.slice a5 (M + 1) c5)
        have hsz6 : (W5.setCell ⟨w.heap.size, 0, none⟩ (.slice a5 (M + 1) c5)).heap.size = W5.heap.size := by simp
        have HFIN := Go.Lib.hid hfin
        have HB6 := Go.Lib.hid hb6
        clear hfin hb6
        clear hc5 hfz5
        go_wp2_with fail
        go_roundw
        case rel => exact ⟨k + 1, _, _, by go_num, by omega, by rw [HZM.out]; exact HA2.out, by rw [List.length_append, HTN.out]; simp; omega, HFIN.out, HB6.out⟩
        case measure => simp [intOf]; omega
    · have hke : k = N := by omega
      have hdr : l.drop k = [] := List.drop_of_length_le (by rw [HN.out]; omega)
      rw [hdr, List.map_nil, addP_nil] at hA
      have hyes := HYES.out _ hA.symm
      have hlt2 : ¬ (k : Int) < (N : Int) := by omega
      clear hdr
      have htro := hnw.tro (by omega)
      have hfnd := find_any w.heap.size T [0] wr htro (by unfold maxLen; simp)
      have k3 : ∀ W, Below wr.heap.size wr W → W.cell? ⟨X1.heap.size, 0, none⟩ = some (.pointer (some ⟨w.heap.size, 0, none⟩)) := fun W h => row_cell (heap_later h hnw.px) 0 _ rfl
      have k4 : ∀ W, Below wr.heap.size wr W → W.cell? ⟨w.heap.size, 0, none⟩ = some (.slice av T.length cv) := fun W h => row_cell (heap_later h hnw.bx) 0 _ rfl
      have hany := fun W (h : Below wr.heap.size wr W) => hasZ_any 30 #[.pointer (some ⟨X1.heap.size, 0, none⟩)] (fun z => !mayP (T.map Zn.p) z.p) av cv T W (hnw.zns.below h) (by omega) (enters_of Tryz.func30 (by kernel_rfl) rfl)
        (fun W' z hz hb => new1_any w.heap.size X1.heap.size T z W' ((htro.below h).below hb) ((((hnw.zs z hz).lies).below h).below hb) (hnw.ok z hz) (heap_later hb (heap_later h hnw.px)))
      have hmap : (T.map Zn.p).any (fun z => !mayP (T.map Zn.p) z) = T.any fun z => !mayP (T.map Zn.p) z.p := by rw [List.any_map]; rfl
      rw [hmap] at hyes
      have k30 := k3 wr (Below.refl _ _)
      generalize hTm : T.map Zn.p = TP at *
      generalize (T.any fun z => !mayP TP z.p) = q at *
      generalize findP TP [0] = fo at *
      generalize hTn : T.length = M at *
      have HY2 := Go.Lib.hid hyes
      have HTRO := Go.Lib.hid htro
      have HFND := Go.Lib.hid hfnd
      have HK3 := Go.Lib.hid k3
      have HK4 := Go.Lib.hid k4
      have HANY := Go.Lib.hid hany
      have HNW := Go.Lib.hid hnw
      have HBR := Go.Lib.hid hbr
      have HTM := Go.Lib.hid hTm
      have HTN := Go.Lib.hid hTn
      have HA := Go.Lib.hid hA
      have HOG := Go.Lib.hid hog
      clear hyes htro hfnd k3 k4 hany hnw hbr hTm hTn hA hog
      cases fo with
      | none =>
        have HNONE : Hid (R = none) := Go.Lib.hid HY2.out
        go_wp2_with fail
        refine HFND.out.mono ?_; rintro e W1 ⟨pv, rfl, hpz, hx⟩
        have hpv : _ = Value.pointer none := hpz
        clear hpz
        subst hpv
        have HX := Go.Lib.hid hx
        clear hx
        go_wp2_with fail
        go_ret2
        refine ⟨HBR.out.trans (HX.out.mono HBR.out.size), ?_⟩
        rw [HNONE.out]
        exact rfl
      | some y =>
        go_wp2_with fail
        refine HFND.out.mono ?_; rintro e W1 ⟨pv, rfl, hpz, hx⟩
        obtain ⟨yn, b2, o2, rfl, rfl, _, _⟩ := hpz
        have m3 := HK3.out W1 hx
        have m4 := HK4.out W1 hx
        have hany2 := HANY.out W1 hx
        have HB1 := Go.Lib.hid (HBR.out.trans (hx.mono HBR.out.size))
        have HX := Go.Lib.hid hx
        have HAN2 := Go.Lib.hid hany2
        clear hx hany2
        go_wp2_with fail
        refine HAN2.out.mono ?_; rintro e W2 ⟨rfl, hx2⟩
        have m5 := HK3.out W2 (HX.out.trans (hx2.mono HX.out.size))
        have HB2 := Go.Lib.hid (HB1.out.trans (hx2.mono HB1.out.size))
        have HTR2 := Go.Lib.hid ((HTRO.out.below HX.out).below hx2)
        clear hx2 m3 m4
        cases q with
        | true =>
          have HNONE : Hid (R = none) := Go.Lib.hid HY2.out
          go_wp2_with fail
          go_ret2
          refine ⟨HB2.out, ?_⟩
          rw [HNONE.out]
          exact rfl
        | false =>
          have HSOM : Hid (R = some TP) := Go.Lib.hid HY2.out
          go_wp2_with fail
          go_ret2
          refine ⟨HB2.out, ?_⟩
          rw [HSOM.out]
          exact ⟨_, T, rfl, HTM.out, HTR2.out⟩
end Go.Proofs.YtkpcmnckdappnaaGreat

/- The contracts of freshetalike.Records, Small, RRs (of lists that are alike), Message (of messages that are alike). -/
namespace Go.Proofs.YtkpcmnckdappnaaGreat
open Go.RowKit Go.Shelf Go.Sq
set_option linter.unusedVariables false

/-- how much records have -/
def sumR (l : List Rc.RR) : Nat := (l.map fun r => r.name.length + r.data.length).sum
theorem sumR_snoc (l : List Rc.RR) (x : Rc.RR) : sumR (l ++ [x]) = sumR l + (x.name.length + x.data.length) := by simp [sumR]
theorem sumR_take_le (l : List Rc.RR) (k : Nat) : sumR (l.take k) ≤ sumR l := by
  have e : sumR (l.take k) + sumR (l.drop k) = sumR l := by
    unfold sumR
    rw [← List.sum_append, ← List.map_append, List.take_append_drop]
  omega
theorem sumR_mem {l : List Rc.RR} {x : Rc.RR} (h : x ∈ l) : x.name.length + x.data.length ≤ sumR l := by
  induction l with
  | nil => cases h
  | cons y l ih =>
    rcases List.mem_cons.1 h with rfl | h
    · simp [sumR]
    · have := ih h
      simp [sumR] at this ⊢
      omega
def recordsB (l : List Rc.RR) (top : Nat) : Bool := decide (l.length + sumR l ≤ top)
theorem recordsB_true {l : List Rc.RR} {top : Nat} (h : recordsB l top = true) : l.length ≤ top ∧ ∀ r ∈ l, r.name.length ≤ top ∧ r.data.length ≤ top := by
  unfold recordsB at h
  rw [decide_eq_true_eq] at h
  refine ⟨by omega, fun r hr => ?_⟩
  have := sumR_mem hr
  omega
theorem rr_step {l : List Rc.RR} {k n : Nat} (hn : l.length = n) (h : k < n) : l.take (k + 1) = l.take k ++ [l.getD k r0] ∧ l.getD k r0 ∈ l := by
  subst hn
  constructor
  · rw [List.take_succ_eq_append_getElem h]
    simp [h]
  · rw [List.getD_eq_getElem?_getD, List.getElem?_eq_getElem h]
    simp


/-- is a message looked at? -/
def smallB (m : Msg) (top : Nat) : Bool := decide (m.qs.length ≤ 8) && (m.qs.all fun q => decide (q.name.length ≤ 400)) && recordsB m.an top && recordsB m.sv top && recordsB m.ad top

set_option maxRecDepth 100000 in
set_option maxHeartbeats 4000000 in
theorem RRs_same (l : List Rc.RR) (a1 a2 : Option Addr) (c1 c2 : Nat) (w : World) (hx : RRs w (.slice a1 l.length c1) l) (hy : RRs w (.slice a2 l.length c2) l) :
    Calls Tryz.prog 14 #[.slice a1 l.length c1, .slice a2 l.length c2] w fun e w' => e = .returned (.bool true) ∧ Below w.heap.size w w' := by
  obtain ⟨hn1, hc1⟩ := slc_bounds hx
  have HB := Go.Lib.hid (Below.refl w.heap.size w)
  generalize hn : l.length = n at *
  have HX := Go.Lib.hid hx
  have HY := Go.Lib.hid hy
  clear hx hy
  have HN := Go.Lib.hid hn
  clear hn
  unfold maxLen at hc1
  go_enter Tryz.func14, Tryz.ntmps14
  go_wp2_with fail
  go_loopw [5] (fun i wr => ∃ k : Nat, i = .int .i64 k ∧ k ≤ n ∧ Below w.heap.size w wr) (fun i _ => n - (intOf i).toNat)
  case atStart => exact ⟨0, rfl, by omega, HB.out⟩
  case round =>
    obtain ⟨k, rfl, hk, hbr⟩ := hrel
    clear HB
    have HB := Go.Lib.hid hbr
    clear hbr
    by_cases hlt : k < n
    · have hst := HX.out.below HB.out (Nat.le_refl _)
      have hsu := HY.out.below HB.out (Nat.le_refl _)
      rw [← HN.out] at hst hsu
      obtain ⟨b, off, rfl, hbw, hcell⟩ := RRs.at hst (by rw [HN.out]; omega)
      obtain ⟨b', off', rfl, hbw', hcell'⟩ := RRs.at hsu (by rw [HN.out]; omega)
      obtain ⟨c0, c1, c2, c3, c4⟩ := hcell k (by rw [HN.out]; exact hlt)
      obtain ⟨d0, d1, d2, d3, d4⟩ := hcell' k (by rw [HN.out]; exact hlt)
      clear hst hsu hcell hcell'
      generalize l.getD k r0 = x at *
      obtain ⟨xn, xt, xc, xl, xd⟩ := x
      simp only at c0 c1 c2 c3 c4 d0 d1 d2 d3 d4
      have C0 := BelowC.cell (W := wr) c0 hbw
      have C1 := BelowC.cell (W := wr) c1 hbw
      have C2 := BelowC.cell (W := wr) c2 hbw
      have C3 := BelowC.cell (W := wr) c3 hbw
      have C4 := BelowC.cell (W := wr) c4 hbw
      have D0 := BelowC.cell (W := wr) d0 hbw'
      have D1 := BelowC.cell (W := wr) d1 hbw'
      have D2 := BelowC.cell (W := wr) d2 hbw'
      have D3 := BelowC.cell (W := wr) d3 hbw'
      have D4 := BelowC.cell (W := wr) d4 hbw'
      have hne : Nonempty (Subtype (Below wr.heap.size wr)) := ⟨⟨wr, Below.refl _ _⟩⟩
      clear c0 c1 c2 c3 c4 d0 d1 d2 d3 d4
      go_wp2_with fail
      refine Go.Mix.wp_region_mix (Es := []) (Below wr.heap.size wr) mixed (by kernel_rfl) (Below.refl _ _).drew (fun _ => ?_)
      iterate 9 (refine Go.Mix.mix_step rfl (fun K hK => ?_); have HKK := Go.Lib.hid hK; clear hK; go_simp; refine HKK.out _ _ ?_; clear HKK K)
      refine Go.Mix.mix_nil ?_
      go_wp2_with fail
      go_roundw
      case rel => exact ⟨k + 1, by go_num, by omega, HB.out.drew⟩
      case measure => simp [intOf]; omega
    · obtain rfl : k = n := by omega
      go_wp2_with fail
      go_ret
      exact ⟨rfl, HB.out⟩
end Go.Proofs.YtkpcmnckdappnaaGreat

/- The contracts of the reference's Less, Common. -/
namespace Go.Proofs.YtkpcmnckdappnaaGreat
open Go.RowKit

theorem getD_take_succ {α : Type} (l : List α) (d : α) {k : Nat} (h : k < l.length) : l.take (k + 1) = l.take k ++ [l.getD k d] := by
  rw [List.take_succ_eq_append_getElem h]
  simp [h]
theorem refLab_good (s : List UInt8) : Nm.GoodL (Nm.refLab s).1 ∧ (Nm.refLab s).1.length ≤ 255 := by
  unfold Nm.refLab
  split
  · exact ⟨Nm.good_nil, by simp⟩
  · rename_i h
    cases hu : Nm.unwire s with
    | none => exact ⟨Nm.good_nil, by simp⟩
    | some p =>
      obtain ⟨ls, t⟩ := p
      obtain ⟨h1, h2⟩ := Nm.unwire_eq.1 hu
      have h3 := Nm.wire_length_gt ls
      have h4 : s.length = (Nm.wire ls).length + t.length := by rw [h1, List.length_append]
      exact ⟨h2, by show ls.length ≤ 255; omega⟩

theorem lexL_drop {x y : List (List UInt8)} {k : Nat} (h : x.take k = y.take k) (hx : k ≤ x.length) (hy : k ≤ y.length) : Nm.lexL x y = Nm.lexL (x.drop k) (y.drop k) := by
  unfold Nm.lexL; rw [Nm.cmpL_drop h hx hy]
theorem rev_getD {x : List (List UInt8)} {k : Nat} (h : k < x.length) : x.reverse.getD k [] = x.getD (x.length - (k + 1)) [] := by
  simp [List.getD_eq_getElem?_getD, List.getElem?_reverse h, Nat.sub_sub, Nat.add_comm]
theorem rev_drop {x : List (List UInt8)} {k : Nat} (h : k < x.length) : x.reverse.drop k = x.getD (x.length - (k + 1)) [] :: x.reverse.drop (k + 1) := by
  rw [← rev_getD h, List.drop_eq_getElem_cons (by simpa using h)]
  congr 1
  rw [List.getD_eq_getElem?_getD, List.getElem?_eq_getElem (by simpa using h)]
  rfl

set_option maxRecDepth 100000 in
set_option maxHeartbeats 2000000 in
theorem refLess_any (s t : ByteArray) (w : World) (hs : s.size ≤ maxLen) (ht : t.size ≤ maxLen) :
    Calls Tryz.prog 25 #[.string s, .string t] w fun e w' => e = .returned (.bool (Nm.lessN (bl s) (bl t))) ∧ Below w.heap.size w w' := by
  have hf1 := refFold_any s w hs
  have hf2 := fun w => refFold_any t w ht
  have hl1 := fun w => refLabels_any (mk (Nm.foldN (bl s))) w
  have hl2 := fun w => refLabels_any (mk (Nm.foldN (bl t))) w
  simp only [bl_mk] at hl1 hl2
  have hv1 : (Nm.refLab (Nm.foldN (bl s))).2 = Nm.valid (bl s) := by rw [Nm.refLab_valid, Nm.valid_foldN]
  have hv2 : (Nm.refLab (Nm.foldN (bl t))).2 = Nm.valid (bl t) := by rw [Nm.refLab_valid, Nm.valid_foldN]
  have hb1 := (refLab_good (Nm.foldN (bl s))).2
  have hb2 := (refLab_good (Nm.foldN (bl t))).2
  have hres : Hid (Nm.lessN (bl s) (bl t) = (Nm.valid (bl s) && Nm.valid (bl t) && Nm.lexL (Nm.refLab (Nm.foldN (bl s))).1.reverse (Nm.refLab (Nm.foldN (bl t))).1.reverse)) := Go.Lib.hid (by
    unfold Nm.lessN
    cases h1 : Nm.valid (bl s) with
    | false => rfl
    | true =>
      cases h2 : Nm.valid (bl t) with
      | false => rfl
      | true =>
        rw [Nm.refLab_labs (by rw [Nm.valid_foldN]; exact h1), Nm.refLab_labs (by rw [Nm.valid_foldN]; exact h2), Nm.labs_foldN, Nm.labs_foldN]
        rfl)
  have HF1 := Go.Lib.hid hf1
  have HF2 := Go.Lib.hid hf2
  have HL1 := Go.Lib.hid hl1
  have HL2 := Go.Lib.hid hl2
  clear hf1 hf2 hl1 hl2 hs ht
  rw [← hv1, ← hv2] at hres
  clear hv1 hv2
  generalize Nm.lessN (bl s) (bl t) = res at *
  generalize Nm.refLab (Nm.foldN (bl s)) = p at *
  generalize Nm.refLab (Nm.foldN (bl t)) = q at *
  generalize Nm.foldN (bl s) = fs at *
  generalize Nm.foldN (bl t) = ft at *
  obtain ⟨x, o1⟩ := p
  obtain ⟨y, o2⟩ := q
  simp only at hb1 hb2 hres
  cases o1 with
  | false =>
    go_enter Tryz.func25, Tryz.ntmps25
    go_wp2_with fail
    refine HF1.out.mono ?_; rintro e w1 ⟨rfl, hw1⟩
    go_wp2_with fail
    refine (HL1.out _).mono ?_; rintro e w2 ⟨v1, rfl, _, hw2⟩
    go_wp2_with fail
    refine (HF2.out _).mono ?_; rintro e w3 ⟨rfl, hw3⟩
    go_wp2_with fail
    refine (HL2.out _).mono ?_; rintro e w4 ⟨v2, rfl, _, hw4⟩
    go_wp2_with fail
    go_ret
    have h12 := hw1.trans (hw2.mono hw1.size)
    have h123 := h12.trans (hw3.mono h12.size)
    exact ⟨ret_bool hres.out.symm, h123.trans (hw4.mono h123.size)⟩
  | true =>
    cases o2 with
    | false =>
      go_enter Tryz.func25, Tryz.ntmps25
      go_wp2_with fail
      refine HF1.out.mono ?_; rintro e w1 ⟨rfl, hw1⟩
      go_wp2_with fail
      refine (HL1.out _).mono ?_; rintro e w2 ⟨v1, rfl, _, hw2⟩
      go_wp2_with fail
      refine (HF2.out _).mono ?_; rintro e w3 ⟨rfl, hw3⟩
      go_wp2_with fail
      refine (HL2.out _).mono ?_; rintro e w4 ⟨v2, rfl, _, hw4⟩
      go_wp2_with fail
      go_ret
      have h12 := hw1.trans (hw2.mono hw1.size)
      have h123 := h12.trans (hw3.mono h12.size)
      exact ⟨ret_bool (by rw [hres.out]; rfl), h123.trans (hw4.mono h123.size)⟩
    | true =>
      go_enter Tryz.func25, Tryz.ntmps25
      go_wp2_with fail
      refine HF1.out.mono ?_; rintro e w1 ⟨rfl, hw1⟩
      go_wp2_with fail
      refine (HL1.out _).mono ?_; rintro e w2 ⟨v1, rfl, hst1, hw2⟩
      go_wp2_with fail
      refine (HF2.out _).mono ?_; rintro e w3 ⟨rfl, hw3⟩
      go_wp2_with fail
      refine (HL2.out _).mono ?_; rintro e w4 ⟨v2, rfl, hst2, hw4⟩
      have h12 := hw1.trans (hw2.mono hw1.size)
      have h123 := h12.trans (hw3.mono h12.size)
      have h1234 := h123.trans (hw4.mono h123.size)
      have hst1' : Strs w4 v1 x := (hst1.below hw3 (Nat.le_refl _)).below hw4 (Nat.le_refl _)
      obtain ⟨a1, c1, rfl, _, _⟩ := hst1.slice
      obtain ⟨a2, c2, rfl, _, _⟩ := hst2.slice
      have HS1 := Go.Lib.hid hst1'
      have HS2 := Go.Lib.hid hst2
      have HW := Go.Lib.hid h1234
      clear hw1 hw2 hw3 hw4 h12 h123 h1234 hst1 hst1' hst2
      generalize hxn : x.length = n at *
      generalize hym : y.length = m at *
      have HN := Go.Lib.hid hxn
      have HM := Go.Lib.hid hym
      clear hxn hym
      go_wp2_with fail
      go_loopw [9] (fun i wr => ∃ k : Nat, i = .int .i64 ((k : Int) + 1) ∧ k ≤ n ∧ k ≤ m ∧ x.reverse.take k = y.reverse.take k ∧ Below w4.heap.size w4 wr) (fun i _ => n + 1 - (intOf i).toNat)
      case atStart => exact ⟨0, rfl, by omega, by omega, by simp, Below.refl _ _⟩
      case round =>
        obtain ⟨k, rfl, hkn, hkm, heq, hbr⟩ := hrel
        have hdrop : Hid (Nm.lexL x.reverse y.reverse = Nm.lexL (x.reverse.drop k) (y.reverse.drop k)) := Go.Lib.hid (lexL_drop heq (by rw [List.length_reverse, HN.out]; exact hkn) (by rw [List.length_reverse, HM.out]; exact hkm))
        have HEQ := Go.Lib.hid heq
        have HBR := Go.Lib.hid hbr
        clear heq hbr
        by_cases hk : k < n ∧ k < m
        · obtain ⟨hk1, hk2⟩ := hk
          have hs1 := HS1.out.below HBR.out (Nat.le_refl _)
          have hs2 := HS2.out.below HBR.out (Nat.le_refl _)
          rw [← HN.out] at hs1
          rw [← HM.out] at hs2
          obtain ⟨b1, of1, rfl, _, hc1⟩ := Strs.at hs1 (by rw [HN.out]; omega)
          obtain ⟨b2, of2, rfl, _, hc2⟩ := Strs.at hs2 (by rw [HM.out]; omega)
          have l1 := hc1 (n - (k + 1)) (by rw [HN.out]; omega)
          have l2 := hc2 (m - (k + 1)) (by rw [HM.out]; omega)
          have hd1 := rev_drop (x := x) (k := k) (by rw [HN.out]; exact hk1)
          have hd2 := rev_drop (x := y) (k := k) (by rw [HM.out]; exact hk2)
          have ht1 := getD_take_succ x.reverse [] (k := k) (by rw [List.length_reverse, HN.out]; exact hk1)
          have ht2 := getD_take_succ y.reverse [] (k := k) (by rw [List.length_reverse, HM.out]; exact hk2)
          rw [rev_getD (by rw [HN.out]; exact hk1)] at ht1
          rw [rev_getD (by rw [HM.out]; exact hk2)] at ht2
          rw [HN.out] at hd1 ht1
          rw [HM.out] at hd2 ht2
          have HD1 := Go.Lib.hid hd1
          have HD2 := Go.Lib.hid hd2
          have HT1 := Go.Lib.hid ht1
          have HT2 := Go.Lib.hid ht2
          clear hs1 hs2 hc1 hc2 hd1 hd2 ht1 ht2
          generalize x.getD (n - (k + 1)) [] = u at *
          generalize y.getD (m - (k + 1)) [] = v at *
          have g1 := wrapi (n := (n : Int) - ((k : Int) + 1)) (by omega) (by omega)
          have g2 := wrapi (n := (m : Int) - ((k : Int) + 1)) (by omega) (by omega)
          have g3 : ((n : Int) - ((k : Int) + 1)).toNat = n - (k + 1) := by omega
          have g4 : ((m : Int) - ((k : Int) + 1)).toNat = m - (k + 1) := by omega
          have g5 : 0 ≤ (n : Int) - ((k : Int) + 1) := by omega
          have g6 : (n : Int) - ((k : Int) + 1) < (n : Int) := by omega
          have g7 : 0 ≤ (m : Int) - ((k : Int) + 1) := by omega
          have g8 : (m : Int) - ((k : Int) + 1) < (m : Int) := by omega
          have c1 : (k : Int) + 1 ≤ (n : Int) := by omega
          have c2 : (k : Int) + 1 ≤ (m : Int) := by omega
          have hlt := bytesLess_ltB u v
          have hlt2 : Op.bytesLess (mk u).toList (mk v).toList = Nm.ltB u v := by rw [toList_bl, toList_bl, bl_mk, bl_mk]; exact hlt
          clear hlt
          go_wp2_with fail
          refine Go.Mix.wp_region_mix (Es := []) (AtW wr.drew) mixed (by kernel_rfl) rfl (fun _ => ?_)
          have ld1 := AtW.cell (w0 := wr.drew) (p := ⟨b1, of1 + (n - (k + 1)), none⟩) l1
          have ld2 := AtW.cell (w0 := wr.drew) (p := ⟨b2, of2 + (m - (k + 1)), none⟩) l2
          iterate 16 (refine Go.Mix.mix_step rfl (fun K hK => ?_); go_simp; refine hK _ _ ?_; clear hK K)
          refine Go.Mix.mix_nil ?_
          by_cases huv : u = v
          · have e2 := bne_mk_false huv
            go_wp2_with fail
            go_roundw
            case rel => exact ⟨k + 1, by go_num, by omega, by omega, by rw [HT1.out, HT2.out, HEQ.out, huv], HBR.out.drew⟩
            case measure => simp [intOf]; omega
          · have e2 := bne_mk_true huv
            have e3 := beq_mk_false huv
            have e4 := ne_mk huv
            have hfin : Hid (Nm.lexL x.reverse y.reverse = Nm.ltB u v) := Go.Lib.hid (by rw [hdrop.out, HD1.out, HD2.out, Nm.lexL_cons, if_neg huv])
            go_wp2_with fail
            go_ret
            exact ⟨ret_bool (by rw [hres.out, hfin.out]; rfl), HW.out.trans (HBR.out.drew.mono HW.out.size)⟩
        · have hfin : Hid (Nm.lexL x.reverse y.reverse = decide ((n : Int) < (m : Int))) := Go.Lib.hid (by
            rw [hdrop.out]
            by_cases h1 : k = m
            · rw [List.drop_of_length_le (l := y.reverse) (by rw [List.length_reverse, HM.out]; omega), Nm.lexL_nil_right]
              simp; omega
            · have h2 : k = n := by omega
              rw [List.drop_of_length_le (l := x.reverse) (by rw [List.length_reverse, HN.out]; omega), rev_drop (by rw [HM.out]; omega), Nm.lexL_nil_cons]
              simp; omega)
          by_cases hkn2 : k < n
          · have c1 : (k : Int) + 1 ≤ (n : Int) := by omega
            have c2 : ¬ (k : Int) + 1 ≤ (m : Int) := by omega
            go_wp2_with fail
            go_ret
            exact ⟨ret_bool (by rw [hres.out, hfin.out]; simp), HW.out.trans (HBR.out.mono HW.out.size)⟩
          · have c1 : ¬ (k : Int) + 1 ≤ (n : Int) := by omega
            go_wp2_with fail
            go_ret
            exact ⟨ret_bool (by rw [hres.out, hfin.out]; simp), HW.out.trans (HBR.out.mono HW.out.size)⟩

end Go.Proofs.YtkpcmnckdappnaaGreat

/- the reference's Made, Parent -/
namespace Go.Proofs.YtkpcmnckdappnaaGreat
open Go.RowKit

theorem size_one (c : UInt8) : (mk [c]).size = 1 := rfl
theorem pre_snoc (ls : List (List UInt8)) (x : List UInt8) : Nm.pre (ls ++ [x]) = Nm.pre ls ++ [UInt8.ofNat x.length] ++ x := by
  rw [Nm.pre_append]; simp [Nm.pre]
theorem pre_le {ls : List (List UInt8)} (h : Nm.GoodL ls) : (Nm.pre ls).length ≤ 64 * ls.length := by
  induction ls with
  | nil => simp [Nm.pre]
  | cons l ls ih =>
    obtain ⟨⟨_, h2⟩, h3⟩ := Nm.good_cons.1 h
    have := ih h3
    simp [Nm.pre]
    omega
theorem run_conv_newd (w : World) (n : Nat) (cs : List Value) (l : List UInt8) (hn : cs.length = n) (h : cs = l.map fun b => .int .u8 b.toNat) (hm : n ≤ maxLen) :
    (convert 82 9 (.slice (some ⟨w.heap.size, 0, none⟩) n n)).run Tryz.prog (w.alloc (.cells cs.toArray 5)).drew = .ok (.string (mk l)) (w.alloc (.cells cs.toArray 5)).drew := by
  have hl : l.length = n := by rw [← hn, h]; simp
  refine run_conv_string ?_
  unfold Byts
  rw [hl, ← h]
  exact (slc_new w 1 n _ cs (by rw [hn]; simp) hm).drew
theorem wrap_u8 {n : Nat} (h : n ≤ 63) : IntKind.u8.wrap (n : Int) = ((UInt8.ofNat n).toNat : Int) := by
  rw [Nm.ofNat_toNat h, IntKind.wrap_u8]
  omega

set_option maxRecDepth 100000 in
set_option maxHeartbeats 2000000 in
theorem Made_any (a : Option Addr) (cap : Nat) (ls : List (List UInt8)) (w : World) (hst : Strs w (.slice a ls.length cap) ls) (hg : Nm.GoodL ls) (hn : ls.length ≤ 1099511627776) :
    Calls Tryz.prog 48 #[.slice a ls.length cap] w fun e w' => e = .returned (.string (mk (Nm.wire ls))) ∧ Below w.heap.size w w' := by
  have HST := Go.Lib.hid hst
  have HGL := Go.Lib.hid hg
  clear hst hg
  generalize hnn : ls.length = n at *
  have HN := Go.Lib.hid hnn
  clear hnn
  go_enter Tryz.func48, Tryz.ntmps48
  go_wp2_with fail
  go_loopw [3, 4] (fun s i wr => ∃ k : Nat, i = .int .i64 k ∧ k ≤ n ∧ s = .string (mk (Nm.pre (ls.take k))) ∧ Below w.heap.size w wr) (fun _ i _ => n - (intOf i).toNat)
  case atStart => exact ⟨0, rfl, by omega, rfl, Below.refl _ _⟩
  case round =>
    obtain ⟨k, rfl, hk, rfl, hbr⟩ := hrel
    have hpl := pre_le (ls := ls.take k) (fun l hl => HGL.out l (List.mem_of_mem_take hl))
    rw [List.length_take, HN.out] at hpl
    replace hpl : (Nm.pre (ls.take k)).length ≤ 70368744177664 := by omega
    have hsp := size_mk (Nm.pre (ls.take k))
    have HBR := Go.Lib.hid hbr
    have hws := hbr.size
    clear hbr
    by_cases hlt : k < n
    · have hlk : k < ls.length := by rw [HN.out]; exact hlt
      have hst : Strs wr (.slice a ls.length cap) ls := by
        have := HST.out.below HBR.out (Nat.le_refl _)
        rw [← HN.out] at this
        exact this
      obtain ⟨b, off, rfl, hbw, hcell⟩ := Strs.at hst (by omega)
      have hc2 := hcell k hlk
      have hstep := pre_snoc (ls.take k) (ls.getD k [])
      rw [← getD_take_succ ls [] hlk] at hstep
      have hxl := HGL.out (ls.getD k []) (by rw [List.getD_eq_getElem?_getD, List.getElem?_eq_getElem hlk]; simp)
      have hsx := size_mk (ls.getD k [])
      have HSTEP := Go.Lib.hid hstep
      have HBW := Go.Lib.hid hbw
      clear hst hcell hstep hlk hbw
      generalize ls.getD k [] = x at *
      generalize Nm.pre (ls.take k) = pk at *
      have hu8 := wrap_u8 hxl.2
      have hconv := run_conv_newd wr 1 [.int .u8 (UInt8.ofNat x.length).toNat] [UInt8.ofNat x.length] rfl rfl (by decide)
      have hs1 := size_one (UInt8.ofNat x.length)
      generalize UInt8.ofNat x.length = c at *
      have hcat1 : mk pk ++ mk [c] = mk (pk ++ [c]) := by apply bl_inj; rw [bl_append, bl_mk, bl_mk, bl_mk]
      have hcat2 : mk (pk ++ [c]) ++ mk x = mk (pk ++ [c] ++ x) := by apply bl_inj; rw [bl_append, bl_mk, bl_mk, bl_mk]
      have hsp2 : (mk (pk ++ [c])).size = pk.length + 1 := by rw [size_mk]; simp
      have q1 : ¬ 9223372036854775807 < pk.length + 1 := by omega
      have q2 : ¬ 9223372036854775807 < pk.length + 1 + x.length := by omega
      go_wp2_with fail
      refine Go.Mix.wp_region_mix (Es := [7, 8]) (Below wr.heap.size wr) mixed (by kernel_rfl) ((Below.refl _ _).drew) (fun _ => ?_)
      have hld : ∀ w3 : Subtype (Below wr.heap.size wr), w3.1.cell? ⟨b, off + k, none⟩ = some (.string (mk x)) := fun w3 => by
        rw [w3.2.cell (p := ⟨b, off + k, none⟩) HBW.out]; exact hc2
      iterate 7 (refine Go.Mix.mix_step rfl (fun K hK => ?_); go_simp; refine hK _ _ ?_; clear hK K)
      (refine Go.Mix.mix_eff rfl (fun K hK => ?_); go_simp; refine hK _ _ ((Below.refl _ wr).alloc (Nat.le_refl _) _).drew ?_; clear hK K)
      (refine Go.Mix.mix_eff rfl (fun K hK => ?_); go_simp; refine hK _ _ ((Below.refl _ wr).alloc (Nat.le_refl _) _).drew ?_; clear hK K)
      iterate 7 (refine Go.Mix.mix_step rfl (fun K hK => ?_); go_simp; refine hK _ _ ?_; clear hK K)
      refine Go.Mix.mix_nil ?_
      go_wp2_with fail
      go_roundw
      case rel => exact ⟨k + 1, by go_num, by omega, by rw [HSTEP.out]; simp, HBR.out.trans (((Below.refl _ wr).alloc (Nat.le_refl _) _).drew.mono hws)⟩
      case measure => simp [intOf]; omega
    · obtain rfl : k = n := by omega
      have hall : Hid (ls.take k = ls) := Go.Lib.hid (by rw [← HN.out, List.take_length])
      have hcat : mk (Nm.pre (ls.take k)) ++ ⟨#[0]⟩ = mk (Nm.wire (ls.take k)) := by apply bl_inj; rw [bl_append, bl_mk, bl_mk]; rfl
      have hs0 : (⟨#[0]⟩ : ByteArray).size = 1 := rfl
      have q1 : ¬ 9223372036854775807 < (Nm.pre (ls.take k)).length + 1 := by omega
      go_wp2_with fail
      go_ret
      exact ⟨ret_str (by rw [hall.out]), HBR.out⟩
set_option maxRecDepth 100000 in
set_option maxHeartbeats 1000000 in
theorem refParent_any (s : ByteArray) (w : World) :
    Calls Tryz.prog 22 #[.string s] w fun e w' => e = .returned (.string (mk (Nm.parentN (bl s)))) ∧ Below w.heap.size w w' := by
  have hl := refLabels_any s w
  obtain ⟨hg, hle⟩ := refLab_good (bl s)
  cases hv : Nm.valid (bl s) with
  | false =>
    have hfin : Hid (mk (Nm.parentN (bl s)) = ⟨#[0]⟩) := Go.Lib.hid (by unfold Nm.parentN; rw [Nm.labs_not hv]; rfl)
    have h2 := Nm.refLab_not hv
    have HL := Go.Lib.hid hl
    clear hl hg hv
    generalize Nm.refLab (bl s) = p at *
    obtain ⟨ls, ok⟩ := p
    obtain rfl : ok = false := h2
    go_enter Tryz.func22, Tryz.ntmps22
    go_wp2_with fail
    refine HL.out.mono ?_
    rintro e w1 ⟨v, rfl, hst, hb⟩
    obtain ⟨a, cap, rfl, _, _⟩ := hst.slice
    clear hst
    go_wp2_with fail
    go_ret
    exact ⟨ret_str hfin.out.symm, hb⟩
  | true =>
    have hr := Nm.refLab_labs hv
    rw [hr] at hl hg hle
    have hfin : Hid (mk (Nm.parentN (bl s)) = mk (Nm.wire (Nm.labs (bl s)).tail)) := Go.Lib.hid rfl
    have HL := Go.Lib.hid hl
    have HG := Go.Lib.hid hg
    clear hl hg hr hv
    simp only at hle
    generalize Nm.labs (bl s) = ls at *
    cases ls with
    | nil =>
      go_enter Tryz.func22, Tryz.ntmps22
      go_wp2_with fail
      refine HL.out.mono ?_
      rintro e w1 ⟨v, rfl, hst, hb⟩
      obtain ⟨a, cap, rfl, _, _⟩ := hst.slice
      clear hst
      go_wp2_with fail
      go_ret
      exact ⟨ret_str hfin.out.symm, hb⟩
    | cons l ls =>
      go_enter Tryz.func22, Tryz.ntmps22
      go_wp2_with fail
      refine HL.out.mono ?_
      rintro e w1 ⟨v, rfl, hst, hb⟩
      obtain ⟨a, cap, rfl, hlc, _⟩ := hst.slice
      obtain ⟨b, off, rfl, hbw, _⟩ := Strs.at hst (by simp)
      rw [List.length_cons] at hlc
      have h0 : (((ls.length : Int) + 1) == 0) = false := by rw [beq_eq_false_iff_ne]; omega
      have h1 : (1 : Int) ≤ (ls.length : Int) + 1 := by omega
      have HST := Go.Lib.hid hst
      have HB := Go.Lib.hid hb
      clear hst hb
      have hsub : ∀ a' : Option Addr, (0 < ls.length → a' = some ⟨b, off + 1, none⟩) → (a' = none → cap - 1 = 0) → Strs w1 (.slice a' ls.length (cap - 1)) ls := fun a' h1 h2 => by
        have := Strs.sub HST.out rfl (i := 1) (j := ls.length + 1) (by omega) (Nat.le_refl _) (a' := a') (fun h => h1 (by omega)) h2
        simpa using this
      have HSUB := Go.Lib.hid hsub
      clear hsub
      have HGG := Go.Lib.hid (Nm.good_cons.1 HG.out).2
      go_wp2_with fail
      case inr =>
        refine (Made_any _ _ ls w1 (HSUB.out _ (fun _ => rfl) (fun h => by cases h)) HGG.out (by simp at hle; omega)).mono ?_
        rintro e w2 ⟨rfl, hb2⟩
        go_wp2_with fail
        go_ret
        exact ⟨ret_str hfin.out.symm, HB.out.trans (hb2.mono HB.out.size)⟩
      case inl =>
        have hc0 : cap - 1 = 0 := by omega
        have hh := HSUB.out (some ⟨b, off, none⟩) (fun h => absurd h (by omega)) (fun h => by cases h)
        rw [hc0] at hh
        refine (Made_any _ 0 ls w1 hh HGG.out (by simp at hle; omega)).mono ?_
        rintro e w2 ⟨rfl, hb2⟩
        go_wp2_with fail
        go_ret
        exact ⟨ret_str hfin.out.symm, HB.out.trans (hb2.mono HB.out.size)⟩

end Go.Proofs.YtkpcmnckdappnaaGreat

/- the reference's Under -/
namespace Go.Proofs.YtkpcmnckdappnaaGreat
open Go.RowKit

theorem endsIn_yes {a b : List (List UInt8)} (hl : b.length ≤ a.length) (h : (a.drop (a.length - b.length)).take b.length = b.take b.length) : Nm.endsIn a b = true := by
  unfold Nm.endsIn
  rw [List.take_length, List.take_of_length_le (by rw [List.length_drop]; omega)] at h
  simp [hl, h]
theorem endsIn_no {a b : List (List UInt8)} {i : Nat} (h : ¬ a.getD (a.length - b.length + i) [] = b.getD i []) : Nm.endsIn a b = false := by
  unfold Nm.endsIn
  rw [Bool.and_eq_false_iff]
  refine .inr ?_
  rw [beq_eq_false_iff_ne]
  intro e
  apply h
  have := congrArg (fun l => l.getD i []) e
  simpa [List.getD_eq_getElem?_getD, List.getElem?_drop] using this

set_option maxRecDepth 100000 in
set_option maxHeartbeats 2000000 in
theorem refUnder_any (s t : ByteArray) (w : World) (hs : s.size ≤ maxLen) (ht : t.size ≤ maxLen) :
    Calls Tryz.prog 15 #[.string s, .string t] w fun e w' => e = .returned (.bool (Nm.underN (bl s) (bl t))) ∧ Below w.heap.size w w' := by
  have hf1 := refFold_any s w hs
  have hf2 := fun w => refFold_any t w ht
  have hl1 := fun w => refLabels_any (mk (Nm.foldN (bl s))) w
  have hl2 := fun w => refLabels_any (mk (Nm.foldN (bl t))) w
  simp only [bl_mk] at hl1 hl2
  have hv1 : (Nm.refLab (Nm.foldN (bl s))).2 = Nm.valid (bl s) := by rw [Nm.refLab_valid, Nm.valid_foldN]
  have hv2 : (Nm.refLab (Nm.foldN (bl t))).2 = Nm.valid (bl t) := by rw [Nm.refLab_valid, Nm.valid_foldN]
  have hb1 := (refLab_good (Nm.foldN (bl s))).2
  have hb2 := (refLab_good (Nm.foldN (bl t))).2
  have hres : Hid (Nm.underN (bl s) (bl t) = (Nm.valid (bl s) && Nm.valid (bl t) && Nm.endsIn (Nm.refLab (Nm.foldN (bl s))).1 (Nm.refLab (Nm.foldN (bl t))).1)) := Go.Lib.hid (by
    unfold Nm.underN
    cases h1 : Nm.valid (bl s) with
    | false => rfl
    | true =>
      cases h2 : Nm.valid (bl t) with
      | false => rfl
      | true =>
        rw [Nm.refLab_labs (by rw [Nm.valid_foldN]; exact h1), Nm.refLab_labs (by rw [Nm.valid_foldN]; exact h2), Nm.labs_foldN, Nm.labs_foldN])
  have HF1 := Go.Lib.hid hf1
  have HF2 := Go.Lib.hid hf2
  have HL1 := Go.Lib.hid hl1
  have HL2 := Go.Lib.hid hl2
  clear hf1 hf2 hl1 hl2 hs ht
  rw [← hv1, ← hv2] at hres
  clear hv1 hv2
  generalize Nm.underN (bl s) (bl t) = res at *
  generalize Nm.refLab (Nm.foldN (bl s)) = p at *
  generalize Nm.refLab (Nm.foldN (bl t)) = q at *
  generalize Nm.foldN (bl s) = fs at *
  generalize Nm.foldN (bl t) = ft at *
  obtain ⟨x, o1⟩ := p
  obtain ⟨y, o2⟩ := q
  simp only at hb1 hb2 hres
  cases o1 with
  | false =>
    go_enter Tryz.func15, Tryz.ntmps15
    go_wp2_with fail
    refine HF1.out.mono ?_; rintro e w1 ⟨rfl, hw1⟩
    go_wp2_with fail
    refine (HL1.out _).mono ?_; rintro e w2 ⟨v1, rfl, _, hw2⟩
    go_wp2_with fail
    refine (HF2.out _).mono ?_; rintro e w3 ⟨rfl, hw3⟩
    go_wp2_with fail
    refine (HL2.out _).mono ?_; rintro e w4 ⟨v2, rfl, _, hw4⟩
    go_wp2_with fail
    go_ret
    have h12 := hw1.trans (hw2.mono hw1.size)
    have h123 := h12.trans (hw3.mono h12.size)
    exact ⟨ret_bool hres.out.symm, h123.trans (hw4.mono h123.size)⟩
  | true =>
    cases o2 with
    | false =>
      go_enter Tryz.func15, Tryz.ntmps15
      go_wp2_with fail
      refine HF1.out.mono ?_; rintro e w1 ⟨rfl, hw1⟩
      go_wp2_with fail
      refine (HL1.out _).mono ?_; rintro e w2 ⟨v1, rfl, _, hw2⟩
      go_wp2_with fail
      refine (HF2.out _).mono ?_; rintro e w3 ⟨rfl, hw3⟩
      go_wp2_with fail
      refine (HL2.out _).mono ?_; rintro e w4 ⟨v2, rfl, _, hw4⟩
      go_wp2_with fail
      go_ret
      have h12 := hw1.trans (hw2.mono hw1.size)
      have h123 := h12.trans (hw3.mono h12.size)
      exact ⟨ret_bool (by rw [hres.out]; rfl), h123.trans (hw4.mono h123.size)⟩
    | true =>
      go_enter Tryz.func15, Tryz.ntmps15
      go_wp2_with fail
      refine HF1.out.mono ?_; rintro e w1 ⟨rfl, hw1⟩
      go_wp2_with fail
      refine (HL1.out _).mono ?_; rintro e w2 ⟨v1, rfl, hst1, hw2⟩
      go_wp2_with fail
      refine (HF2.out _).mono ?_; rintro e w3 ⟨rfl, hw3⟩
      go_wp2_with fail
      refine (HL2.out _).mono ?_; rintro e w4 ⟨v2, rfl, hst2, hw4⟩
      have h12 := hw1.trans (hw2.mono hw1.size)
      have h123 := h12.trans (hw3.mono h12.size)
      have h1234 := h123.trans (hw4.mono h123.size)
      have hst1' : Strs w4 v1 x := (hst1.below hw3 (Nat.le_refl _)).below hw4 (Nat.le_refl _)
      obtain ⟨a1, c1, rfl, _, _⟩ := hst1.slice
      obtain ⟨a2, c2, rfl, _, _⟩ := hst2.slice
      have HS1 := Go.Lib.hid hst1'
      have HS2 := Go.Lib.hid hst2
      have HW := Go.Lib.hid h1234
      clear hw1 hw2 hw3 hw4 h12 h123 h1234 hst1 hst1' hst2
      generalize hxn : x.length = n at *
      generalize hym : y.length = m at *
      have HN := Go.Lib.hid hxn
      have HM := Go.Lib.hid hym
      clear hxn hym
      by_cases hlt : n < m
      · have e1 : (n : Int) < (m : Int) := by omega
        go_wp2_with fail
        go_ret
        refine ⟨ret_bool ?_, HW.out⟩
        rw [hres.out]
        unfold Nm.endsIn
        rw [HN.out, HM.out]
        simp [show ¬ m ≤ n by omega]
      · have e1 : ¬ (n : Int) < (m : Int) := by omega
        go_wp2_with fail
        go_loopw [9] (fun i wr => ∃ k : Nat, i = .int .i64 k ∧ k ≤ m ∧ (x.drop (n - m)).take k = y.take k ∧ Below w4.heap.size w4 wr) (fun i _ => m - (intOf i).toNat)
        case atStart => exact ⟨0, rfl, by omega, by simp, Below.refl _ _⟩
        case round =>
          obtain ⟨k, rfl, hk, heq, hbr⟩ := hrel
          have HEQ := Go.Lib.hid heq
          have HBR := Go.Lib.hid hbr
          clear heq hbr
          by_cases hkm : k < m
          · have hs1 := HS1.out.below HBR.out (Nat.le_refl _)
            have hs2 := HS2.out.below HBR.out (Nat.le_refl _)
            rw [← HN.out] at hs1
            rw [← HM.out] at hs2
            obtain ⟨b1, of1, rfl, _, hc1⟩ := Strs.at hs1 (by rw [HN.out]; omega)
            obtain ⟨b2, of2, rfl, _, hc2⟩ := Strs.at hs2 (by rw [HM.out]; omega)
            have l1 := hc1 (n - m + k) (by rw [HN.out]; omega)
            have l2 := hc2 k (by rw [HM.out]; omega)
            have hno : Hid (¬ x.getD (n - m + k) [] = y.getD k [] → Nm.endsIn x y = false) := Go.Lib.hid (fun h => endsIn_no (i := k) (by rw [HN.out, HM.out]; exact h))
            have hst1 : (x.drop (n - m)).take (k + 1) = (x.drop (n - m)).take k ++ [x.getD (n - m + k) []] := by
              rw [getD_take_succ _ [] (by rw [List.length_drop, HN.out]; omega)]
              simp
            have hst2 := getD_take_succ y [] (k := k) (by rw [HM.out]; exact hkm)
            have HT1 := Go.Lib.hid hst1
            have HT2 := Go.Lib.hid hst2
            clear hs1 hs2 hc1 hc2 hst1 hst2
            generalize x.getD (n - m + k) [] = u at *
            generalize y.getD k [] = v at *
            have g0 := wrapi (n := (n : Int) - (m : Int)) (by omega) (by omega)
            have g1 := wrapi (n := (n : Int) - (m : Int) + (k : Int)) (by omega) (by omega)
            have g2 : ((n : Int) - (m : Int) + (k : Int)).toNat = n - m + k := by omega
            have g3 : 0 ≤ (n : Int) - (m : Int) + (k : Int) := by omega
            have g4 : (n : Int) - (m : Int) + (k : Int) < (n : Int) := by omega
            go_wp2_with fail
            refine Go.Mix.wp_region_mix (Es := []) (AtW wr.drew) mixed (by kernel_rfl) rfl (fun _ => ?_)
            have ld1 := AtW.cell (w0 := wr.drew) (p := ⟨b1, of1 + (n - m + k), none⟩) l1
            have ld2 := AtW.cell (w0 := wr.drew) (p := ⟨b2, of2 + k, none⟩) l2
            by_cases huv : u = v
            · have e2 := bne_mk_false huv
              iterate 15 (refine Go.Mix.mix_step rfl (fun K hK => ?_); go_simp; refine hK _ _ ?_; clear hK K)
              refine Go.Mix.mix_nil ?_
              go_wp2_with fail
              go_roundw
              case rel => exact ⟨k + 1, by go_num, by omega, by rw [HT1.out, HT2.out, HEQ.out, huv], HBR.out.drew⟩
              case measure => simp [intOf]; omega
            · have e2 := bne_mk_true huv
              have e3 := beq_mk_false huv
              have e4 := ne_mk huv
              iterate 15 (refine Go.Mix.mix_step rfl (fun K hK => ?_); go_simp; refine hK _ _ ?_; clear hK K)
              refine Go.Mix.mix_nil ?_
              go_wp2_with fail
              go_ret
              exact ⟨ret_bool (by rw [hres.out, hno.out huv]; rfl), HW.out.trans (HBR.out.drew.mono HW.out.size)⟩
          · obtain rfl : k = m := by omega
            have hfin : Hid (Nm.endsIn x y = true) := Go.Lib.hid (endsIn_yes (by rw [HN.out, HM.out]; omega) (by rw [HN.out, HM.out]; exact HEQ.out))
            go_wp2_with fail
            go_ret
            exact ⟨ret_bool (by rw [hres.out, hfin.out]; rfl), HW.out.trans (HBR.out.mono HW.out.size)⟩

end Go.Proofs.YtkpcmnckdappnaaGreat

/- lists of texts -/
namespace Go.Proofs.YtkpcmnckdappnaaGreat
open Go.RowKit

set_option maxRecDepth 100000 in
set_option maxHeartbeats 2000000 in
theorem Texts_any (x y : List (List UInt8)) (a1 a2 : Option Addr) (c1 c2 : Nat) (w : World) (hx : Strs w (.slice a1 x.length c1) x) (hy : Strs w (.slice a2 y.length c2) y) :
    Calls Tryz.prog 43 #[.slice a1 x.length c1, .slice a2 y.length c2] w fun e w' => e = .returned (.bool (decide (x = y))) ∧ Below w.heap.size w w' := by
  obtain ⟨hn1, hc1⟩ := slc_bounds hx
  obtain ⟨hn2, hc2⟩ := slc_bounds hy
  have HX := Go.Lib.hid hx
  have HY := Go.Lib.hid hy
  clear hx hy
  generalize hn : x.length = n at *
  generalize hm : y.length = m at *
  have HN := Go.Lib.hid hn
  have HM := Go.Lib.hid hm
  clear hn hm
  unfold maxLen at hc1 hc2
  by_cases hnm : n = m
  · subst hnm
    go_enter Tryz.func43, Tryz.ntmps43
    go_wp2_with fail
    go_loopw [5] (fun i wr => ∃ k : Nat, i = .int .i64 k ∧ k ≤ n ∧ x.take k = y.take k ∧ Below w.heap.size w wr) (fun i _ => n - (intOf i).toNat)
    case atStart => exact ⟨0, rfl, by omega, by simp, Below.refl _ _⟩
    case round =>
      obtain ⟨k, rfl, hk, heq, hbr⟩ := hrel
      have HEQ := Go.Lib.hid heq
      have HBR := Go.Lib.hid hbr
      clear heq hbr
      by_cases hlt : k < n
      · have hs1 := HX.out.below HBR.out (Nat.le_refl _)
        have hs2 := HY.out.below HBR.out (Nat.le_refl _)
        rw [← HN.out] at hs1
        rw [← HM.out] at hs2
        obtain ⟨b1, of1, rfl, _, q1⟩ := Strs.at hs1 (by rw [HN.out]; omega)
        obtain ⟨b2, of2, rfl, _, q2⟩ := Strs.at hs2 (by rw [HM.out]; omega)
        have l1 := q1 k (by rw [HN.out]; omega)
        have l2 := q2 k (by rw [HM.out]; omega)
        have ht1 := getD_take_succ x [] (k := k) (by rw [HN.out]; exact hlt)
        have ht2 := getD_take_succ y [] (k := k) (by rw [HM.out]; exact hlt)
        have hno : Hid (¬ x.getD k [] = y.getD k [] → decide (x = y) = false) := Go.Lib.hid (fun h => by
          rw [decide_eq_false_iff_not]; rintro rfl; exact h rfl)
        have HT1 := Go.Lib.hid ht1
        have HT2 := Go.Lib.hid ht2
        clear hs1 hs2 q1 q2 ht1 ht2
        generalize x.getD k [] = u at *
        generalize y.getD k [] = v at *
        go_wp2_with fail
        refine Go.Mix.wp_region_mix (Es := []) (AtW wr.drew) mixed (by kernel_rfl) rfl (fun _ => ?_)
        have ld1 := AtW.cell (w0 := wr.drew) (p := ⟨b1, of1 + k, none⟩) l1
        have ld2 := AtW.cell (w0 := wr.drew) (p := ⟨b2, of2 + k, none⟩) l2
        by_cases huv : u = v
        · have e2 := bne_mk_false huv
          iterate 9 (refine Go.Mix.mix_step rfl (fun K hK => ?_); go_simp; refine hK _ _ ?_; clear hK K)
          refine Go.Mix.mix_nil ?_
          go_wp2_with fail
          go_roundw
          case rel => exact ⟨k + 1, by go_num, by omega, by rw [HT1.out, HT2.out, HEQ.out, huv], HBR.out.drew⟩
          case measure => simp [intOf]; omega
        · have e2 := bne_mk_true huv
          have e3 := beq_mk_false huv
          have e4 := ne_mk huv
          iterate 9 (refine Go.Mix.mix_step rfl (fun K hK => ?_); go_simp; refine hK _ _ ?_; clear hK K)
          refine Go.Mix.mix_nil ?_
          go_wp2_with fail
          go_ret
          exact ⟨ret_bool (hno.out huv).symm, HBR.out.drew⟩
      · obtain rfl : k = n := by omega
        have hfin : Hid (decide (x = y) = true) := Go.Lib.hid (by
          rw [decide_eq_true_iff]
          have := HEQ.out
          rw [List.take_of_length_le (by rw [HN.out]; exact Nat.le_refl _), List.take_of_length_le (by rw [HM.out]; exact Nat.le_refl _)] at this
          exact this)
        go_wp2_with fail
        go_ret
        exact ⟨ret_bool hfin.out.symm, HBR.out⟩
  · have hfin : Hid (decide (x = y) = false) := Go.Lib.hid (by
      rw [decide_eq_false_iff_not]
      rintro rfl
      exact hnm (HN.out.symm.trans HM.out))
    have e1 : ((n : Int) != (m : Int)) = true := by
      rw [bne_iff_ne]; omega
    go_enter Tryz.func43, Tryz.ntmps43
    go_wp2_with fail
    go_ret
    exact ⟨ret_bool hfin.out.symm, Below.refl _ _⟩

end Go.Proofs.YtkpcmnckdappnaaGreat

/- Tree: the law's awake. -/
namespace Go.Proofs.YtkpcmnckdappnaaGreat
open Go.RowKit Go.Sort Go.Lib
set_option maxRecDepth 100000
set_option linter.unusedVariables false
set_option linter.unusedSimpArgs false

/-! ### plain -/
def okB (z : Zp) : Bool := decide (z.nm.length ≤ 1000) && (z.rs.all (fun r => decide (r.name.length ≤ 1000) && decide (r.data.length ≤ 1000)) && (z.sv.all (fun s => decide (s.1.length ≤ 1000)) && (decide (z.rs.length ≤ 1000) && decide (z.sv.length ≤ 1000))))
theorem okB_ok {z : Zn} (h : okB z.p = true) : ZnOk z := by
  unfold okB at h
  simp only [Bool.and_eq_true, decide_eq_true_eq, List.all_eq_true] at h
  obtain ⟨h1, h2, h3, h4, h5⟩ := h
  refine ⟨h1, fun r hr => ?_, h3, h4, h5⟩
  obtain ⟨k1, k2⟩ := h2 r hr
  exact ⟨by unfold maxLen; omega, by unfold maxLen; omega⟩
theorem zonesZ_ok : ∀ k, k < 4 → ∀ z ∈ zonesZ k, okB z = true := by decide +kernel
theorem zonesZ_val : ∀ k, k < 4 → ∀ z ∈ zonesZ k, Nm.valid z.nm = true := by decide +kernel
theorem zonesZ_nod : ∀ k, k < 4 → ((zonesZ k).map fun z => Nm.foldN z.nm).Nodup := by decide +kernel
theorem map_okB {T : List Zn} {Z : List Zp} (e : T.map Zn.p = Z) (h : ∀ z ∈ Z, okB z = true) : ∀ z ∈ T, ZnOk z := fun z hz => okB_ok (h _ (by rw [← e]; exact List.mem_map_of_mem hz))
theorem trv_of {tb : Nat} {T : List Zn} {Z : List Zp} {w : World} (h : TRo tb T w) (e : T.map Zn.p = Z) (hv : ∀ z ∈ Z, Nm.valid z.nm = true) (hn : (Z.map fun z => Nm.foldN z.nm).Nodup) : TRv tb T w := by
  subst e
  refine ⟨h, fun z hz => hv _ (List.mem_map_of_mem (f := Zn.p) hz), ?_⟩
  rw [List.map_map] at hn
  exact hn
theorem aw1 : (lookP (zonesZ 0) [1, 120, 0] 1).1 = 0 ∧ (lookP (zonesZ 0) [1, 120, 0] 1).2.length = 3 := by decide +kernel
theorem aw2 : (lookP (zonesZ 0) [2, 110, 111, 1, 97, 0] 1).1 = 3 ∧ (lookP (zonesZ 0) [2, 110, 111, 1, 97, 0] 1).2.length = 0 := by decide +kernel
theorem aw3 : (serveP (zonesZ 0) [0] [1, 119, 1, 97, 0] 1).sv.length = 2 ∧ (serveP (zonesZ 0) [0] [1, 119, 1, 97, 0] 1).ad.length = 2 ∧ (serveP (zonesZ 0) [0] [1, 119, 1, 97, 0] 1).auth = false := by decide +kernel
theorem aw4 : bestP (zonesZ 0) [1, 113, 1, 99, 1, 98, 0] = ([1, 99, 1, 98, 0], true) := by decide +kernel
theorem aw5 : zonesP (zonesZ 0) = [[0], [1, 97, 0], [1, 98, 0], [1, 99, 1, 98, 0]] := by decide +kernel
theorem aw6 : atP (zonesZ 0) 2 = [[1, 97, 0], [1, 99, 1, 98, 0]] := by decide +kernel
theorem new_nil : newP [] = none := by decide +kernel

/-- a tree of zones -/
def RetN (w : World) (Z : List Zp) (e : Ending) (w' : World) : Prop := Below w.heap.size w w' ∧ ∃ tb T, e = .returned (.tuple #[.pointer (some ⟨tb, 0, none⟩), .int .i64 0]) ∧ T.map Zn.p = Z ∧ TRv tb T w'
theorem New_of (l : List Zn) (a : Option Addr) (c : Nat) (w : World) (Z : List Zp) (hl : Zns w (.slice a l.length c) l) (e : l.map Zn.p = Z) (hn : l.length ≤ 1000) (hok : ∀ z ∈ Z, okB z = true) (hnew : newP Z = some Z) (hv : ∀ z ∈ Z, Nm.valid z.nm = true) (hd : (Z.map fun z => Nm.foldN z.nm).Nodup) :
    Calls Tryz.prog 7 #[.slice a l.length c] w (RetN w Z) := by
  refine (New_any l a c w hl (map_okB e hok) hn).mono ?_
  rintro en w' ⟨hb, h⟩
  rw [e, hnew] at h
  obtain ⟨tb, T, rfl, hT, ht⟩ := h
  exact ⟨hb, tb, T, rfl, hT, trv_of ht hT hv hd⟩
theorem New_Z4 (k : Nat) (hk : k < 4) (B g : Nat) (z0 z1 z2 z3 : Zn) (w : World) (h : Z4 B g z0 z1 z2 z3 w) (e : [z0.p, z1.p, z2.p, z3.p] = zonesZ k) :
    Calls Tryz.prog 7 #[.slice (some ⟨g, 0, none⟩) 4 4] w (RetN w (zonesZ k)) :=
  New_of [z0, z1, z2, z3] (some ⟨g, 0, none⟩) 4 w (zonesZ k) h.zns e (show 4 ≤ 1000 by decide) (zonesZ_ok k hk) (new_ok k hk) (zonesZ_val k hk) (zonesZ_nod k hk)
theorem New_nil (w : World) : Calls Tryz.prog 7 #[.slice none 0 0] w fun e w' => e = .returned (.tuple #[.pointer none, .int .i64 1]) ∧ Below w.heap.size w w' := by
  refine (New_any [] none 0 w ⟨SlC.nil _ _, fun z h => by cases h⟩ (fun z h => by cases h) (by decide)).mono ?_
  rintro e w' ⟨hb, h⟩
  rw [show List.map Zn.p [] = [] from rfl, new_nil] at h
  exact ⟨h, hb⟩
set_option maxHeartbeats 16000000 in
theorem awake_any (w : World) : Calls Tryz.prog 13 #[] w fun e w' => e = .returned (.bool true) ∧ Below w.heap.size w w' := by
  have hzo := zones_any 0 w
  have hnz := fun g z0 z1 z2 z3 W => New_Z4 0 (by decide) w.heap.size g z0 z1 z2 z3 W
  have hnn := fun W => New_nil W
  have hl1 := fun tb T (e : T.map Zn.p = zonesZ 0) W ht => Lookup_any tb T ⟨[1, 120, 0], 1, 0⟩ W ht (by decide)
  have hl2 := fun tb T (e : T.map Zn.p = zonesZ 0) W ht => Lookup_any tb T ⟨[2, 110, 111, 1, 97, 0], 1, 0⟩ W ht (by decide)
  have hse := fun tb T (e : T.map Zn.p = zonesZ 0) W ht => Serve_any tb T [0] ⟨[1, 119, 1, 97, 0], 1, 1⟩ W ht (by decide) (by decide)
  have hbe := fun tb T (e : T.map Zn.p = zonesZ 0) W ht => Best_any tb T [1, 113, 1, 99, 1, 98, 0] W ht (by decide)
  have hzs := fun tb T (e : T.map Zn.p = zonesZ 0) W (ht : TRv tb T W) => Zones_any tb T W ht.t ht.v ht.d
  have hat := fun tb T (e : T.map Zn.p = zonesZ 0) W (ht : TRv tb T W) => At_any tb T 2 W ht.t ht.v ht.d
  have hte := fun x y a1 a2 c1 c2 W => Texts_any x y a1 a2 c1 c2 W
  have HB := Go.Lib.hid (Below.refl w.heap.size w)
  have HZO := Go.Lib.hid hzo
  have HNZ := Go.Lib.hid hnz
  have HNN := Go.Lib.hid hnn
  have HL1 := Go.Lib.hid hl1
  have HL2 := Go.Lib.hid hl2
  have HSE := Go.Lib.hid hse
  have HBE := Go.Lib.hid hbe
  have HZS := Go.Lib.hid hzs
  have HAT := Go.Lib.hid hat
  have HTE := Go.Lib.hid hte
  clear hzo hnz hnn hl1 hl2 hse hbe hzs hat hte
  go_enter Tryz.func13, Tryz.ntmps13
  go_wp2_with fail
  refine HZO.out.mono ?_; rintro e W1 ⟨g, z0, z1, z2, z3, rfl, hp, hz4, _, _, _, hb1⟩
  have hnz := HNZ.out g z0 z1 z2 z3 W1 hz4 hp
  clear hz4 hp
  have HNZ1 := Go.Lib.hid hnz
  have HB1 := Go.Lib.hid hb1
  clear hnz hb1
  go_wp2_with fail
  refine HNZ1.out.mono ?_; rintro e W2 ⟨hb2, tb, T, rfl, hT, ht⟩
  have hb2' := HB1.out.trans (hb2.mono HB1.out.size)
  clear hb2
  have HB2 := Go.Lib.hid hb2'
  have HT := Go.Lib.hid hT
  have HT2 := Go.Lib.hid ht
  clear hb2' hT ht
  go_wp2_with fail
  refine (HNN.out _).mono ?_; rintro e W3 ⟨rfl, hx⟩
  have ht3 := HT2.out.below hx
  have hb3 := HB2.out.trans (hx.mono HB2.out.size)
  have hl1 := HL1.out tb T HT.out W3 ht3
  clear hx
  rw [HT.out] at hl1
  obtain ⟨e1, e2⟩ := aw1
  try simp only at hl1
  generalize lookP (zonesZ 0) [1, 120, 0] 1 = R1 at *
  obtain ⟨r1, l1⟩ := R1
  simp only at e1 e2 hl1
  subst e1
  have HT3 := Go.Lib.hid ht3
  have HB3 := Go.Lib.hid hb3
  have HLA := Go.Lib.hid hl1
  have E2 := Go.Lib.hid e2
  clear ht3 hb3 hl1 e2
  go_wp2_with fail
  refine HLA.out.mono ?_; rintro e W4 ⟨v4, rfl, hv4, hx⟩
  obtain ⟨a4, c4, rfl, _, _⟩ := hv4.slice
  have ht4 := HT3.out.below hx
  have hb4 := HB3.out.trans (hx.mono HB3.out.size)
  have hl2 := HL2.out tb T HT.out W4 ht4
  clear hx hv4
  rw [HT.out] at hl2
  rw [E2.out]
  obtain ⟨e1, e2⟩ := aw2
  try simp only at hl2
  generalize lookP (zonesZ 0) [2, 110, 111, 1, 97, 0] 1 = R2 at *
  obtain ⟨r2, l2⟩ := R2
  simp only at e1 e2 hl2
  subst e1
  have HT4 := Go.Lib.hid ht4
  have HB4 := Go.Lib.hid hb4
  have HLB := Go.Lib.hid hl2
  have E2B := Go.Lib.hid e2
  clear ht4 hb4 hl2 e2
  go_wp2_with fail
  refine HLB.out.mono ?_; rintro e W5 ⟨v5, rfl, hv5, hx⟩
  obtain ⟨a5, c5, rfl, _, _⟩ := hv5.slice
  have ht5 := HT4.out.below hx
  have hb5 := HB4.out.trans (hx.mono HB4.out.size)
  have hse := HSE.out tb T HT.out W5 ht5.t
  clear hx hv5
  rw [HT.out] at hse
  rw [E2B.out]
  obtain ⟨e1, e2, e3⟩ := aw3
  try simp only at hse
  generalize serveP (zonesZ 0) [0] [1, 119, 1, 97, 0] 1 = S at *
  obtain ⟨sc, sa, san, ssv, sad⟩ := S
  simp only at e1 e2 e3
  subst e3
  have HT5 := Go.Lib.hid ht5
  have HB5 := Go.Lib.hid hb5
  have HSE1 := Go.Lib.hid hse
  have E1 := Go.Lib.hid e1
  have E2C := Go.Lib.hid e2
  clear ht5 hb5 hse e1 e2
  go_wp2_with fail
  refine HSE1.out.mono ?_; rintro e W6 ⟨qq, aa, ss, dd, rfl, hm, hx⟩
  have hq : SlT W6 29 3 qq 1 (encQn [⟨[1, 119, 1, 97, 0], 1, 1⟩]) := hm.qs
  have ha : SlT W6 43 5 aa san.length (encR san) := hm.an
  have hs : SlT W6 43 5 ss ssv.length (encR ssv) := hm.sv
  have hd : SlT W6 43 5 dd sad.length (encR sad) := hm.ad
  rw [E1.out] at hs
  rw [E2C.out] at hd
  obtain ⟨aq, cq, rfl, _, _⟩ := hq.1.slice
  obtain ⟨an, cn, rfl, _, _⟩ := ha.1.slice
  obtain ⟨asl, cs, rfl, _, _⟩ := hs.1.slice
  obtain ⟨ad, cd, rfl, _, _⟩ := hd.1.slice
  have ht6 := HT5.out.below hx
  have hb6 := HB5.out.trans (hx.mono HB5.out.size)
  have hMV : MV (sayN ⟨[1, 119, 1, 97, 0], 1, 1⟩ ⟨sc, false, san, ssv, sad⟩) (.slice aq 1 cq) (.slice an san.length cn) (.slice asl 2 cs) (.slice ad 2 cd) = .agg (sayC false sc (.slice aq 1 cq) (.slice an san.length cn) (.slice asl 2 cs) (.slice ad 2 cd)) := rfl
  rw [hMV]
  clear hx hm hq ha hs hd hMV
  generalize san.length = na at *
  obtain ⟨Y, hY⟩ : ∃ Y, W6.alloc (.cells (sayC false sc (.slice aq 1 cq) (.slice an na cn) (.slice asl 2 cs) (.slice ad 2 cd)) 34) = Y := ⟨_, rfl⟩
  have gY : Y.heap[W6.heap.size]? = some (.cells (sayC false sc (.slice aq 1 cq) (.slice an na cn) (.slice asl 2 cs) (.slice ad 2 cd)) 34 (0, 0)) := by rw [← hY]; exact World.alloc_heap_new _ _
  have hbY : Below W6.heap.size W6 Y := by rw [← hY]; exact (Below.refl _ W6).alloc (Nat.le_refl _) _
  have hone : (sayC false sc (.slice aq 1 cq) (.slice an na cn) (.slice asl 2 cs) (.slice ad 2 cd)).all (·.oneCell') = true := by simp [Value.oneCell']
  have htY := ht6.below hbY
  have hbwY := hb6.trans (hbY.mono hb6.size)
  have hbe := HBE.out tb T HT.out Y htY
  rw [HT.out, aw4] at hbe
  clear hbY ht6 hb6
  have HONE := Go.Lib.hid hone
  have GY := Go.Lib.hid gY
  have HTY := Go.Lib.hid htY
  have HBY := Go.Lib.hid hbwY
  have HBE1 := Go.Lib.hid hbe
  clear hone gY htY hbwY hbe
  go_wp2_with (first | (refine wpList_store_row rfl 34 (.tmp 9) (.tmp 45) rfl W6.heap.size _ rfl rfl _ _ (World.alloc_heap_new _ _) infoMsg rfl HONE.out ?_; rw [World.setRow_alloc_new, hY]))
  clear hY
  refine HBE1.out.mono ?_; rintro e W7 ⟨rfl, hx⟩
  have ht7 := HTY.out.below hx
  have hb7 := HBY.out.trans (hx.mono HBY.out.size)
  have g7 := heap_later hx GY.out
  have k3 : W7.cell? ⟨W6.heap.size, 3, none⟩ = some (.bool false) := row_cell g7 3 _ rfl
  have k10 : W7.cell? ⟨W6.heap.size, 10, none⟩ = some (.slice asl 2 cs) := row_cell g7 10 _ rfl
  have k11 : W7.cell? ⟨W6.heap.size, 11, none⟩ = some (.slice ad 2 cd) := row_cell g7 11 _ rfl
  have hzs := HZS.out tb T HT.out W7 ht7
  rw [HT.out, aw5] at hzs
  clear hx g7
  have HT7 := Go.Lib.hid ht7
  have HB7 := Go.Lib.hid hb7
  have HZS1 := Go.Lib.hid hzs
  clear ht7 hb7 hzs
  go_wp2_with fail
  refine HZS1.out.mono ?_; rintro e W8 ⟨v8, rfl, hv8, hx⟩
  obtain ⟨a8, c8, rfl, _, _⟩ := SlC.slice hv8
  have ht8 := HT7.out.below hx
  have hb8 := HB7.out.trans (hx.mono HB7.out.size)
  have hal : Below W8.heap.size W8 (W8.alloc (.cells #[.string ⟨#[0]⟩, .string ⟨#[1, 97, 0]⟩, .string ⟨#[1, 98, 0]⟩, .string ⟨#[1, 99, 1, 98, 0]⟩] 9)) := (Below.refl _ W8).alloc (Nat.le_refl _) _
  have hsn : Strs (W8.alloc (.cells #[.string ⟨#[0]⟩, .string ⟨#[1, 97, 0]⟩, .string ⟨#[1, 98, 0]⟩, .string ⟨#[1, 99, 1, 98, 0]⟩] 9)) (.slice (some ⟨W8.heap.size, 0, none⟩) 4 4) [[0], [1, 97, 0], [1, 98, 0], [1, 99, 1, 98, 0]] := slc_new W8 1 4 9 ([[0], [1, 97, 0], [1, 98, 0], [1, 99, 1, 98, 0]].map fun l => .string (mk l)) rfl (by decide)
  have hte := HTE.out [[0], [1, 97, 0], [1, 98, 0], [1, 99, 1, 98, 0]] [[0], [1, 97, 0], [1, 98, 0], [1, 99, 1, 98, 0]] a8 (some ⟨W8.heap.size, 0, none⟩) c8 4 _ (Strs.below hv8 hal (Nat.le_refl _)) hsn
  have ht8' := ht8.below hal
  have hb8' := hb8.trans (hal.mono hb8.size)
  clear hx hv8 hal hsn ht8 hb8
  have HT8 := Go.Lib.hid ht8'
  have HB8 := Go.Lib.hid hb8'
  have HTE1 := Go.Lib.hid hte
  clear ht8' hb8' hte
  go_wp2_with fail
  have q0 : (mk [1, 99, 1, 98, 0]).toList = [1, 99, 1, 98, 0] := by rw [toList_bl, bl_mk]
  refine HTE1.out.mono ?_; rintro e W9 ⟨rfl, hx⟩
  have ht9 := HT8.out.below hx
  have hb9 := HB8.out.trans (hx.mono HB8.out.size)
  have hat := HAT.out tb T HT.out W9 ht9
  rw [HT.out, aw6] at hat
  clear hx k3 k10 k11
  have HT9 := Go.Lib.hid ht9
  have HB9 := Go.Lib.hid hb9
  have HAT1 := Go.Lib.hid hat
  clear ht9 hb9 hat
  go_wp2_with fail
  refine HAT1.out.mono ?_; rintro e WA ⟨v9, rfl, hv9, hx⟩
  obtain ⟨a9, c9, rfl, _, _⟩ := SlC.slice hv9
  have hbA := HB9.out.trans (hx.mono HB9.out.size)
  have hal : Below WA.heap.size WA (WA.alloc (.cells #[.string ⟨#[1, 97, 0]⟩, .string ⟨#[1, 99, 1, 98, 0]⟩] 9)) := (Below.refl _ WA).alloc (Nat.le_refl _) _
  have hsn : Strs (WA.alloc (.cells #[.string ⟨#[1, 97, 0]⟩, .string ⟨#[1, 99, 1, 98, 0]⟩] 9)) (.slice (some ⟨WA.heap.size, 0, none⟩) 2 2) [[1, 97, 0], [1, 99, 1, 98, 0]] := slc_new WA 1 2 9 ([[1, 97, 0], [1, 99, 1, 98, 0]].map fun l => .string (mk l)) rfl (by decide)
  have hte := HTE.out [[1, 97, 0], [1, 99, 1, 98, 0]] [[1, 97, 0], [1, 99, 1, 98, 0]] a9 (some ⟨WA.heap.size, 0, none⟩) c9 2 _ (Strs.below hv9 hal (Nat.le_refl _)) hsn
  have hbA' := hbA.trans (hal.mono hbA.size)
  clear hx hv9 hal hsn hbA
  have HBA := Go.Lib.hid hbA'
  have HTE2 := Go.Lib.hid hte
  clear hbA' hte
  go_wp2_with fail
  refine HTE2.out.mono ?_; rintro e WB ⟨rfl, hx⟩
  have hbB := HBA.out.trans (hx.mono HBA.out.size)
  have HBB := Go.Lib.hid hbB
  clear hbB
  clear hx
  go_wp2_with fail
  go_ret
  exact ⟨rfl, HBB.out⟩
end Go.Proofs.YtkpcmnckdappnaaGreat

