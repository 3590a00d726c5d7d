/- What the law package of records asks each time: what the document fixes. -/
import Derived.Test.YthfpijacemkbbaaDoorRqG
import Derived.Test.YthfpijacemkbbaaDoorRqH
import Derived.Test.YthfpijacemkbbaaDoorRqI
import Derived.Test.YthfpijacemkbbaaDoorRqJ
import Derived.Test.YthfpijacemkbbaaDoorRqK
namespace Go.Proofs.YthfpijacemkbbaaDoor
open Go.RowKit Go.Shelf Go.Sq
set_option linter.unusedVariables false

def rA : Rc.RR := ⟨[1, 97, 0], 1, 1, 60, [1, 2, 3, 4]⟩
def rC : Rc.RR := ⟨[1, 97, 0], 5, 1, 60, [1, 98, 0]⟩
def rS : Rc.RR := ⟨[1, 97, 0], 6, 1, 60, [1, 97, 0, 0, 0, 0, 0, 5, 0, 0, 0, 1, 0, 0, 0, 2, 0, 0, 0, 3, 0, 0, 0, 30]⟩
theorem fA : makeAN [1, 97, 0] 60 16909060 = rA := by decide +kernel
theorem fC : makeNN [1, 97, 0] 5 60 [1, 98, 0] = rC := by decide +kernel
theorem fS : makeSN [1, 97, 0] 60 5 30 = rS := by decide +kernel
theorem fZ : makeAN [] 1 1 = rZ := by decide +kernel
theorem vA : addrV rA.ty rA.data = .tuple #[.int .i64 16909060, .bool true] := by kernel_rfl
theorem vC : targV rC.ty rC.data = .tuple #[.string (mk [1, 98, 0]), .bool true] := by kernel_rfl
theorem vS : minV rS.ty rS.data = .tuple #[.int .i64 30, .bool true] := by kernel_rfl
theorem kA : checkB rA = true := by decide +kernel
theorem kZ : checkB rZ = false := by decide +kernel
theorem k33 : knownB 33 = true := by decide +kernel
theorem k99 : knownB 99 = false := by decide +kernel
theorem d99 : Rc.dataB 99 [120] = true := by decide +kernel
theorem sA : Rc.sameRR rA rA = true := by decide +kernel
theorem sAC : sameSetB [rA, rC] [rC, rA] = true := by decide +kernel
theorem okA : RROk rA := by unfold RROk; decide +kernel
theorem okC : RROk rC := by unfold RROk; decide +kernel
theorem okS : RROk rS := by unfold RROk; decide +kernel
theorem okZ : RROk rZ := by unfold RROk; decide +kernel
theorem len3 : [1, 97, 0].length ≤ maxLen := by decide +kernel
set_option maxRecDepth 100000 in
set_option maxHeartbeats 4000000 in
theorem awake_any (w : World) : Calls Tryd.prog 9 #[] w fun e w' => e = .returned (.bool true) ∧ Below w.heap.size w w' := by
  have h1 := fun w => MakeA_any [1, 97, 0] 60 16909060 w (by decide +kernel)
  have h2 := fun w => MakeName_any [1, 97, 0] 5 60 [1, 98, 0] w (by decide +kernel) (by decide +kernel)
  have h3 := fun w => MakeSOA_any [1, 97, 0] 60 5 30 w (by decide +kernel)
  rw [fA] at h1; rw [fC] at h2; rw [fS] at h3
  have H1 := Go.Lib.hid h1
  have H2 := Go.Lib.hid h2
  have H3 := Go.Lib.hid h3
  clear h1 h2 h3
  go_enter Tryd.func9, Tryd.ntmps9
  go_wp2_with fail
  refine (H1.out _).mono ?_; rintro e W1 ⟨rfl, hx1⟩
  have HX1 := Go.Lib.hid hx1
  clear hx1
  go_wp2_with fail
  change Calls _ _ _ (W1.alloc (.cells (rrC rA) 23)) _
  have hA1 := World.alloc_heap_new W1 (.cells (rrC rA) 23)
  have hb1 := HX1.out.alloc HX1.out.size (.cells (rrC rA) 23)
  generalize W1.alloc (.cells (rrC rA) 23) = V1 at *
  generalize W1.heap.size = n1 at *
  have HA1 := Go.Lib.hid hA1
  have HB1 := Go.Lib.hid hb1
  clear hA1 hb1
  clear HX1
  refine (H2.out _).mono ?_; rintro e W2 ⟨rfl, hx2⟩
  have hA2 := (hx2.block _ (Array.getElem?_eq_some_iff.1 HA1.out).1).trans HA1.out
  have hb2 := HB1.out.trans (hx2.mono HB1.out.size)
  have HA2 := Go.Lib.hid hA2
  have HB2 := Go.Lib.hid hb2
  clear hA2 hb2
  clear hx2 HA1 HB1
  go_wp2_with fail
  change Calls _ _ _ (W2.alloc (.cells (rrC rC) 23)) _
  have hlt := (Array.getElem?_eq_some_iff.1 HA2.out).1
  have hC3 := World.alloc_heap_new W2 (.cells (rrC rC) 23)
  have hA3 := (Below.heap_alloc W2 (.cells (rrC rC) 23) _ hlt).trans HA2.out
  have hb3 := HB2.out.alloc HB2.out.size (.cells (rrC rC) 23)
  generalize W2.alloc (.cells (rrC rC) 23) = V2 at *
  generalize W2.heap.size = n2 at *
  have HA3 := Go.Lib.hid hA3
  have HB3 := Go.Lib.hid hb3
  have HC3 := Go.Lib.hid hC3
  clear hA3 hb3 hC3
  clear HA2 HB2 hlt
  refine (H3.out _).mono ?_; rintro e W3 ⟨rfl, hx3⟩
  have hA4 := (hx3.block _ (Array.getElem?_eq_some_iff.1 HA3.out).1).trans HA3.out
  have hC4 := (hx3.block _ (Array.getElem?_eq_some_iff.1 HC3.out).1).trans HC3.out
  have hb4 := HB3.out.trans (hx3.mono HB3.out.size)
  have hltA := (Array.getElem?_eq_some_iff.1 hA4).1
  have hltC := (Array.getElem?_eq_some_iff.1 hC4).1
  have hS5 := World.alloc_heap_new W3 (.cells (rrC rS) 23)
  have hA5 := (Below.heap_alloc W3 (.cells (rrC rS) 23) _ hltA).trans hA4
  have hC5 := (Below.heap_alloc W3 (.cells (rrC rS) 23) _ hltC).trans hC4
  have hb5 := hb4.alloc hb4.size (.cells (rrC rS) 23)
  have hgA := cell_of_heap hA5
  have hgC := cell_of_heap hC5
  have hgS := cell_of_heap hS5
  have hlA := (Array.getElem?_eq_some_iff.1 hA5).1
  have hlC := (Array.getElem?_eq_some_iff.1 hC5).1
  have hlS := (Array.getElem?_eq_some_iff.1 hS5).1
  clear hA4 hC4 hb4 hltA hltC hA5 hC5 hS5 hx3 HA3 HC3 HB3
  have g0 : (W3.alloc (.cells #[.string (mk rS.name), .int .i64 rS.ty, .int .i64 rS.cl, .int .i64 rS.ttl, .string (mk rS.data)] 23)).cell? ⟨n1, 0, none⟩ = some (.string (mk rA.name)) := hgA 0
  have g1 : (W3.alloc (.cells #[.string (mk rS.name), .int .i64 rS.ty, .int .i64 rS.cl, .int .i64 rS.ttl, .string (mk rS.data)] 23)).cell? ⟨n1, 1, none⟩ = some (.int .i64 rA.ty) := hgA 1
  have g2 : (W3.alloc (.cells #[.string (mk rS.name), .int .i64 rS.ty, .int .i64 rS.cl, .int .i64 rS.ttl, .string (mk rS.data)] 23)).cell? ⟨n1, 2, none⟩ = some (.int .i64 rA.cl) := hgA 2
  have g3 : (W3.alloc (.cells #[.string (mk rS.name), .int .i64 rS.ty, .int .i64 rS.cl, .int .i64 rS.ttl, .string (mk rS.data)] 23)).cell? ⟨n1, 3, none⟩ = some (.int .i64 rA.ttl) := hgA 3
  have g4 : (W3.alloc (.cells #[.string (mk rS.name), .int .i64 rS.ty, .int .i64 rS.cl, .int .i64 rS.ttl, .string (mk rS.data)] 23)).cell? ⟨n1, 4, none⟩ = some (.string (mk rA.data)) := hgA 4
  have HGA := Go.Lib.hid hgA
  have HGC := Go.Lib.hid hgC
  have HGS := Go.Lib.hid hgS
  have HB5 := Go.Lib.hid hb5
  clear hgA hgC hgS hb5
  go_wp2_with fail
  clear g0 g1 g2 g3 g4
  change Calls _ _ _ (W3.alloc (.cells (rrC rS) 23)) _
  generalize W3.alloc (.cells (rrC rS) 23) = V3 at *
  generalize W3.heap.size = n3 at *
  have cA0 : ∀ W', Below V3.heap.size V3 W' → W'.cell? ⟨n1, 0, none⟩ = some (.string (mk rA.name)) := fun W' h => (h.cell (p := ⟨n1, 0, none⟩) hlA).trans (HGA.out 0)
  have cA1 : ∀ W', Below V3.heap.size V3 W' → W'.cell? ⟨n1, 1, none⟩ = some (.int .i64 rA.ty) := fun W' h => (h.cell (p := ⟨n1, 1, none⟩) hlA).trans (HGA.out 1)
  have cA2 : ∀ W', Below V3.heap.size V3 W' → W'.cell? ⟨n1, 2, none⟩ = some (.int .i64 rA.cl) := fun W' h => (h.cell (p := ⟨n1, 2, none⟩) hlA).trans (HGA.out 2)
  have cA3 : ∀ W', Below V3.heap.size V3 W' → W'.cell? ⟨n1, 3, none⟩ = some (.int .i64 rA.ttl) := fun W' h => (h.cell (p := ⟨n1, 3, none⟩) hlA).trans (HGA.out 3)
  have cA4 : ∀ W', Below V3.heap.size V3 W' → W'.cell? ⟨n1, 4, none⟩ = some (.string (mk rA.data)) := fun W' h => (h.cell (p := ⟨n1, 4, none⟩) hlA).trans (HGA.out 4)
  have cC0 : ∀ W', Below V3.heap.size V3 W' → W'.cell? ⟨n2, 0, none⟩ = some (.string (mk rC.name)) := fun W' h => (h.cell (p := ⟨n2, 0, none⟩) hlC).trans (HGC.out 0)
  have cC1 : ∀ W', Below V3.heap.size V3 W' → W'.cell? ⟨n2, 1, none⟩ = some (.int .i64 rC.ty) := fun W' h => (h.cell (p := ⟨n2, 1, none⟩) hlC).trans (HGC.out 1)
  have cC2 : ∀ W', Below V3.heap.size V3 W' → W'.cell? ⟨n2, 2, none⟩ = some (.int .i64 rC.cl) := fun W' h => (h.cell (p := ⟨n2, 2, none⟩) hlC).trans (HGC.out 2)
  have cC3 : ∀ W', Below V3.heap.size V3 W' → W'.cell? ⟨n2, 3, none⟩ = some (.int .i64 rC.ttl) := fun W' h => (h.cell (p := ⟨n2, 3, none⟩) hlC).trans (HGC.out 3)
  have cC4 : ∀ W', Below V3.heap.size V3 W' → W'.cell? ⟨n2, 4, none⟩ = some (.string (mk rC.data)) := fun W' h => (h.cell (p := ⟨n2, 4, none⟩) hlC).trans (HGC.out 4)
  have cS0 : ∀ W', Below V3.heap.size V3 W' → W'.cell? ⟨n3, 0, none⟩ = some (.string (mk rS.name)) := fun W' h => (h.cell (p := ⟨n3, 0, none⟩) hlS).trans (HGS.out 0)
  have cS1 : ∀ W', Below V3.heap.size V3 W' → W'.cell? ⟨n3, 1, none⟩ = some (.int .i64 rS.ty) := fun W' h => (h.cell (p := ⟨n3, 1, none⟩) hlS).trans (HGS.out 1)
  have cS2 : ∀ W', Below V3.heap.size V3 W' → W'.cell? ⟨n3, 2, none⟩ = some (.int .i64 rS.cl) := fun W' h => (h.cell (p := ⟨n3, 2, none⟩) hlS).trans (HGS.out 2)
  have cS3 : ∀ W', Below V3.heap.size V3 W' → W'.cell? ⟨n3, 3, none⟩ = some (.int .i64 rS.ttl) := fun W' h => (h.cell (p := ⟨n3, 3, none⟩) hlS).trans (HGS.out 3)
  have cS4 : ∀ W', Below V3.heap.size V3 W' → W'.cell? ⟨n3, 4, none⟩ = some (.string (mk rS.data)) := fun W' h => (h.cell (p := ⟨n3, 4, none⟩) hlS).trans (HGS.out 4)
  clear HGA HGC HGS
  refine (Addr_any rA V3 okA).mono ?_; rintro e W4 ⟨rfl, hb4⟩
  rw [vA]
  go_wp2_with fail
  refine (Target_any rC W4 okC).mono ?_; rintro e W5 ⟨rfl, hx⟩
  rw [vC]
  have hb5 := hb4.trans (hx.mono hb4.size)
  clear hx
  go_wp2_with fail
  refine (Minimum_any rS W5 okS).mono ?_; rintro e W6 ⟨rfl, hx⟩
  rw [vS]
  have hb6 := hb5.trans (hx.mono hb5.size)
  clear hx hb4 hb5
  have q1 : mk rA.data = ⟨#[1, 2, 3, 4]⟩ := rfl
  have q2 : mk [1, 98, 0] = ⟨#[1, 98, 0]⟩ := rfl
  go_wp2_with fail
  refine (Check_any rA W6 okA).mono ?_; rintro e W7 ⟨rfl, hx⟩
  rw [kA]
  have hb7 := hb6.trans (hx.mono hb6.size)
  clear hx hb6
  go_wp2_with fail
  refine (Check_any rZ W7 okZ).mono ?_; rintro e W8 ⟨rfl, hx⟩
  rw [kZ]
  have hb8 := hb7.trans (hx.mono hb7.size)
  clear hx hb7
  go_wp2_with fail
  refine (Known_any 33 W8).mono ?_; rintro e W9 ⟨rfl, hx⟩
  rw [k33]
  have hb9 := hb8.trans (hx.mono hb8.size)
  clear hx hb8
  go_wp2_with fail
  refine (Known_any 99 W9).mono ?_; rintro e W10 ⟨rfl, hx⟩
  rw [k99]
  have hb10 := hb9.trans (hx.mono hb9.size)
  clear hx hb9
  go_wp2_with fail
  refine (Data_any 99 (mk [120]) W10 (by decide +kernel)).mono ?_; rintro e W11 ⟨rfl, hx⟩
  rw [bl_mk, d99]
  have hb11 := hb10.trans (hx.mono hb10.size)
  clear hx hb10
  go_wp2_with fail
  refine (Type_15 W11).mono ?_; rintro e W12 ⟨rfl, hx⟩
  rw [show mk (typeT 15) = ⟨#[77, 88]⟩ from rfl]
  have hb12 := hb11.trans (hx.mono hb11.size)
  clear hx hb11
  go_wp2_with fail
  refine (Type_99 W12).mono ?_; rintro e W13 ⟨rfl, hx⟩
  rw [show mk [84, 89, 80, 69, 57, 57] = ⟨#[84, 89, 80, 69, 57, 57]⟩ from rfl]
  have hb13 := hb12.trans (hx.mono hb12.size)
  clear hx hb12
  go_wp2_with fail
  have z0 : (mk rZ.name).toList = [] := by decide +kernel
  have z1 : rZ.ty = 0 := rfl
  have z2 : rZ.cl = 0 := rfl
  have z3 : rZ.ttl = 0 := rfl
  have z4 : (mk rZ.data).toList = [] := by decide +kernel
  refine (MakeA_any [] 1 1 W13 (by decide +kernel)).mono ?_; rintro e W14 ⟨rfl, hx⟩
  rw [fZ]
  have hb14 := hb13.trans (hx.mono hb13.size)
  clear hx hb13
  go_wp2_with fail
  refine (recSame_any rA rA W14 okA okA).mono ?_; rintro e W15 ⟨rfl, hx⟩
  rw [sA]
  have hb15 := hb14.trans (hx.mono hb14.size)
  clear hx hb14
  have hbz : ∀ o, Below V3.heap.size V3 (W15.alloc o) := fun o => hb15.alloc hb15.size o
  go_wp2_with fail
  have ra : RRs (W15.alloc (.cells (encR [rA, rC]).toArray 23)) (.slice (some ⟨W15.heap.size, 0, none⟩) 2 2) [rA, rC] := slc_new W15 5 2 23 _ (by rfl) (by decide)
  have rb := slc_new (W15.alloc (.cells (encR [rA, rC]).toArray 23)) 5 2 23 (encR [rC, rA]) (by rfl) (by decide)
  rw [World.size_alloc] at rb
  have ra2 := ra.below ((Below.refl _ (W15.alloc (.cells (encR [rA, rC]).toArray 23))).alloc (Nat.le_refl _) (.cells (encR [rC, rA]).toArray 23)) (Nat.le_refl _)
  have hbl := (hbz (.cells (encR [rA, rC]).toArray 23)).alloc (hbz (.cells (encR [rA, rC]).toArray 23)).size (.cells (encR [rC, rA]).toArray 23)
  have hok1 : ∀ r ∈ [rA, rC], RROk r := fun r hr => by
    rcases List.mem_cons.1 hr with rfl | hr
    · exact okA
    · rcases List.mem_cons.1 hr with rfl | hr
      · exact okC
      · cases hr
  have hok2 : ∀ r ∈ [rC, rA], RROk r := fun r hr => by
    rcases List.mem_cons.1 hr with rfl | hr
    · exact okC
    · rcases List.mem_cons.1 hr with rfl | hr
      · exact okA
      · cases hr
  refine (SameSet_any _ _ [rA, rC] [rC, rA] ((W15.alloc (.cells (encR [rA, rC]).toArray 23)).alloc (.cells (encR [rC, rA]).toArray 23)) ra2 rb (by decide) (by decide) hok1 hok2).mono ?_; rintro e W16 ⟨rfl, hx⟩
  rw [sAC]
  have hb16 := HB5.out.trans ((hbl.trans (hx.mono hbl.size)).mono HB5.out.size)
  have HB16 := Go.Lib.hid hb16
  clear hb16
  clear hx hbl ra rb ra2 hb15 hbz
  go_wp2_with fail
  go_ret
  exact ⟨rfl, HB16.out⟩
end Go.Proofs.YthfpijacemkbbaaDoor

