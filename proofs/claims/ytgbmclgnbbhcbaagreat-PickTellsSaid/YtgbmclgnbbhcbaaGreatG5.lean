/- Merged texts of the seat, in their order: PkP, PkQ, PkR, OrdR, PkS, OrdC, OrdD, Ga. -/
import Derived.Test.YtgbmclgnbbhcbaaGreatG1
import Derived.Test.YtgbmclgnbbhcbaaGreatG2
import Derived.Test.YtgbmclgnbbhcbaaGreatG4
import Derived.RangeFuncBox
import Derived.Deep.WholeRow
/- Pick: freshetlaw15.set: a set of names. -/
namespace Go.Proofs.YtgbmclgnbbhcbaaGreat
open Go.RowKit Go.Sort Go.Lib
set_option maxRecDepth 100000
set_option linter.unusedVariables false
set_option linter.unusedSimpArgs false

theorem undSet : ∃ fs, Tryz.prog.underlying 26 = some (.struct fs) := ⟨_, Tryz.underlying26⟩
theorem infoSet : (Tryz.prog.info? 26).map (·.size) = some 5 := by kernel_rfl
theorem infoRRp : (Tryz.prog.info? 64).map (fun i => (i.zero, i.size, i.bytes)) = some (some (.agg #[.string ⟨#[]⟩, .int .i64 0, .int .i64 0, .int .i64 0, .string ⟨#[]⟩]), 5, 56) := by kernel_rfl
theorem eiRRp : EI Tryz.prog 24 64 5 56 := ei_of Tryz.underlying24 infoRRp rfl (by decide)
theorem ret_set {fn : Func} {p : Tmp} {a : Act} {W : World} {R : Ending → World → Prop} {kn zn : List UInt8} {kt kd : Int} {v : Value} {g : Nat} (hr : fn.results = #[.cell p 26]) (hp : a.tmps.getD p undef = .pointer (some ⟨g, 0, none⟩)) (hd : a.defers = [])
    (hg : W.heap[g]? = some (.cells (setC kn kt v kd zn) 26 (0, 0))) (h : R (.returned (setV kn kt v kd zn)) W) : bodyPost Tryz.prog fn R Exit.ret a W := by
  obtain ⟨fs, hu⟩ := undSet
  refine bodyPost_ret (v := setV kn kt v kd zn) ?_ hd h
  have hp' : a.tmps[p]?.getD undef = .pointer (some ⟨g, 0, none⟩) := by simpa using hp
  simp [results, hr, hp', asAddr, run_loadVar_row W g _ 26 (setC kn kt v kd zn) (0, 0) _ hg hu rfl infoSet]
theorem heap_set {w : World} {g i : Nat} {cs : Array Value} {T : TypeId} {fr : Nat × Nat} {v : Value} (h : w.heap[g]? = some (.cells cs T fr)) : (w.setCell ⟨g, i, none⟩ v).heap[g]? = some (.cells (cs.setIfInBounds i v) T fr) := by
  rw [setCell_eq_setRow w g i _ _ _ v h]
  exact setRow_heap _ _ _ _ _ _ h
theorem heap_set_other {w : World} {g i k : Nat} {cs : Array Value} {T : TypeId} {fr : Nat × Nat} {v : Value} (h : w.heap[g]? = some (.cells cs T fr)) (hk : k ≠ g) : (w.setCell ⟨g, i, none⟩ v).heap[k]? = w.heap[k]? := by
  rw [setCell_eq_setRow w g i _ _ _ v h]
  exact setRow_other _ _ _ _ hk
theorem own_setOther {w : World} {b e sz n g T : Nat} {v : Value} {xs : List Value} {cs : Array Value} {fr : Nat × Nat} (h : w.ownsRow b e sz v n xs) (hg : w.heap[g]? = some (.cells cs T fr)) (hT : T ≠ e) (i : Nat) (u : Value) : (w.setCell ⟨g, i, none⟩ u).ownsRow b e sz v n xs := by
  refine ⟨h.1, ?_⟩
  rcases h.2 with h2 | ⟨g', cap, cur, h1, h2, h3, h4⟩
  · exact .inl h2
  · refine .inr ⟨g', cap, cur, h1, h2, (heap_set_other hg (fun e => ?_)).trans h3, h4⟩
    subst e
    rw [hg] at h3
    simp only [Option.some.injEq, Obj.cells.injEq] at h3
    exact hT h3.2.1
/-- the records of names -/
def setL (l : List (List UInt8)) : List Rc.RR := l.map fun d => ⟨[0], 2, 1, 0, d⟩
theorem setL_take {l : List (List UInt8)} {k : Nat} (h : k < l.length) : setL (l.take (k + 1)) = setL (l.take k) ++ [⟨[0], 2, 1, 0, l.getD k []⟩] := by
  unfold setL
  rw [List.take_succ_eq_append_getElem h, List.map_append, List.getD_eq_getElem?_getD, List.getElem?_eq_getElem h]
  rfl
def RetSet (w : World) (l : List (List UInt8)) (e : Ending) (w' : World) : Prop := ∃ a c, e = .returned (setV [0] 2 (.slice a (setL l).length c) 0 [0]) ∧ RRs w' (.slice a (setL l).length c) (setL l) ∧ Below w.heap.size w w'
/-- the state of the loop: the result's box, the set's -/
structure SQ (w : World) (l : List (List UInt8)) (v : Value) (k : Nat) (wr : World) : Prop where
  hb : Below w.heap.size w wr
  r2 : wr.heap[w.heap.size]? = some (.cells #[.string ⟨#[]⟩, .int .i64 0, .slice none 0 0, .int .i64 0, .string ⟨#[]⟩] 26 (0, 0))
  r3 : wr.heap[w.heap.size + 1]? = some (.cells (setC [0] 2 v 0 [0]) 26 (0, 0))
  own : wr.ownsRow (w.heap.size + 2) 64 5 v k (encR (setL (l.take k)))
/-- what the loads need -/
def CW (w : World) (o : Obj) (b off : Nat) (d : List UInt8) (W : World) : Prop := W.heap[w.heap.size + 1]? = some o ∧ W.cell? ⟨b, off, none⟩ = some (.string (mk d))
set_option maxHeartbeats 8000000 in
theorem set_any (l : List (List UInt8)) (a : Option Addr) (c : Nat) (w : World) (hl : Strs w (.slice a l.length c) l) (hn : l.length ≤ 1000) :
    Calls Tryz.prog 18 #[.slice a l.length c] w (RetSet w l) := by
  have mixed : Tryz.prog.follows .mixedOrders = true := by kernel_rfl
  obtain ⟨X1, hX1⟩ : ∃ X, w.alloc (.cells #[.string ⟨#[]⟩, .int .i64 0, .slice none 0 0, .int .i64 0, .string ⟨#[]⟩] 26) = X := ⟨_, rfl⟩
  obtain ⟨X, hX⟩ : ∃ X, X1.alloc (.cells #[.string ⟨#[0]⟩, .int .i64 2, .slice none 0 0, .int .i64 0, .string ⟨#[0]⟩] 26) = X := ⟨_, rfl⟩
  have g1 : X1.heap[w.heap.size]? = some (.cells #[.string ⟨#[]⟩, .int .i64 0, .slice none 0 0, .int .i64 0, .string ⟨#[]⟩] 26 (0, 0)) := by rw [← hX1]; exact World.alloc_heap_new _ _
  have b1 : Below w.heap.size w X1 := by rw [← hX1]; exact (Below.refl _ w).alloc (Nat.le_refl _) _
  have s1 : X1.heap.size = w.heap.size + 1 := by rw [← hX1]; simp
  have g2 : X.heap[X1.heap.size]? = some (.cells (setC [0] 2 (.slice none 0 0) 0 [0]) 26 (0, 0)) := by rw [← hX]; exact World.alloc_heap_new _ _
  have b2 : Below X1.heap.size X1 X := by rw [← hX]; exact (Below.refl _ X1).alloc (Nat.le_refl _) _
  have s2 : X.heap.size = w.heap.size + 2 := by rw [← hX]; simp [s1]
  rw [s1] at g2
  have hst : SQ w l (.slice none 0 0) 0 X := ⟨b1.trans (b2.mono b1.size), (b2.block _ (Array.getElem?_eq_some_iff.1 g1).1).trans g1, g2, World.ownsRow_nil _ _ _ _⟩
  generalize hN : l.length = N at *
  have HL := Go.Lib.hid hl
  have HN := Go.Lib.hid hN
  have HST := Go.Lib.hid hst
  clear hl hN hst
  clear g1 b1 g2 b2
  go_enter Tryz.func18, Tryz.ntmps18
  go_wp2_with fail
  clear hX1 hX s1 s2
  go_loopw [4] (fun i wr => ∃ (k : Nat) (v : Value), i = .int .i64 k ∧ k ≤ N ∧ SQ w l v k wr) (fun i _ => N - (intOf i).toNat)
  case atStart => exact ⟨0, _, rfl, Nat.zero_le _, HST.out⟩
  case round =>
    clear HST
    obtain ⟨k, v, rfl, hk, hsq⟩ := hrel
    obtain ⟨av, cv, rfl, _, _⟩ := (SlC.of_owns hsq.own).slice
    by_cases hlt : k < N
    · obtain ⟨b, off, rfl, hbb, hcell⟩ := Strs.at HL.out (by rw [HN.out]; omega)
      have d0 := (hsq.hb.cell (p := ⟨b, off + k, none⟩) hbb).trans (hcell k (by rw [HN.out]; exact hlt))
      have hstep := setL_take (l := l) (k := k) (by rw [HN.out]; exact hlt)
      have wk : IntKind.i64.wrap ((k : Int) + 1) = (k : Int) + 1 := wrapi (by omega) (by omega)
      have hlt2 : (k : Int) < (N : Int) := by omega
      clear hcell
      generalize l.getD k [] = d at *
      obtain ⟨o3, ho3⟩ : ∃ o3 : Obj, o3 = .cells (setC [0] 2 (.slice av k cv) 0 [0]) 26 (0, 0) := ⟨_, rfl⟩
      have hC0 : CW w o3 b (off + k) d wr.drew := ⟨by rw [ho3]; exact hsq.r3, d0⟩
      have D0 : ∀ z : Subtype (CW w o3 b (off + k) d), z.1.cell? ⟨w.heap.size + 1, 2, none⟩ = some (.slice av k cv) := fun z => row_cell (cs := setC [0] 2 (.slice av k cv) 0 [0]) (z.2.1.trans (by rw [ho3])) 2 _ rfl
      have D1 : ∀ z : Subtype (CW w o3 b (off + k) d), z.1.cell? ⟨b, off + k, none⟩ = some (.string (mk d)) := fun z => z.2.2
      have hne : Nonempty (Subtype (CW w o3 b (off + k) d)) := ⟨⟨_, hC0⟩⟩
      have hwr3 := (Array.getElem?_eq_some_iff.1 hsq.r3).1
      have HC0 := Go.Lib.hid hC0
      have HSQ := Go.Lib.hid hsq
      have HSTEP := Go.Lib.hid hstep
      have HO3 := Go.Lib.hid ho3
      clear hC0 hsq hstep ho3
      clear d0
      go_wp2_with fail
      refine Go.Mix.wp_region_mixT (Es := [7, 8]) 10 (CW w o3 b (off + k) d) mixed (by kernel_rfl) HC0.out ?_
      iterate 7 (refine Go.Mix.mixT_step rfl (fun K hK => ?_); have HKK := Go.Lib.hid hK; clear hK; go_simp; refine HKK.out _ _ ?_; clear HKK K)
      refine Go.Mix.mixT_eff rfl (fun K hK => ?_)
      have HKK := Go.Lib.hid hK
      clear hK
      go_simp
      have hC1 : CW w o3 b (off + k) d (wr.alloc (.cells #[.string (mk [0]), .int .i64 2, .int .i64 1, .int .i64 0, .string (mk d)] 64)) := by
        obtain ⟨h1, h2⟩ := HC0.out
        exact ⟨(Below.heap_alloc _ _ _ (Array.getElem?_eq_some_iff.1 h1).1).trans h1, cell?_alloc_some _ h2⟩
      refine HKK.out _ _ hC1 ?_
      clear HKK K
      have hwq := HSQ.out.own.alloc (.cells #[.string (mk [0]), .int .i64 2, .int .i64 1, .int .i64 0, .string (mk d)] 64)
      have hnc := new_cells wr [.string (mk [0]), .int .i64 2, .int .i64 1, .int .i64 0, .string (mk d)] 64
      have hone5 := one_rr ⟨[0], 2, 1, 0, d⟩
      have HC1 := Go.Lib.hid hC1
      have HWQ := Go.Lib.hid hwq
      have HNC := Go.Lib.hid hnc
      have HONE5 := Go.Lib.hid hone5
      clear hC1 hwq hnc hone5
      refine mixT_app1 eiRRp (.tmp 14) (.tmp 20) rfl rfl rfl (w.heap.size + 2) (v := .slice av k cv) (n := k) (xs := encR (setL (l.take k))) (ad := ⟨wr.heap.size, 0, none⟩) (c := 1) rfl rfl HWQ.out (news := [.string (mk [0]), .int .i64 2, .int .i64 1, .int .i64 0, .string (mk d)]) rfl HNC.out HONE5.out (by unfold maxLen; omega) (by omega) (by simp; omega) (fun v5 W5 hown5 hg5 hsn5 => ?_)
      obtain ⟨g5, c5, rfl⟩ := ownsRow_succ hown5
      have hob : ∀ q, (Value.slice av k cv).ownBlock = some q → w.heap.size + 2 ≤ q := fun q hq => (HWQ.out.lt q hq).1
      have hC5 : CW w o3 b (off + k) d W5 := by
        obtain ⟨h1, h2⟩ := HC1.out
        refine ⟨(hg5.block _ (Array.getElem?_eq_some_iff.1 h1).1 (fun e => by have := hob _ e.symm; omega)).trans h1, ?_⟩
        have hlt5 : b < (wr.alloc (.cells #[.string (mk [0]), .int .i64 2, .int .i64 1, .int .i64 0, .string (mk d)] 64)).heap.size := by simp; omega
        rw [← h2]
        exact World.cell?_of_block (a := ⟨b, off + k, none⟩) (hg5.block b hlt5 (fun e => by have := hob _ e.symm; omega))
      refine ⟨hC5, ?_⟩
      have hb5 := below_app ((HSQ.out.hb.alloc HSQ.out.hb.size (.cells #[.string (mk [0]), .int .i64 2, .int .i64 1, .int .i64 0, .string (mk d)] 64))) HWQ.out ⟨hg5.os, hg5.tape, hg5.output, hg5.size, hg5.block⟩ (by omega) (by simp; omega)
      have r25 : W5.heap[w.heap.size]? = _ := (hg5.block _ (by show w.heap.size < (wr.alloc _).heap.size; simp; omega) (fun e => by have := hob _ e.symm; omega)).trans ((Below.heap_alloc _ _ _ (by omega)).trans HSQ.out.r2)
      have r35 : W5.heap[w.heap.size + 1]? = some (.cells (setC [0] 2 (.slice av k cv) 0 [0]) 26 (0, 0)) := hC5.1.trans (by rw [HO3.out])
      have y5 : W5.cell? ⟨w.heap.size + 1, 2, none⟩ = some (.slice av k cv) := row_cell r35 2 _ rfl
      have z5 : W5.frozen? ⟨w.heap.size + 1, 2, none⟩ = false := row_frozen r35 2
      have hsq5 : SQ w l (.slice (some ⟨g5, 0, none⟩) (k + 1) c5) (k + 1) (W5.setCell ⟨w.heap.size + 1, 2, none⟩ (.slice (some ⟨g5, 0, none⟩) (k + 1) c5)) := by
        refine ⟨hb5.setCell (p := ⟨w.heap.size + 1, 2, none⟩) (by show w.heap.size ≤ w.heap.size + 1; omega) _, (heap_set_other r35 (by omega)).trans r25, heap_set r35, ?_⟩
        rw [HSTEP.out, encR_snoc]
        exact own_setOther hown5 r35 (by decide) _ _
      have HSQ5 := Go.Lib.hid hsq5
      clear hsq5
      clear hown5 hg5 hsn5 hC5 hb5 r25 r35 hob
      iterate 1 (refine Go.Mix.mixT_step rfl (fun K hK => ?_); have HKK := Go.Lib.hid hK; clear hK; go_simp; refine HKK.out _ _ ?_; clear HKK K)
      refine Go.Mix.mixT_last rfl (fun K hK => ?_)
      have HKK := Go.Lib.hid hK
      clear hK
      go_simp
      refine HKK.out _ _ ?_
      clear HKK K
      go_wp2_with fail
      go_roundw
      case rel => exact ⟨k + 1, _, by go_num, by omega, HSQ5.out⟩
      case measure => simp [intOf]; omega
    · have hke : k = N := by omega
      have hlt2 : ¬ (k : Int) < (N : Int) := by omega
      have hall : l.take k = l := by rw [hke, ← HN.out, List.take_length]
      have ho := hsq.own
      rw [hall] at ho
      have hsl : (setL l).length = k := by unfold setL; rw [List.length_map, HN.out, hke]
      have m0 : wr.cell? ⟨w.heap.size + 1, 0, none⟩ = some (.string (mk [0])) := row_cell hsq.r3 0 _ rfl
      have m1 : wr.cell? ⟨w.heap.size + 1, 1, none⟩ = some (.int .i64 2) := row_cell hsq.r3 1 _ rfl
      have m2 : wr.cell? ⟨w.heap.size + 1, 2, none⟩ = some (.slice av k cv) := row_cell hsq.r3 2 _ rfl
      have m3 : wr.cell? ⟨w.heap.size + 1, 3, none⟩ = some (.int .i64 0) := row_cell hsq.r3 3 _ rfl
      have m4 : wr.cell? ⟨w.heap.size + 1, 4, none⟩ = some (.string (mk [0])) := row_cell hsq.r3 4 _ rfl
      have hr2 := hsq.r2
      have hb2 := hsq.hb
      have hone : (setC [0] 2 (.slice av k cv) 0 [0]).all (·.oneCell') = true := by simp [setC, Value.oneCell']
      have hss : RRs (wr.setRow w.heap.size (setC [0] 2 (.slice av k cv) 0 [0])) (.slice av k cv) (setL l) := by
        have h := ho.kept (w' := wr.setRow w.heap.size (setC [0] 2 (.slice av k cv) 0 [0])) (row := some w.heap.size) ⟨rfl, rfl, rfl, by rw [setRow_size]; exact Nat.le_refl _, fun q hq hne => by rw [setRow_other _ _ _ _ (fun e => hne (by rw [e]))]⟩ (by
          cases hv : (Value.slice av k cv).ownBlock with
          | none => exact .inl rfl
          | some g => right; intro e; have := (ho.lt g hv).1; cases e; omega)
        unfold RRs
        rw [hsl]
        exact SlC.of_owns h
      have HSL := Go.Lib.hid hsl
      have HR2 := Go.Lib.hid hr2
      have HB2 := Go.Lib.hid hb2
      have HSS := Go.Lib.hid hss
      clear hr2 hb2 hss
      clear hsq ho hsl hall hke
      go_wp2_with (refine wpList_store_row rfl 26 (.tmp 2) (.tmp 23) rfl w.heap.size (setC [0] 2 (.slice av k cv) 0 [0]) rfl rfl _ _ HR2.out infoSet rfl hone ?_)
      refine ret_set rfl rfl rfl (setRow_heap _ _ _ _ _ _ HR2.out) ⟨av, cv, by rw [HSL.out], ?_, below_setRow HB2.out (Nat.le_refl _) _⟩
      rw [HSL.out]
      exact HSS.out
end Go.Proofs.YtgbmclgnbbhcbaaGreat

/- Pick: freshetlaw15.two; told and Servers with no function. -/
namespace Go.Proofs.YtgbmclgnbbhcbaaGreat
open Go.RowKit Go.Sort Go.Lib
set_option maxRecDepth 100000
set_option linter.unusedVariables false
set_option linter.unusedSimpArgs false

theorem run_eql_nil {P : Program} (t : TypeId) {ps rs : Array TypeId} {va : Bool} (h : P.underlying t = some (.func ps rs va)) (w : World) : (binOp .eql t .nilFunc .nilFunc).run P w = .ok (.bool true) w := by
  have h1 : ∀ d : Nat, (Op.equalIn (d + 1) t .nilFunc .nilFunc).run P w = .ok true w := fun d => by
    simp [Op.equalIn, run_underlying h]
  simp only [binOp]
  simp [Op.equal, Op.maxDepth, h1 9999]
theorem told_nil (n : List UInt8) (w : World) : Calls Tryz.prog 24 #[.nilFunc, .string (mk n)] w (RetInts w []) := by
  have heq := fun W => run_eql_nil 37 Tryz.underlying37 W
  go_enter Tryz.func24, Tryz.ntmps24
  go_wp2_with fail
  go_ret
  exact ⟨_, rfl, World.ownsRow_nil _ _ _ _, Below.refl _ _⟩
set_option maxHeartbeats 4000000 in
theorem ServersV_any (kn : List UInt8) (kt kd : Int) (zn : List UInt8) (rs : List Rc.RR) (a : Option Addr) (cap : Nat) (fv : Value) (f : List UInt8 → List Int) (w : World) (hst : RRs w (.slice a rs.length cap) rs) (hok : ∀ r ∈ rs, RROk r) (hn : rs.length ≤ 1000)
    (hf : ∀ n ∈ targsN rs, ∀ W, Below w.heap.size w W → Calls Tryz.prog 24 #[fv, .string (mk n)] W (RetInts W (toldN (f n)))) (hz : ∀ n ∈ targsN rs, (toldN (f n)).length ≤ 1000) :
    Calls Tryz.prog 10 #[setV kn kt (.slice a rs.length cap) kd zn, fv] w (RetSvs w (servN f rs)) := by
  obtain ⟨X, hX⟩ : ∃ X, w.alloc (.cells (setC kn kt (.slice a rs.length cap) kd zn) 26) = X := ⟨_, rfl⟩
  have gX : X.heap[w.heap.size]? = some (.cells (setC kn kt (.slice a rs.length cap) kd zn) 26 (0, 0)) := by rw [← hX]; exact World.alloc_heap_new _ _
  have hbX : Below w.heap.size w X := by rw [← hX]; exact (Below.refl _ w).alloc (Nat.le_refl _) _
  have ht := Targets_any kn kt kd zn rs a cap X (hst.below hbX (Nat.le_refl _)) hok (by omega)
  have hTl : (targsN rs).length ≤ 1000 := by
    have h1 := targL_len rs
    have h2 : (insAll Nm.lessN (targL rs)).length ≤ (targL rs).length := insAll_len _
    have h3 : targsN rs = insAll Nm.lessN (targL rs) := rfl
    rw [h3]
    omega
  have hall := servK_all f rs
  generalize targsN rs = T at *
  have k0 : X.cell? ⟨w.heap.size, 0, none⟩ = some (.string (mk kn)) := row_cell gX 0 _ rfl
  have k1 : X.cell? ⟨w.heap.size, 1, none⟩ = some (.int .i64 kt) := row_cell gX 1 _ rfl
  have k2 : X.cell? ⟨w.heap.size, 2, none⟩ = some (.slice a rs.length cap) := row_cell gX 2 _ rfl
  have k3 : X.cell? ⟨w.heap.size, 3, none⟩ = some (.int .i64 kd) := row_cell gX 3 _ rfl
  have k4 : X.cell? ⟨w.heap.size, 4, none⟩ = some (.string (mk zn)) := row_cell gX 4 _ rfl
  have hsl := fun k hk => servK_len (f := f) (T := T) (fun n hm => (hz n hm)) k hk
  simp only [setV, setC] at ht
  have HST := Go.Lib.hid hst
  have HBX := Go.Lib.hid hbX
  have HT := Go.Lib.hid ht
  have HF := Go.Lib.hid hf
  have HZ := Go.Lib.hid hz
  have HALL := Go.Lib.hid hall
  have GX := Go.Lib.hid gX
  have HSL := Go.Lib.hid hsl
  clear hst hbX ht hf hz hall gX hsl
  simp only [setC] at hX
  generalize rs.length = N at *
  go_enter Tryz.func10, Tryz.ntmps10
  go_wp2_with fail
  refine HT.out.mono ?_; rintro e W1 ⟨v1, rfl, hs1, hb1⟩
  obtain ⟨a1, c1, rfl, _, _⟩ := SlC.slice hs1
  have hbw1 := HBX.out.trans (hb1.mono HBX.out.size)
  generalize hTn : T.length = M at *
  have HS1 := Go.Lib.hid hs1
  have HBW1 := Go.Lib.hid hbw1
  have HTN := Go.Lib.hid hTn
  clear hs1 hbw1 hTn
  clear hb1 hX k0 k1 k2 k3 k4
  go_wp2_with fail
  go_loopw [4, 12] (fun v i wr => ∃ k : Nat, i = .int .i64 k ∧ k ≤ M ∧ wr.ownsRow W1.heap.size 40 2 v (servK f T k).length (encV (servK f T k)) ∧ Below W1.heap.size W1 wr) (fun _ i _ => M - (intOf i).toNat)
  case atStart => exact ⟨0, rfl, Nat.zero_le _, World.ownsRow_nil _ _ _ _, Below.refl _ _⟩
  case round =>
    obtain ⟨k, rfl, hk, hown, hbr⟩ := hrel
    have hws := hbr.size
    have hlk := HSL.out k hk
    have hbw := HBW1.out.trans (hbr.mono HBW1.out.size)
    by_cases hlt : k < M
    · have hst1 : Strs wr (.slice a1 M c1) T := HS1.out.below hbr (Nat.le_refl _)
      obtain ⟨b, off, rfl, hbb, hcell⟩ := Strs.at hst1 (by rw [HTN.out]; omega)
      have d0 := hcell k (by rw [HTN.out]; exact hlt)
      have hmem : T.getD k [] ∈ T := by rw [List.getD_eq_getElem?_getD, List.getElem?_eq_getElem (by rw [HTN.out]; exact hlt)]; exact List.getElem_mem _
      have hstep := servK_step (f := f) (T := T) (k := k) (by rw [HTN.out]; exact hlt)
      have htold := HF.out _ hmem wr hbw
      have hzl := HZ.out _ hmem
      have w1 : IntKind.i64.wrap ((k : Int) + 1) = (k : Int) + 1 := wrapi (by omega) (by omega)
      have hlt2 : (k : Int) < (M : Int) := by omega
      clear hst1 hcell hmem
      generalize T.getD k [] = n at *
      generalize toldN (f n) = zs at *
      generalize servK f T k = S at *
      generalize wr = wo at *
      have HTOLD := Go.Lib.hid htold
      have HSTEP := Go.Lib.hid hstep
      have HOWN := Go.Lib.hid hown
      have HBR := Go.Lib.hid hbr
      clear htold hstep hown hbr
      clear hbw
      go_wp2_with fail
      refine HTOLD.out.mono ?_; rintro e W2 ⟨v2, rfl, ho2, hb2⟩
      obtain ⟨a2, c2, rfl, _, _⟩ := (SlC.of_owns ho2).slice
      have hownW := owns_below HOWN.out hb2
      have hbr2 := HBR.out.trans (hb2.mono HBR.out.size)
      generalize hzn : zs.length = Z at *
      have HOW := Go.Lib.hid hownW
      have HBR2 := Go.Lib.hid hbr2
      have HO2 := Go.Lib.hid ho2
      have HZN := Go.Lib.hid hzn
      clear hownW hbr2 ho2 hzn
      clear hb2
      go_wp2_with fail
      go_loopw [4, 20] (fun v i wr => ∃ j : Nat, i = .int .i64 j ∧ j ≤ Z ∧ wr.ownsRow W1.heap.size 40 2 v (S ++ (zs.take j).map fun a => (n, a)).length (encV (S ++ (zs.take j).map fun a => (n, a))) ∧ Below W1.heap.size W1 wr ∧ wr.ownsRow wo.heap.size 3 1 (.slice a2 Z c2) Z (zs.map (Value.int .i64))) (fun _ i _ => Z - (intOf i).toNat)
      case atStart => exact ⟨0, rfl, Nat.zero_le _, by rw [List.take_zero, List.map_nil, List.append_nil]; exact HOW.out, HBR2.out, HO2.out⟩
      case round =>
        clear HOW HBR2 HO2
        obtain ⟨j, rfl, hj, hownS, hbS, hownI⟩ := hrel
        have hwsS := hbS.size
        by_cases hjl : j < Z
        · have hints : Ints wr (.slice a2 Z c2) zs := by have h := SlC.of_owns hownI; unfold Ints; rw [HZN.out]; exact h
          obtain ⟨b', off', rfl, hbb', hcell'⟩ := Ints.at hints (by rw [HZN.out]; omega)
          have f0 := hcell' j (by rw [HZN.out]; exact hjl)
          have hstepJ : S ++ (zs.take (j + 1)).map (fun a => (n, a)) = (S ++ (zs.take j).map fun a => (n, a)) ++ [(n, zs.getD j 0)] := by
            rw [List.take_succ_eq_append_getElem (by rw [HZN.out]; exact hjl), List.map_append, List.append_assoc, List.getD_eq_getElem?_getD, List.getElem?_eq_getElem (by rw [HZN.out]; exact hjl)]
            rfl
          have hlen5 : (S ++ (zs.take j).map fun a => (n, a)).length ≤ 10000000 := by
            rw [List.length_append, List.length_map, List.length_take]
            omega
          have wj : IntKind.i64.wrap ((j : Int) + 1) = (j : Int) + 1 := wrapi (by omega) (by omega)
          have hjl2 : (j : Int) < (Z : Int) := by omega
          clear hints hcell'
          generalize zs.getD j 0 = x at *
          generalize S ++ (zs.take j).map (fun a => (n, a)) = L at *
          have hownL := hownS.alloc (.cells #[.string (mk n), .int .i64 x] 40)
          have hownJ := hownI.alloc (.cells #[.string (mk n), .int .i64 x] 40)
          have hbL := hbS.alloc hwsS (.cells #[.string (mk n), .int .i64 x] 40)
          have hzL := hbL.size
          have HOL := Go.Lib.hid hownL
          have HOJ := Go.Lib.hid hownJ
          have HBL := Go.Lib.hid hbL
          have HSTJ := Go.Lib.hid hstepJ
          clear hownL hownJ hbL hstepJ
          clear hownS hbS hownI
          go_wp2_with (at_builtin; refine wpList_app1 eiSv (.tmp 24) (.tmp 28) rfl rfl W1.heap.size rfl rfl HOL.out (news := [.string (mk n), .int .i64 x]) rfl (new_cells _ _ _) (one_sv (n, x)) (by unfold maxLen; omega) (by omega) (by simp; omega) ?_; intro v5 W5 hown5 hg5 hsn5)
          go_roundw
          case rel => exact ⟨j + 1, by go_num, by omega, by rw [HSTJ.out, List.length_append, encV_snoc]; exact hown5, below_app HBL.out HOL.out hg5 (Nat.le_refl _) hzL, HOJ.out.kept hg5 (rows_apart HOJ.out HOL.out (by decide))⟩
          case measure => simp [intOf]; omega
        · have hje : j = Z := by omega
          have hfin : S ++ (zs.take j).map (fun a => (n, a)) = servK f T (k + 1) := by rw [HSTEP.out, hje, ← HZN.out, List.take_length]
          rw [hfin] at hownS
          have hjl2 : ¬ (j : Int) < (Z : Int) := by omega
          have HOS := Go.Lib.hid hownS
          have HBS := Go.Lib.hid hbS
          clear hownS hbS
          clear hfin hje hownI
          go_wp2_with fail
          go_roundw
          case rel => exact ⟨k + 1, by go_num, by omega, HOS.out, HBS.out⟩
          case measure => simp [intOf]; omega
    · have hke : k = M := by omega
      have hfin : servK f T k = servN f rs := by rw [hke]; exact HALL.out
      rw [hfin] at hown
      have hlt2 : ¬ (k : Int) < (M : Int) := by omega
      have HOWN := Go.Lib.hid hown
      have HBW := Go.Lib.hid hbw
      clear hown hbw
      clear hke hfin hbr
      go_wp2_with fail
      go_ret
      exact ⟨_, rfl, SlC.of_owns HOWN.out, HBW.out⟩
/-- the addresses that two tells -/
def twoF (n : List UInt8) : List Int := if n = [1, 97, 0] then [2, 1, 2] else []
theorem two_any (n : List UInt8) (hn : n.length ≤ 1000000) (w : World) : TellsA Tryz.prog 19 #[] n (twoF n) w := by
  intro W hW
  clear hW
  by_cases h : n = [1, 97, 0]
  · have ht : twoF n = [2, 1, 2] := if_pos h
    have he : ((mk n).toList == [1, 97, 0]) = true := by rw [toList_bl, bl_mk, beq_iff_eq]; exact h
    rw [ht]
    clear ht h
    go_enter Tryz.func19, Tryz.ntmps19
    go_wp2_with fail
    go_ret
    exact ⟨_, rfl, slc_new _ 1 3 3 [.int .i64 2, .int .i64 1, .int .i64 2] rfl (by decide), (Below.refl _ W).alloc (Nat.le_refl _) _⟩
  · have ht : twoF n = [] := if_neg h
    have he : ((mk n).toList == [1, 97, 0]) = false := by rw [toList_bl, bl_mk, beq_eq_false_iff_ne]; exact h
    rw [ht]
    clear ht h
    go_enter Tryz.func19, Tryz.ntmps19
    go_wp2_with fail
    go_ret
    exact ⟨_, rfl, SlC.nil _ _, Below.refl _ _⟩
end Go.Proofs.YtgbmclgnbbhcbaaGreat

/- Pick: freshetlaw15.awake. -/
namespace Go.Proofs.YtgbmclgnbbhcbaaGreat
open Go.RowKit Go.Sort Go.Lib
set_option maxRecDepth 100000
set_option linter.unusedVariables false
set_option linter.unusedSimpArgs false

def awS : List Rc.RR := [⟨[0], 2, 1, 0, [1, 98, 0]⟩, ⟨[0], 2, 1, 0, [1, 65, 0]⟩]
def awA : List Sv := [([1, 97, 0], 1), ([1, 97, 0], 2)]
def awH : List Sv := [([1, 98, 0], 2), ([1, 65, 0], 3), ([1, 97, 0], 3), ([120], 1)]
def awR : List Sv := [([1, 97, 0], 3), ([1, 98, 0], 2)]
theorem aw_targs : targsN awS = [[1, 97, 0], [1, 98, 0]] := by decide +kernel
theorem aw_serv : servN twoF awS = awA := by decide +kernel
theorem aw_serv0 : servN (fun _ => []) awS = [] := by decide +kernel
theorem aw_next1 : nextN awA [([], 1)] = some ([1, 97, 0], 2) := by decide +kernel
theorem aw_next2 : nextN awA awA = none := by decide +kernel
theorem aw_miss1 : missN twoF awS [] = some [1, 98, 0] := by decide +kernel
theorem aw_miss2 : missN twoF awS [[1, 66, 0]] = none := by decide +kernel
theorem aw_hints : hintsN awH = awR := by decide +kernel
theorem aw_ok : ∀ r ∈ awS, RROk r := by
  intro r hr
  simp only [awS, List.mem_cons, List.not_mem_nil, or_false] at hr
  rcases hr with rfl | rfl <;> exact ⟨by decide, by decide⟩
theorem aw_two (w : World) : ∀ n ∈ targsN awS, TellsA Tryz.prog 19 #[] n (twoF n) w := by
  rw [aw_targs]
  intro n hn
  simp only [List.mem_cons, List.not_mem_nil, or_false] at hn
  rcases hn with rfl | rfl <;> exact two_any _ (by decide) w
theorem aw_len : ∀ n ∈ targsN awS, (twoF n).length ≤ 1000000 ∧ (toldN (twoF n)).length ≤ 1000 := by
  rw [aw_targs]
  intro n hn
  simp only [List.mem_cons, List.not_mem_nil, or_false] at hn
  rcases hn with rfl | rfl <;> exact ⟨by decide, by decide⟩
theorem wpList_load_rowG {P : Program} {ops : Array Oper} {rest : List Oper} {o : Oper} {a : Act} {w : World} {Q : Exit → Act → World → Prop} (hgd : Region.wanted o (yielded ops a.tmps) = true) (ty : TypeId) (x : Operand) (ho : o.op = .load ty x)
    (g : Nat) (hx : a.eval x = .pointer (some ⟨g, 0, none⟩)) (t : TypeId) (cs : Array Value) (fr : Nat × Nat) (d : TypeDesc) (hg : w.heap[g]? = some (.cells cs t fr))
    (hu : P.underlying ty = some d) (hd : (match d with | .struct _ | .array _ _ => true | _ => false) = true) (hi : (P.info? ty).map (·.size) = some cs.size)
    (h : wpList P ops Q rest (a.put o.dst (.agg cs)) w) : wpList P ops Q (o :: rest) a w :=
  wpList_step fun K hK => by
    rw [if_pos hgd]
    exact wp_load_row ty x ho g hx t cs fr d hg hu hd hi (hK _ _ h)
/-- the state from the first Next on -/
structure AWQ (w W : World) (b1 b3 : Nat) (a1 : Option Addr) (c1 : Nat) (a2 : Option Addr) (c2 : Nat) : Prop where
  hb : Below w.heap.size w W
  g1 : W.heap[b1]? = some (.cells (setC [0] 2 (.slice a1 2 c1) 0 [0]) 26 (0, 0))
  rr : RRs W (.slice a1 2 c1) awS
  sv : Svs W (.slice a2 2 c2) awA
  g3 : W.heap[b3]? = some (.cells (svC ([1, 97, 0], 2)) 40 (0, 0))
theorem AWQ.below {w W W' : World} {b1 b3 : Nat} {a1 a2 : Option Addr} {c1 c2 : Nat} (h : AWQ w W b1 b3 a1 c1 a2 c2) (hb : Below W.heap.size W W') : AWQ w W' b1 b3 a1 c1 a2 c2 :=
  ⟨h.hb.trans (hb.mono h.hb.size), (hb.block _ (Array.getElem?_eq_some_iff.1 h.g1).1).trans h.g1, h.rr.below hb (Nat.le_refl _), SlC.below h.sv hb (Nat.le_refl _), (hb.block _ (Array.getElem?_eq_some_iff.1 h.g3).1).trans h.g3⟩
theorem AWQ.alloc {w W : World} {b1 b3 : Nat} {a1 a2 : Option Addr} {c1 c2 : Nat} (h : AWQ w W b1 b3 a1 c1 a2 c2) (o : Obj) : AWQ w (W.alloc o) b1 b3 a1 c1 a2 c2 := h.below ((Below.refl _ W).alloc (Nat.le_refl _) o)
set_option maxHeartbeats 4000000 in
theorem awake_any (w : World) : Calls Tryz.prog 6 #[] w fun e w' => e = .returned (.bool true) ∧ Below w.heap.size w w' := by
  have hu := Tryz.underlying26
  obtain ⟨X, hX⟩ : ∃ X, w.alloc (.cells #[.string ⟨#[1, 98, 0]⟩, .string ⟨#[1, 65, 0]⟩] 9) = X := ⟨_, rfl⟩
  have hbX : Below w.heap.size w X := by rw [← hX]; exact (Below.refl _ w).alloc (Nat.le_refl _) _
  have hst : Strs X (.slice (some ⟨w.heap.size, 0, none⟩) 2 2) [[1, 98, 0], [1, 65, 0]] := by rw [← hX]; exact slc_new w 1 2 9 [.string (mk [1, 98, 0]), .string (mk [1, 65, 0])] rfl (by decide)
  have hset : Calls Tryz.prog 18 #[.slice (some ⟨w.heap.size, 0, none⟩) 2 2] X fun e w' => ∃ a c, e = .returned (setV [0] 2 (.slice a 2 c) 0 [0]) ∧ RRs w' (.slice a 2 c) awS ∧ Below X.heap.size X w' := set_any [[1, 98, 0], [1, 65, 0]] _ 2 X hst (by decide)
  have hone : ∀ a c, (setC [0] 2 (.slice a 2 c) 0 [0]).all (·.oneCell') = true := fun a c => by simp [setC, Value.oneCell']
  have HBX := Go.Lib.hid hbX
  have HSET := Go.Lib.hid hset
  have HONE := Go.Lib.hid hone
  have HU := Go.Lib.hid hu
  clear hbX hset hone hu
  clear hst
  go_enter Tryz.func6, Tryz.ntmps6
  go_wp2_with fail
  refine HSET.out.mono ?_; rintro e W1 ⟨a1, c1, rfl, hrr1, hb1⟩
  obtain ⟨Y1, hY1⟩ : ∃ Y, W1.alloc (.cells (setC [0] 2 (.slice a1 2 c1) 0 [0]) 26) = Y := ⟨_, rfl⟩
  have g1 : Y1.heap[W1.heap.size]? = some (.cells (setC [0] 2 (.slice a1 2 c1) 0 [0]) 26 (0, 0)) := by rw [← hY1]; exact World.alloc_heap_new _ _
  have hbY : Below W1.heap.size W1 Y1 := by rw [← hY1]; exact (Below.refl _ W1).alloc (Nat.le_refl _) _
  have hrr : RRs Y1 (.slice a1 2 c1) awS := hrr1.below hbY (Nat.le_refl _)
  have hbw := HBX.out.trans ((hb1.trans (hbY.mono hb1.size)).mono HBX.out.size)
  have hsv := Servers_any [0] 2 0 [0] awS a1 c1 19 #[] twoF Y1 hrr aw_ok (by decide) (enters_of Tryz.func19 (by kernel_rfl) rfl) (aw_two Y1) aw_len
  rw [aw_serv] at hsv
  have G1 := Go.Lib.hid g1
  have HRR := Go.Lib.hid hrr
  have HBW := Go.Lib.hid hbw
  have HSV := Go.Lib.hid hsv
  clear g1 hrr hbw hsv
  clear hb1 hrr1 hbY
  go_wp2_with (first | (refine wpList_store_row rfl 26 (.tmp 1) (.tmp 13) rfl W1.heap.size (setC [0] 2 (.slice a1 2 c1) 0 [0]) rfl rfl _ _ (World.alloc_heap_new _ _) infoSet rfl (HONE.out a1 c1) ?_; rw [World.setRow_alloc_new, hY1]) | (refine wpList_load_row rfl 26 (.tmp 1) rfl W1.heap.size rfl 26 (setC [0] 2 (.slice a1 2 c1) 0 [0]) (0, 0) _ G1.out HU.out rfl infoSet ?_))
  refine HSV.out.mono ?_; rintro e W2 ⟨v2, rfl, hs2, hb2⟩
  obtain ⟨a2, c2, rfl, _, _⟩ := SlC.slice (show SlC W2 2 v2 2 (encV awA) from hs2)
  obtain ⟨X2, hX2⟩ : ∃ X, W2.alloc (.cells #[.string ⟨#[]⟩, .int .i64 1] 40) = X := ⟨_, rfl⟩
  have hbX2 : Below W2.heap.size W2 X2 := by rw [← hX2]; exact (Below.refl _ W2).alloc (Nat.le_refl _) _
  have hn1 : Svs X2 (.slice (some ⟨W2.heap.size, 0, none⟩) 1 1) [([], 1)] := by rw [← hX2]; exact slc_new W2 2 1 40 [.string (mk []), .int .i64 1] rfl (by decide)
  have hs2' : Svs X2 (.slice a2 2 c2) awA := SlC.below hs2 hbX2 (Nat.le_refl _)
  have hnx := Next_any awA [([], 1)] a2 (some ⟨W2.heap.size, 0, none⟩) c2 1 X2 hs2' hn1 (by decide) (by decide)
  rw [aw_next1] at hnx
  have hnx2 : Calls Tryz.prog 11 #[.slice a2 2 c2, .slice (some ⟨W2.heap.size, 0, none⟩) 1 1] X2 fun e w' => e = .returned (.tuple #[.agg #[.string ⟨#[1, 97, 0]⟩, .int .i64 2], .bool true]) ∧ Below X2.heap.size X2 w' := hnx
  have hb12 := hb2.trans (hbX2.mono hb2.size)
  have HB12 := Go.Lib.hid hb12
  have HNX2 := Go.Lib.hid hnx2
  have HS2P := Go.Lib.hid hs2'
  clear hb12 hnx2 hs2'
  clear hn1 hnx hb2 hbX2 hs2
  go_wp2_with fail
  refine HNX2.out.mono ?_; rintro e W3 ⟨rfl, hb3⟩
  obtain ⟨Y3, hY3⟩ : ∃ Y, W3.alloc (.cells #[.string ⟨#[1, 97, 0]⟩, .int .i64 2] 40) = Y := ⟨_, rfl⟩
  have hq3 : AWQ w Y3 W1.heap.size W3.heap.size a1 c1 a2 c2 := by
    have h13 := HB12.out.trans (hb3.mono HB12.out.size)
    have hY : Below W3.heap.size W3 Y3 := by rw [← hY3]; exact (Below.refl _ W3).alloc (Nat.le_refl _) _
    have h1Y := h13.trans (hY.mono h13.size)
    exact ⟨HBW.out.trans (h1Y.mono HBW.out.size), (h1Y.block _ (Array.getElem?_eq_some_iff.1 G1.out).1).trans G1.out, HRR.out.below h1Y (Nat.le_refl _), SlC.below HS2P.out (hb3.trans (hY.mono hb3.size)) (Nat.le_refl _), by rw [← hY3]; exact World.alloc_heap_new W3 _⟩
  have hnx := Next_any awA awA a2 a2 c2 c2 Y3 hq3.sv hq3.sv (by decide) (by decide)
  rw [aw_next2] at hnx
  have hnx3 : Calls Tryz.prog 11 #[.slice a2 2 c2, .slice a2 2 c2] Y3 fun e w' => e = .returned (.tuple #[.agg #[.string ⟨#[]⟩, .int .i64 0], .bool false]) ∧ Below Y3.heap.size Y3 w' := hnx
  have HQ3 := Go.Lib.hid hq3
  have HNX3 := Go.Lib.hid hnx3
  clear hq3 hnx3
  clear hb3 hnx HB12 HNX2 HS2P G1 HBW HRR
  go_wp2_with (first | (refine wpList_store_row rfl 40 (.tmp 3) (.tmp 21) rfl W3.heap.size #[.string ⟨#[1, 97, 0]⟩, .int .i64 2] rfl rfl _ _ (World.alloc_heap_new _ _) infoZ rfl rfl ?_; rw [World.setRow_alloc_new, hY3]))
  refine HNX3.out.mono ?_; rintro e W4 ⟨rfl, hb4⟩
  obtain ⟨Y4, hY4⟩ : ∃ Y, W4.alloc (.cells #[.string ⟨#[]⟩, .int .i64 0] 40) = Y := ⟨_, rfl⟩
  have hq4 : AWQ w Y4 W1.heap.size W3.heap.size a1 c1 a2 c2 := by rw [← hY4]; exact (HQ3.out.below hb4).alloc _
  have hms := Missing_any [0] 2 0 [0] awS a1 c1 19 #[] twoF [] none 0 Y4 hq4.rr aw_ok (by decide) (enters_of Tryz.func19 (by kernel_rfl) rfl) (aw_two Y4) (fun n hn => (aw_len n hn).1) (SlC.nil _ _) (by decide) (fun x hx => by cases hx)
  rw [aw_miss1] at hms
  have hms4 : Calls Tryz.prog 14 #[.agg (setC [0] 2 (.slice a1 2 c1) 0 [0]), .func (.func 19) #[] #[], .slice none 0 0] Y4 fun e w' => e = .returned (.tuple #[.string ⟨#[1, 98, 0]⟩, .bool true]) ∧ Below Y4.heap.size Y4 w' := hms
  have g14 := hq4.g1
  have HY4 := Go.Lib.hid hY4
  clear hY4
  have HQ4 := Go.Lib.hid hq4
  have HMS4 := Go.Lib.hid hms4
  have G14 := Go.Lib.hid g14
  clear hq4 hms4 g14
  clear hb4 hms HNX3 HQ3
  go_wp2_with (refine wpList_load_row rfl 26 (.tmp 1) rfl W1.heap.size rfl 26 (setC [0] 2 (.slice a1 2 c1) 0 [0]) (0, 0) _ (by rw [HY4.out]; exact G14.out) HU.out rfl infoSet ?_)
  rw [HY4.out]
  refine HMS4.out.mono ?_; rintro e W5 ⟨rfl, hb5⟩
  obtain ⟨Y5, hY5⟩ : ∃ Y, W5.alloc (.cells #[.string ⟨#[1, 66, 0]⟩] 9) = Y := ⟨_, rfl⟩
  have hq5' := HQ4.out.below hb5
  have g15 := hq5'.g1
  have hq5 : AWQ w Y5 W1.heap.size W3.heap.size a1 c1 a2 c2 := by rw [← hY5]; exact hq5'.alloc _
  have ht5 : Strs Y5 (.slice (some ⟨W5.heap.size, 0, none⟩) 1 1) [[1, 66, 0]] := by rw [← hY5]; exact slc_new W5 1 1 9 [.string (mk [1, 66, 0])] rfl (by decide)
  have hms := Missing_any [0] 2 0 [0] awS a1 c1 19 #[] twoF [[1, 66, 0]] (some ⟨W5.heap.size, 0, none⟩) 1 Y5 hq5.rr aw_ok (by decide) (enters_of Tryz.func19 (by kernel_rfl) rfl) (aw_two Y5) (fun n hn => (aw_len n hn).1) ht5 (by decide) (fun x hx => by rw [List.mem_singleton] at hx; subst hx; decide)
  rw [aw_miss2] at hms
  have hms5 : Calls Tryz.prog 14 #[.agg (setC [0] 2 (.slice a1 2 c1) 0 [0]), .func (.func 19) #[] #[], .slice (some ⟨W5.heap.size, 0, none⟩) 1 1] Y5 fun e w' => e = .returned (.tuple #[.string ⟨#[]⟩, .bool false]) ∧ Below Y5.heap.size Y5 w' := hms
  have HQ5 := Go.Lib.hid hq5
  have HMS5 := Go.Lib.hid hms5
  have G15 := Go.Lib.hid g15
  clear hq5 hms5 g15
  clear hb5 hms HMS4 HQ4 G14 ht5 hq5'
  go_wp2_with (refine wpList_load_row rfl 26 (.tmp 1) rfl W1.heap.size rfl 26 (setC [0] 2 (.slice a1 2 c1) 0 [0]) (0, 0) _ G15.out HU.out rfl infoSet ?_)
  refine HMS5.out.mono ?_; rintro e W6 ⟨rfl, hb6⟩
  obtain ⟨Y6, hY6⟩ : ∃ Y, W6.alloc (.cells #[.string ⟨#[1, 98, 0]⟩, .int .i64 2, .string ⟨#[1, 65, 0]⟩, .int .i64 3, .string ⟨#[1, 97, 0]⟩, .int .i64 3, .string ⟨#[120]⟩, .int .i64 1] 40) = Y := ⟨_, rfl⟩
  have hq6 : AWQ w Y6 W1.heap.size W3.heap.size a1 c1 a2 c2 := by rw [← hY6]; exact (HQ5.out.below hb6).alloc _
  have hh6 : Svs Y6 (.slice (some ⟨W6.heap.size, 0, none⟩) 4 4) awH := by rw [← hY6]; exact slc_new W6 2 4 40 (encV awH) rfl (by decide)
  have hhi : Calls Tryz.prog 20 #[.slice (some ⟨W6.heap.size, 0, none⟩) 4 4] Y6 (RetSvs Y6 (hintsN awH)) := Hints_any awH (some ⟨W6.heap.size, 0, none⟩) 4 Y6 hh6 (by decide) (fun x hx => by simp only [awH, List.mem_cons, List.not_mem_nil, or_false] at hx; rcases hx with rfl | rfl | rfl | rfl <;> decide)
  rw [aw_hints] at hhi
  have HQ6 := Go.Lib.hid hq6
  have HHI := Go.Lib.hid hhi
  clear hq6 hhi
  clear hb6 HMS5 HQ5 G15 hh6
  go_wp2_with fail
  refine HHI.out.mono ?_; rintro e W7 ⟨v7, rfl, hs7, hb7⟩
  obtain ⟨a7, c7, rfl, _, _⟩ := SlC.slice (show SlC W7 2 v7 2 (encV awR) from hs7)
  obtain ⟨Y8, hY8⟩ : ∃ Y, W7.alloc (.cells #[.string ⟨#[1, 97, 0]⟩, .int .i64 1, .string ⟨#[1, 97, 0]⟩, .int .i64 2] 40) = Y := ⟨_, rfl⟩
  have hbY8 : Below W7.heap.size W7 Y8 := by rw [← hY8]; exact (Below.refl _ W7).alloc (Nat.le_refl _) _
  have hq8 : AWQ w Y8 W1.heap.size W3.heap.size a1 c1 a2 c2 := (HQ6.out.below hb7).below hbY8
  have hh8 : Svs Y8 (.slice (some ⟨W7.heap.size, 0, none⟩) 2 2) awA := by rw [← hY8]; exact slc_new W7 2 2 40 (encV awA) rfl (by decide)
  have hs78 : Svs Y8 (.slice a7 2 c7) awR := SlC.below hs7 hbY8 (Nat.le_refl _)
  have hsm := sameSvs_any awA awA a2 (some ⟨W7.heap.size, 0, none⟩) c2 2 Y8 hq8.sv hh8 (by decide)
  rw [decide_eq_true (rfl : awA = awA)] at hsm
  have hsm8 : Calls Tryz.prog 16 #[.slice a2 2 c2, .slice (some ⟨W7.heap.size, 0, none⟩) 2 2] Y8 fun e w' => e = .returned (.bool true) ∧ Below Y8.heap.size Y8 w' := hsm
  have HQ8 := Go.Lib.hid hq8
  have HS78 := Go.Lib.hid hs78
  have HSM8 := Go.Lib.hid hsm8
  clear hq8 hs78 hsm8
  clear hb7 hs7 hh8 hsm hbY8 HHI HQ6
  go_wp2_with fail
  refine HSM8.out.mono ?_; rintro e W8 ⟨rfl, hb8⟩
  have hq8' := HQ8.out.below hb8
  have k8 : W8.cell? ⟨W3.heap.size, 1, none⟩ = some (.int .i64 2) := row_cell hq8'.g3 1 _ rfl
  obtain ⟨Y9, hY9⟩ : ∃ Y, W8.alloc (.cells #[.string ⟨#[1, 97, 0]⟩, .int .i64 3, .string ⟨#[1, 98, 0]⟩, .int .i64 2] 40) = Y := ⟨_, rfl⟩
  have hbY9 : Below W8.heap.size W8 Y9 := by rw [← hY9]; exact (Below.refl _ W8).alloc (Nat.le_refl _) _
  have hq9 : AWQ w Y9 W1.heap.size W3.heap.size a1 c1 a2 c2 := hq8'.below hbY9
  have hh9 : Svs Y9 (.slice (some ⟨W8.heap.size, 0, none⟩) 2 2) awR := by rw [← hY9]; exact slc_new W8 2 2 40 (encV awR) rfl (by decide)
  have hs79 : Svs Y9 (.slice a7 2 c7) awR := SlC.below (SlC.below HS78.out hb8 (Nat.le_refl _)) hbY9 (Nat.le_refl _)
  have hsm := sameSvs_any awR awR a7 (some ⟨W8.heap.size, 0, none⟩) c7 2 Y9 hs79 hh9 (by decide)
  rw [decide_eq_true (rfl : awR = awR)] at hsm
  have hsm9 : Calls Tryz.prog 16 #[.slice a7 2 c7, .slice (some ⟨W8.heap.size, 0, none⟩) 2 2] Y9 fun e w' => e = .returned (.bool true) ∧ Below Y9.heap.size Y9 w' := hsm
  have HQ9 := Go.Lib.hid hq9
  have HSM9 := Go.Lib.hid hsm9
  clear hq9 hsm9
  clear hb8 hq8' hh9 hs79 hsm hbY9 HQ8 HSM8 HS78
  go_wp2_with fail
  refine HSM9.out.mono ?_; rintro e W9 ⟨rfl, hb9⟩
  have hq10 := HQ9.out.below hb9
  have g19 := hq10.g1
  have hb10 := hq10.hb
  have hsv := ServersV_any [0] 2 0 [0] awS a1 c1 .nilFunc (fun _ => []) W9 hq10.rr aw_ok (by decide) (fun n _ W _ => told_nil n W) (fun n _ => by decide)
  rw [aw_serv0] at hsv
  have G19 := Go.Lib.hid g19
  have HB10 := Go.Lib.hid hb10
  have HSVN := Go.Lib.hid hsv
  clear g19 hb10 hsv
  clear hb9 hq10 HQ9 HSM9
  go_wp2_with (refine wpList_load_rowG rfl 26 (.tmp 1) rfl W1.heap.size rfl 26 (setC [0] 2 (.slice a1 2 c1) 0 [0]) (0, 0) _ G19.out HU.out rfl infoSet ?_)
  refine HSVN.out.mono ?_; rintro e W10 ⟨v10, rfl, hs10, hb11⟩
  obtain ⟨a10, c10, rfl, _, _⟩ := SlC.slice (show SlC W10 2 v10 0 (encV []) from hs10)
  have hbz := HB10.out.trans (hb11.mono HB10.out.size)
  have HBZ := Go.Lib.hid hbz
  clear hbz
  clear hs10 hb11
  go_wp2_with fail
  go_ret
  exact ⟨rfl, HBZ.out⟩
end Go.Proofs.YtgbmclgnbbhcbaaGreat

/- A region whose order is left open, with several effects that need not wait for one another: each effect leaves a fact that all others keep (rely and guarantee); walked once, in the order of the text, over whatever values the effects yield. No conditions beside. -/
namespace Go.Mix
open Go
section
variable {P : Program} {ops : Array Oper} {md : Region.Mode} {E : Nat → Bool} {G : World → World → Prop} {w0 : World} {F : Nat → Value → World → Prop} {Sp : Nat → Value → Prop}

/-- what an effect's outcome leaves: its value, and the world -/
def EffR (P : Program) (R : Value → World → Prop) : Result Next → Prop
  | .ok (.value v) w' => R v w'
  | .ok .skip w' => R undef w'
  | .ok (.enter f args) w' => Calls P f args w' fun e w'' => match e with | .returned v => R v w'' | _ => False
  | .ok (.row row args) w' => Rows P row args w' R
  | _ => False
theorem EffR.upon {R : Value → World → Prop} {r : Result Next} {o : Oper} {a : Act} {K : Act → World → Prop} {Q : Exit → Act → World → Prop} (h : EffR P R r) (hK : ∀ v w', R v w' → K (a.put o.dst v) w') : o.upon P a K Q r := by
  cases r with
  | ok n w' =>
    cases n <;> simp only [EffR] at h
    case value v => exact hK _ _ h
    case skip => exact hK _ _ h
    case enter f args =>
      refine Calls.mono h fun e w'' he => ?_
      cases e with
      | returned v => exact hK _ _ he
      | panicked c => exact he.elim
      | outgrown => exact he.elim
    case row r args => exact Rows.mono h fun v w'' he => hK _ _ he
  | halt x w' => cases x <;> exact h.elim

/-- in whatever world of the class: the effect stays in it, and leaves its fact -/
def Eff (P : Program) (G : World → World → Prop) (w0 : World) (Fi : Value → World → Prop) (x : Sem Next) : Prop := ∀ w, G w0 w → EffR P (fun v w' => G w w' ∧ Fi v w') (x.run P w)

/-- operation i comes up; the facts so far: Φ -/
def rOp (P : Program) (ops : Array Oper) (E : Nat → Bool) (G : World → World → Prop) (w0 : World) (F : Nat → Value → World → Prop) (Sp : Nat → Value → Prop) (i : Nat) (K : Act → (World → Prop) → Prop) (a : Act) (Φ : World → Prop) : Prop :=
  match ops[i]? with
  | none => K a Φ
  | some o =>
    if Region.wanted o (yielded ops a.tmps) then
      if E i then Eff P G w0 (fun v w => Sp i v ∧ F i v w) (execOp a.eval o) ∧ ∀ v, Sp i v → K (a.put o.dst v) (fun w => Φ w ∧ F i v w)
      else ∃ v, (∀ w2, G w0 w2 → (execOp a.eval o).run P w2 = .ok (.value v) w2) ∧ K (a.put o.dst v) Φ
    else K (a.put o.dst undef) Φ

theorem rOp_mono {i : Nat} {K K' : Act → (World → Prop) → Prop} {a : Act} {Φ : World → Prop} (h : ∀ a Φ, K a Φ → K' a Φ) (hh : rOp P ops E G w0 F Sp i K a Φ) : rOp P ops E G w0 F Sp i K' a Φ := by
  unfold rOp at *
  split
  · rename_i ho; simp only [ho] at hh; exact h _ _ hh
  · rename_i o ho
    simp only [ho] at hh
    split
    · rename_i hw
      simp only [hw, if_true] at hh
      split
      · rename_i hE
        simp only [hE, if_true] at hh
        exact ⟨hh.1, fun v hv => h _ _ (hh.2 v hv)⟩
      · rename_i hE
        simp only [hE] at hh
        obtain ⟨v, h1, h2⟩ := hh
        exact ⟨v, h1, h _ _ h2⟩
    · rename_i hw
      simp only [hw] at hh
      exact h _ _ hh

/-- K is none the less true where more is known -/
def Anti (K : Act → (World → Prop) → Prop) : Prop := ∀ a (Φ Φ' : World → Prop), K a Φ → (∀ w, Φ' w → Φ w) → K a Φ'
theorem rOp_anti {i : Nat} {K : Act → (World → Prop) → Prop} (hK : Anti K) : Anti (rOp P ops E G w0 F Sp i K) := by
  intro a Φ Φ' h hi
  unfold rOp at *
  split
  · rename_i ho; simp only [ho] at h; exact hK _ _ _ h hi
  · rename_i o ho
    simp only [ho] at h
    split
    · rename_i hw
      simp only [hw, if_true] at h
      split
      · rename_i hE
        simp only [hE, if_true] at h
        exact ⟨h.1, fun v hv => hK _ _ _ (h.2 v hv) fun w hw => ⟨hi w hw.1, hw.2⟩⟩
      · rename_i hE
        simp only [hE] at h
        obtain ⟨v, h1, h2⟩ := h
        exact ⟨v, h1, hK _ _ _ h2 hi⟩
    · rename_i hw
      simp only [hw] at h
      exact hK _ _ _ h hi

def LeavesG (P : Program) (ops : Array Oper) (G : World → World → Prop) (w0 : World) (o : Oper) (v : Value) (a : Act) : Prop :=
  (Region.wanted o (yielded ops a.tmps) = true ∧ ∀ w2, G w0 w2 → (execOp a.eval o).run P w2 = .ok (.value v) w2) ∨ (Region.wanted o (yielded ops a.tmps) = false ∧ v = undef)

/-- what operation i does, apart from its way through 'match' -/
def rKind (P : Program) (ops : Array Oper) (E : Nat → Bool) (G : World → World → Prop) (w0 : World) (F : Nat → Value → World → Prop) (Sp : Nat → Value → Prop) (i : Nat) (o : Oper) (a : Act) (S : Value → Prop) (T : Value → World → Prop) : Prop :=
  (Region.wanted o (yielded ops a.tmps) = true ∧ E i = true ∧ Eff P G w0 (fun v w => Sp i v ∧ F i v w) (execOp a.eval o) ∧ (S = Sp i) ∧ T = F i) ∨
  (Region.wanted o (yielded ops a.tmps) = true ∧ E i = false ∧ ∃ v, (∀ w2, G w0 w2 → (execOp a.eval o).run P w2 = .ok (.value v) w2) ∧ (S = fun u => u = v) ∧ T = fun _ _ => True) ∨
  (Region.wanted o (yielded ops a.tmps) = false ∧ (S = fun u => u = undef) ∧ T = fun _ _ => True)

theorem rOp_kind {i : Nat} {o : Oper} (hi : ops[i]? = some o) {K : Act → (World → Prop) → Prop} (hK : Anti K) {a : Act} {Φ : World → Prop} :
    rOp P ops E G w0 F Sp i K a Φ ↔ ∃ S T, rKind P ops E G w0 F Sp i o a S T ∧ ∀ v, S v → K (a.put o.dst v) (fun w => Φ w ∧ T v w) := by
  unfold rOp rKind
  rw [hi]
  simp only
  constructor
  · intro h
    split at h
    · rename_i hw
      split at h
      · rename_i hE
        exact ⟨_, _, .inl ⟨hw, hE, h.1, rfl, rfl⟩, fun v hv => h.2 v hv⟩
      · rename_i hE
        obtain ⟨v, h1, h2⟩ := h
        exact ⟨_, _, .inr (.inl ⟨hw, by simpa using hE, v, h1, rfl, rfl⟩), fun u hu => by subst hu; exact hK _ _ _ h2 fun w hw => hw.1⟩
    · rename_i hw
      exact ⟨_, _, .inr (.inr ⟨by simpa using hw, rfl, rfl⟩), fun u hu => by subst hu; exact hK _ _ _ h fun w hw => hw.1⟩
  · rintro ⟨S, T, (⟨hw, hE, he, rfl, rfl⟩ | ⟨hw, hE, v, hv, rfl, rfl⟩ | ⟨hw, rfl, rfl⟩), hk⟩
    · simp only [hw, hE, if_true]
      exact ⟨he, fun v hv => hk v hv⟩
    · simp only [hw, hE, if_true, Bool.false_eq_true, if_false]
      exact ⟨v, hv, hK _ _ _ (hk v rfl) fun w hw => ⟨hw, trivial⟩⟩
    · simp only [hw, Bool.false_eq_true, if_false]
      exact hK _ _ _ (hk _ rfl) fun w hw => ⟨hw, trivial⟩

theorem rKind_put {i : Nat} {o : Oper} (hsel : ∀ cs b, o.op ≠ .select cs b) {x : Option Tmp} (h1 : ∀ d, x = some d → d ∉ o.looksAt ops) {a : Act} {u : Value} {S : Value → Prop} {T : Value → World → Prop} :
    rKind P ops E G w0 F Sp i o (a.put x u) S T ↔ rKind P ops E G w0 F Sp i o a S T := by
  unfold rKind
  rw [execOp_put (ops := ops) o hsel a x u h1, wanted_put o a x u h1]

theorem rKind_inh (hS : ∀ i, ∃ v, Sp i v) {i : Nat} {o : Oper} {a : Act} {S : Value → Prop} {T : Value → World → Prop} (h : rKind P ops E G w0 F Sp i o a S T) : ∃ v, S v := by
  rcases h with ⟨_, _, _, rfl, _⟩ | ⟨_, _, v, _, rfl, _⟩ | ⟨_, rfl, _⟩
  · exact hS i
  · exact ⟨v, rfl⟩
  · exact ⟨_, rfl⟩
theorem rKind_one {i : Nat} {o : Oper} {a : Act} {S S' : Value → Prop} {T T' : Value → World → Prop} (hr : G w0 w0) (h : rKind P ops E G w0 F Sp i o a S T) (h' : rKind P ops E G w0 F Sp i o a S' T') : S = S' ∧ T = T' := by
  rcases h with ⟨a1, a2, _, rfl, rfl⟩ | ⟨a1, a2, v, a3, rfl, rfl⟩ | ⟨a1, rfl, rfl⟩ <;> rcases h' with ⟨b1, b2, _, rfl, rfl⟩ | ⟨b1, b2, v', b3, rfl, rfl⟩ | ⟨b1, rfl, rfl⟩
  · exact ⟨rfl, rfl⟩
  · rw [a2] at b2; cases b2
  · rw [a1] at b1; cases b1
  · rw [a2] at b2; cases b2
  · have := (a3 w0 hr).symm.trans (b3 w0 hr)
    simp only [Result.ok.injEq, Next.value.injEq, and_true] at this
    subst this
    exact ⟨rfl, rfl⟩
  · rw [a1] at b1; cases b1
  · rw [a1] at b1; cases b1
  · rw [a1] at b1; cases b1
  · exact ⟨rfl, rfl⟩

theorem rOp_comm (hS : ∀ i, ∃ v, Sp i v) {i j : Nat} {oi oj : Oper} (hr : G w0 w0) (hi : ops[i]? = some oi) (hj : ops[j]? = some oj) (hap : oi.apart ops oj = true)
    (hsi : ∀ cs b, oi.op ≠ .select cs b) (hsj : ∀ cs b, oj.op ≠ .select cs b) {K : Act → (World → Prop) → Prop} (hK : Anti K) {a : Act} {Φ : World → Prop}
    (h : rOp P ops E G w0 F Sp i (rOp P ops E G w0 F Sp j K) a Φ) : rOp P ops E G w0 F Sp j (rOp P ops E G w0 F Sp i K) a Φ := by
  obtain ⟨h1, h2, h3⟩ := Oper.apart_spec hap
  rw [rOp_kind hi (rOp_anti hK)] at h
  obtain ⟨S, T, hk, h⟩ := h
  obtain ⟨v0, hv0⟩ := rKind_inh hS hk
  have hj0 := h v0 hv0
  rw [rOp_kind hj hK] at hj0
  obtain ⟨S', T', hk', _⟩ := hj0
  rw [rKind_put hsj h1] at hk'
  rw [rOp_kind hj (rOp_anti hK)]
  refine ⟨S', T', hk', fun u hu => ?_⟩
  rw [rOp_kind hi hK]
  refine ⟨S, T, (rKind_put hsi h3).2 hk, fun v hv => ?_⟩
  have h4 := h v hv
  rw [rOp_kind hj hK] at h4
  obtain ⟨S2, T2, hk2, h5⟩ := h4
  rw [rKind_put hsj h1] at hk2
  obtain ⟨rfl, rfl⟩ := rKind_one hr hk' hk2
  have h6 := h5 u hu
  rw [Act.put_comm a v u h2] at h6
  exact hK _ _ _ h6 fun w hw => ⟨⟨hw.1.1, hw.2⟩, hw.1.2⟩

/-! ### any order -/
def wpAnyR (P : Program) (md : Region.Mode) (ops : Array Oper) (E : Nat → Bool) (G : World → World → Prop) (w0 : World) (F : Nat → Value → World → Prop) (Sp : Nat → Value → Prop) (Q : Act → World → Prop) (tl : Nat) : Nat → Array Bool → Act → (World → Prop) → Prop
  | 0, listed, a, Φ => Region.ready md ops listed = [] ∧ ∀ w, G w0 w → Φ w → Q a w
  | fuel + 1, listed, a, Φ =>
    (Region.ready md ops listed = [] → ∀ w, G w0 w → Φ w → Q a w) ∧
    ∀ i ∈ Region.ready md ops listed, (i = tl → Region.ready md ops (listed.setIfInBounds i true) = [] ∧ ∀ w, G w0 w → Φ w → tOp P ops i Q a w) ∧
      (i ≠ tl → rOp P ops E G w0 F Sp i (wpAnyR P md ops E G w0 F Sp Q tl fuel (listed.setIfInBounds i true)) a Φ)

theorem wpAnyR_anti {Q : Act → World → Prop} {tl : Nat} : ∀ (fuel : Nat) (listed : Array Bool), Anti (wpAnyR P md ops E G w0 F Sp Q tl fuel listed)
  | 0, _ => fun _ _ _ h hi => ⟨h.1, fun w hg hw => h.2 w hg (hi w hw)⟩
  | fuel + 1, _ => fun _ _ _ h hi => ⟨fun h0 w hg hw => h.1 h0 w hg (hi w hw), fun i hir => ⟨fun hit => ⟨((h.2 i hir).1 hit).1, fun w hg hw => ((h.2 i hir).1 hit).2 w hg (hi w hw)⟩,
      fun hit => rOp_anti (wpAnyR_anti fuel _) _ _ _ ((h.2 i hir).2 hit) hi⟩⟩

theorem wpAny_of_wpAnyR {Q : Act → World → Prop} {Q' : Exit → Act → World → Prop} {tl : Nat} (hGt : ∀ {A B C : World}, G A B → G B C → G A C) (hGr : ∀ A, G A A) (hF : ∀ i v w w', F i v w → G w w' → F i v w') (hQ : ∀ a w, Q a w → Q' .normal a w) :
    ∀ (fuel : Nat) (listed : Array Bool) (a : Act) (w : World) (Φ : World → Prop), G w0 w → Φ w → (∀ w w', Φ w → G w w' → Φ w') → wpAnyR P md ops E G w0 F Sp Q tl fuel listed a Φ → wpAny P md ops Q' fuel listed a w
  | 0, _, _, _, _, hw, hp, _, h => ⟨h.1, hQ _ _ (h.2 _ hw hp)⟩
  | fuel + 1, listed, a, w, Φ, hw, hp, hst, h => ⟨fun h0 => hQ _ _ (h.1 h0 _ hw hp), fun i hi => by
      by_cases hit : i = tl
      · obtain ⟨h1, h2⟩ := (h.2 i hi).1 hit
        exact wpOp_of_tOp (fun a' w' hq => wpAny_end h1 fuel (hQ _ _ hq)) (h2 w hw hp)
      · have h3 := (h.2 i hi).2 hit
        unfold rOp at h3
        unfold wpOp
        split
        · rename_i ho
          simp only [ho] at h3
          exact wpAny_of_wpAnyR hGt hGr hF hQ fuel _ a w Φ hw hp hst h3
        · rename_i o ho
          simp only [ho] at h3
          split
          · rename_i hwt
            simp only [hwt, if_true] at h3
            refine .inl ?_
            split at h3
            · obtain ⟨he, hk⟩ := h3
              unfold Oper.wp
              refine (he w hw).upon fun v w' hv => ?_
              exact wpAny_of_wpAnyR hGt hGr hF hQ fuel _ _ w' _ (hGt hw hv.1) ⟨hst _ _ hp hv.1, hv.2.2⟩ (fun x y hx hg => ⟨hst _ _ hx.1 hg, hF _ _ _ _ hx.2 hg⟩) (hk v hv.2.1)
            · obtain ⟨v, h1, h2⟩ := h3
              unfold Oper.wp
              rw [h1 w hw]
              exact wpAny_of_wpAnyR hGt hGr hF hQ fuel _ _ w Φ hw hp hst h2
          · rename_i hwt
            simp only [hwt] at h3
            exact wpAny_of_wpAnyR hGt hGr hF hQ fuel _ _ w Φ hw hp hst h3⟩

theorem rOp_ex (hS : ∀ i, ∃ v, Sp i v) {i : Nat} {K : Act → (World → Prop) → Prop} {a : Act} {Φ : World → Prop} (h : rOp P ops E G w0 F Sp i K a Φ) : ∃ a' Φ', K a' Φ' := by
  unfold rOp at h
  split at h
  · exact ⟨_, _, h⟩
  · split at h
    · split at h
      · obtain ⟨v, hv⟩ := hS i
        exact ⟨_, _, h.2 v hv⟩
      · obtain ⟨v, _, h⟩ := h
        exact ⟨_, _, h⟩
    · exact ⟨_, _, h⟩

theorem wpAnyR_first (hS : ∀ i, ∃ v, Sp i v) {Q : Act → World → Prop} {n tl : Nat} (hr0 : G w0 w0) (htl : Tail md ops n tl) {i : Nat} {oi : Oper} (hi : ops[i]? = some oi) (hit : i ≠ tl)
    (hsel : ∀ (j : Nat) (o : Oper) cs b, ops[j]? = some o → o.op ≠ .select cs b) :
    ∀ (fuel : Nat) (listed : Array Bool) (a : Act) (Φ : World → Prop), Down md ops listed →
      (∀ j oj, ops[j]? = some oj → j ≠ i → listed.getD j true = false → (∀ e ∈ oj.after, Region.binds md e = true → e.on ≠ i) → oi.apart ops oj = true) →
      i ∈ Region.ready md ops listed →
      rOp P ops E G w0 F Sp i (wpAnyR P md ops E G w0 F Sp Q tl fuel (listed.setIfInBounds i true)) a Φ → wpAnyR P md ops E G w0 F Sp Q tl (fuel + 1) listed a Φ := by
  intro fuel
  induction fuel with
  | zero =>
    intro listed a Φ _ _ hr H
    refine ⟨fun h => (by rw [h] at hr; cases hr), fun j hj => ?_⟩
    by_cases hji : j = i
    · subst hji; exact ⟨fun h => absurd h hit, fun _ => H⟩
    · have := ready_mono hj hji
      obtain ⟨a', w', hK⟩ := rOp_ex hS H
      rw [hK.1] at this
      cases this
  | succ fuel ih =>
    intro listed a Φ hdn hfree hr H
    refine ⟨fun h => (by rw [h] at hr; cases hr), fun j hj => ?_⟩
    by_cases hji : j = i
    · subst hji; exact ⟨fun h => absurd h hit, fun _ => H⟩
    · obtain ⟨hjun, oj, hoj, hall⟩ := mem_ready.1 hj
      have hiun := (mem_ready.1 hr).1
      have hjt : j ≠ tl := by
        intro hjt
        subst hjt
        have h1 := htl i (Array.getElem?_eq_some_iff.1 hi).1 hit
        rw [dep_ready hdn (getD_true_false hiun) hj n] at h1
        cases h1
      refine ⟨fun h => absurd h hjt, fun _ => ?_⟩
      have hnot : ∀ e ∈ oj.after, Region.binds md e = true → e.on ≠ i := fun e he hb heq => by
        have h1 := hall e he hb
        rw [heq, getD_true_false hiun] at h1
        cases h1
      have hap := hfree j oj hoj hji hjun hnot
      have H1 : rOp P ops E G w0 F Sp i (rOp P ops E G w0 F Sp j (wpAnyR P md ops E G w0 F Sp Q tl fuel ((listed.setIfInBounds i true).setIfInBounds j true))) a Φ :=
        rOp_mono (fun a' Φ' hK => (hK.2 j (ready_mono hj hji)).2 hjt) H
      have H2 := rOp_comm hS hr0 hi hoj hap (fun cs b => hsel i oi cs b hi) (fun cs b => hsel j oj cs b hoj) (wpAnyR_anti fuel _) H1
      have hfree' : ∀ k ok, ops[k]? = some ok → k ≠ i → (listed.setIfInBounds j true).getD k true = false →
          (∀ e ∈ ok.after, Region.binds md e = true → e.on ≠ i) → oi.apart ops ok = true := fun k ok hk hki hun hno => by
        refine hfree k ok hk hki ?_ hno
        by_cases hjk : j = k
        · subst hjk; exact hjun
        · rw [getD_set_ne true hjk] at hun; exact hun
      refine rOp_mono (fun a' Φ' h3 => ih (listed.setIfInBounds j true) a' Φ' (hdn.ready hj) hfree' (ready_mono hr (Ne.symm hji)) ?_) H2
      rw [Array.setIfInBounds_comm _ _ hji]
      exact h3

/-- THE WALK IN THE ORDER OF THE TEXT -/
def wpMixR (P : Program) (ops : Array Oper) (E : Nat → Bool) (G : World → World → Prop) (w0 : World) (F : Nat → Value → World → Prop) (Sp : Nat → Value → Prop) (Q : Act → World → Prop) (tl : Nat) : Nat → List Oper → Act → (World → Prop) → Prop
  | _, [], a, Φ => ∀ w, G w0 w → Φ w → Q a w
  | k, o :: rest, a, Φ =>
    (k = tl → ∀ w, G w0 w → Φ w → if Region.wanted o (yielded ops a.tmps) then o.wp P a w Q NoExit else Q (a.put o.dst undef) w) ∧
    (k ≠ tl → if Region.wanted o (yielded ops a.tmps) then
      if E k then Eff P G w0 (fun v w => Sp k v ∧ F k v w) (execOp a.eval o) ∧ ∀ v, Sp k v → wpMixR P ops E G w0 F Sp Q tl (k + 1) rest (a.put o.dst v) (fun w => Φ w ∧ F k v w)
      else ∃ v, (∀ w2, G w0 w2 → (execOp a.eval o).run P w2 = .ok (.value v) w2) ∧ wpMixR P ops E G w0 F Sp Q tl (k + 1) rest (a.put o.dst v) Φ
    else wpMixR P ops E G w0 F Sp Q tl (k + 1) rest (a.put o.dst undef) Φ)

theorem wpAnyR_lex (hS : ∀ i, ∃ v, Sp i v) {Q : Act → World → Prop} {n tl : Nat} (hr0 : G w0 w0) (htl : Tail md ops n tl) (hlast : tl + 1 = ops.size) (hs : Region.noSelect ops = true) :
    ∀ (l : List Oper) (k : Nat) (listed : Array Bool) (a : Act) (Φ : World → Prop), (∀ j, l[j]? = ops[k + j]?) → (∀ j, j < k → listed.getD j true = true) → Down md ops listed →
      Region.lexFrom md ops l.length k listed = true → wpMixR P ops E G w0 F Sp Q tl k l a Φ → wpAnyR P md ops E G w0 F Sp Q tl l.length listed a Φ
  | [], _, _, _, _, _, _, _, hB, h => ⟨by simpa [Region.lexFrom] using hB, h⟩
  | o :: l, k, listed, a, Φ, hl, hbf, hdn, hB, h => by
    have h0 : ops[k]? = some o := by simpa using (hl 0).symm
    have hklt : k < ops.size := (Array.getElem?_eq_some_iff.1 h0).1
    simp only [List.length_cons, Region.lexFrom, Bool.and_eq_true] at hB
    obtain ⟨⟨hr, hf⟩, hB'⟩ := hB
    have hr' : k ∈ Region.ready md ops listed := by simpa using hr
    have hbf' : ∀ j, j < k + 1 → (listed.setIfInBounds k true).getD j true = true := fun j hj => by
      by_cases hjk : k = j
      · subst hjk
        cases hg : (listed.setIfInBounds k true).getD k true with
        | true => rfl
        | false =>
          exfalso
          rcases Nat.lt_or_ge k listed.size with h1 | h1
          · simp [h1] at hg
          · simp [h1] at hg
      · rw [getD_set_ne true hjk]; exact hbf j (by omega)
    by_cases hkt : k = tl
    · have hnil : ∀ j, j ∈ Region.ready md ops (listed.setIfInBounds k true) → False := fun j hj => by
        obtain ⟨hun, oj, hoj, _⟩ := mem_ready.1 hj
        have := (Array.getElem?_eq_some_iff.1 hoj).1
        rw [hbf' j (by omega)] at hun
        cases hun
      have hnil' : Region.ready md ops (listed.setIfInBounds k true) = [] := List.eq_nil_iff_forall_not_mem.2 fun j hj => hnil j hj
      refine ⟨fun h1 => (by rw [h1] at hr'; cases hr'), fun i hi => ?_⟩
      have hik : i = k := by
        obtain ⟨hun, oi, hoi, _⟩ := mem_ready.1 hi
        have := (Array.getElem?_eq_some_iff.1 hoi).1
        rcases Nat.lt_or_ge i k with h1 | h1
        · rw [hbf i h1] at hun; cases hun
        · omega
      subst hik
      refine ⟨fun _ => ⟨hnil', fun w hg hw => ?_⟩, fun h1 => absurd hkt h1⟩
      unfold tOp
      rw [h0]
      unfold wpMixR at h
      exact h.1 hkt w hg hw
    · have hm : rOp P ops E G w0 F Sp k (wpMixR P ops E G w0 F Sp Q tl (k + 1) l) a Φ := by
        unfold rOp
        rw [h0]
        unfold wpMixR at h
        exact h.2 hkt
      refine wpAnyR_first hS hr0 htl h0 hkt (Region.noSelect_spec hs) l.length listed a Φ hdn (Region.free_spec h0 hf) hr' ?_
      exact rOp_mono (fun a' Φ' hK => wpAnyR_lex hS hr0 htl hlast hs l (k + 1) _ a' Φ' (fun j => by have := hl (j + 1); simpa [Nat.add_assoc, Nat.add_comm 1 j] using this) hbf' (hdn.ready hr') hB' hK) hm

structure MixR (P : Program) (ops : Array Oper) (E : Nat → Bool) (G : World → World → Prop) (w0 : World) (F : Nat → Value → World → Prop) (Sp : Nat → Value → Prop) (Q : Act → World → Prop) (tl k : Nat) (rest : List Oper) (a : Act) (Φ : World → Prop) : Prop where
  out : wpMixR P ops E G w0 F Sp Q tl k rest a Φ

theorem wp_region_mixR {id : Nat} {l : List Oper} (Es : List Nat) (tl : Nat) (G : World → World → Prop) (F : Nat → Value → World → Prop) (Sp : Nat → Value → Prop) {Q : Exit → Act → World → Prop} {a : Act} {w : World} (hm : P.follows .mixedOrders = true)
    (hB : (Region.lexB .any l.toArray && tailB .any l.toArray tl) = true) (hGt : ∀ {A B C : World}, G A B → G B C → G A C) (hGr : ∀ A, G A A) (hF : ∀ i v w w', F i v w → G w w' → F i v w') (hS : ∀ i, ∃ v, Sp i v)
    (h : MixR P l.toArray (fun k => Es.contains k) G w.drew F Sp (fun a' w' => Q .normal a' w') tl 0 l a (fun _ => True)) : (Code.region id l.toArray true).wp P Q a w := by
  simp only [Region.lexB, Bool.and_eq_true] at hB
  obtain ⟨ht1, ht2⟩ := tail_of hB.2
  refine wp_region_any hm (wpAny_of_wpAnyR (Q := fun a' w' => Q .normal a' w') (E := fun k => Es.contains k) (tl := tl) (w0 := w.drew) (F := F) (G := G) (Sp := Sp) hGt hGr hF (fun _ _ h => h) _ _ _ _ (fun _ => True) (hGr _) trivial (fun _ _ _ _ => trivial) ?_)
  have := wpAnyR_lex (P := P) (G := G) (F := F) (Sp := Sp) hS (Q := fun a' w' => Q .normal a' w') (md := .any) (hGr w.drew) ht1 ht2 hB.1.1 l 0 (Array.replicate l.toArray.size false) a (fun _ => True) (by simp) (fun j hj => by omega) (Down.start _) (by simpa using hB.1.2) h.out
  simpa using this

section
variable {Es : List Nat} {Q : Act → World → Prop} {o : Oper} {rest : List Oper} {a : Act} {k tl : Nat} {Φ : World → Prop}

theorem mixR_step (hk : (Es.contains k || k == tl) = false) (h : ∀ K : Act → Prop, (∀ a, MixR P ops (fun k => Es.contains k) G w0 F Sp Q tl (k + 1) rest a Φ → K a) →
      if Region.wanted o (yielded ops a.tmps) then ∃ v, (∀ w2 : Subtype (G w0), (execOp a.eval o).run P w2.1 = .ok (.value v) w2.1) ∧ K (a.put o.dst v) else K (a.put o.dst undef)) :
    MixR P ops (fun k => Es.contains k) G w0 F Sp Q tl k (o :: rest) a Φ := by
  have := h (fun a => wpMixR P ops (fun k => Es.contains k) G w0 F Sp Q tl (k + 1) rest a Φ) (fun _ h => h.out)
  rw [Bool.or_eq_false_iff] at hk
  have hkt : k ≠ tl := by simpa using hk.2
  refine ⟨?_⟩
  unfold wpMixR
  refine ⟨fun h => absurd h hkt, fun _ => ?_⟩
  simp only [hk.1]
  split
  · rename_i hw
    rw [if_pos hw] at this
    obtain ⟨v, h1, h2⟩ := this
    exact ⟨v, fun w2 hw2 => h1 ⟨w2, hw2⟩, h2⟩
  · rename_i hw
    rw [if_neg hw] at this
    exact this

/-- an effect that is made -/
theorem mixR_eff (hk : (Es.contains k && !(k == tl)) = true) (hw : Region.wanted o (yielded ops a.tmps) = true) (he : ∀ w, G w0 w → EffR P (fun v w' => G w w' ∧ Sp k v ∧ F k v w') ((execOp a.eval o).run P w))
    (h : ∀ v, Sp k v → MixR P ops (fun k => Es.contains k) G w0 F Sp Q tl (k + 1) rest (a.put o.dst v) (fun w => Φ w ∧ F k v w)) :
    MixR P ops (fun k => Es.contains k) G w0 F Sp Q tl k (o :: rest) a Φ := by
  rw [Bool.and_eq_true] at hk
  have hkt : k ≠ tl := by simpa using hk.2
  refine ⟨?_⟩
  unfold wpMixR
  refine ⟨fun h => absurd h hkt, fun _ => ?_⟩
  simp only [hk.1, hw, if_true]
  exact ⟨he, fun v hv => (h v hv).out⟩

/-- the last one -/
theorem mixR_last (hk : (k == tl) = true) (h : ∀ w, G w0 w → Φ w → ∀ K : Act → World → Prop, (∀ a w, Q a w → K a w) →
      if Region.wanted o (yielded ops a.tmps) then o.wp P a w K NoExit else K (a.put o.dst undef) w) :
    MixR P ops (fun k => Es.contains k) G w0 F Sp Q tl k [o] a Φ := by
  have hkt : k = tl := by simpa using hk
  refine ⟨?_⟩
  unfold wpMixR
  exact ⟨fun _ w hg hw => h w hg hw Q (fun _ _ h => h), fun h => absurd hkt h⟩
end
end
end Go.Mix

/- Pick: the reference's Hints: plain facts. -/
namespace Go.Proofs.YtgbmclgnbbhcbaaGreat
open Go.RowKit Go.Sort Go.Lib
set_option maxRecDepth 100000
set_option linter.unusedVariables false
set_option linter.unusedSimpArgs false

theorem ltS_ref {y x : Sv} (hy : PS y) (hx : PS x) : ltS y x = (Nm.lessN y.1 x.1 || (decide (y.1 = x.1) && decide (y.2 < x.2))) := by
  unfold ltS
  cases h : Nm.lessN y.1 x.1 with
  | true => rfl
  | false =>
    rw [Bool.false_or, Bool.false_or]
    by_cases e : y.1 = x.1
    · rw [decide_eq_true e, ← e, od_names.irr y.1 hy.1]
      rfl
    · rw [decide_eq_false e, Bool.false_and]
      cases h2 : Nm.lessN x.1 y.1 with
      | true => rfl
      | false => exact absurd (od_names.tot _ _ hy.1 hx.1 h h2) e
theorem pos_next {x : Sv} {l : List Sv} {j : Nat} (hj : j ≤ posL ltS x l) (hl : j < l.length) (h : ltS (l.getD j s0) x = true) : j + 1 ≤ posL ltS x l := by
  rcases Nat.lt_or_ge j (posL ltS x l) with h1 | h1
  · exact h1
  · have e : j = posL ltS x l := by omega
    have h2 := posL_stop (lt := ltS) x l s0 (by omega)
    rw [← e, h] at h2
    cases h2
theorem pos_here {x : Sv} {l : List Sv} {j : Nat} (hj : j ≤ posL ltS x l) (h : ltS (l.getD j s0) x = false) : j = posL ltS x l := by
  rcases Nat.lt_or_ge j (posL ltS x l) with h1 | h1
  · have h2 := posL_lt (lt := ltS) x l j s0 h1
    rw [h] at h2
    cases h2
  · omega
theorem pos_end {x : Sv} {l : List Sv} {j : Nat} (hj : j ≤ posL ltS x l) (h : ¬ j < l.length) : j = posL ltS x l := by
  have := posL_le (lt := ltS) x l
  omega
/-- at its place: it is there -/
theorem ins_eq {x : Sv} {l : List Sv} {j : Nat} (hj : j = posL ltS x l) (hl : j < l.length) (h : l.getD j s0 = x) : insL ltS x l = l := by
  rw [insL_pos, if_pos]
  rw [← hj, List.getElem?_eq_getElem hl]
  rw [List.getD_eq_getElem?_getD, List.getElem?_eq_getElem hl] at h
  exact congrArg some h
theorem ins_ne {x : Sv} {l : List Sv} {j : Nat} (hj : j = posL ltS x l) (h : j < l.length → l.getD j s0 ≠ x) : insL ltS x l = l.take j ++ [x] ++ l.drop j := by
  rw [insL_pos, if_neg, ← hj]
  · simp
  · rw [← hj]
    intro e
    by_cases hl : j < l.length
    · refine h hl ?_
      rw [List.getD_eq_getElem?_getD, e]
      rfl
    · rw [List.getElem?_eq_none (by omega)] at e
      cases e
theorem ins_ps (L : List Sv) (h : ∀ x ∈ L, PS x) : ∀ x ∈ insAll ltS L, PS x := fun x hx => h x (((insAll_asc od_servers h).2 x).1 hx)
def GB (w w' : World) : Prop := Below w.heap.size w w'
theorem GB.trans {A B C : World} (h : GB A B) (k : GB B C) : GB A C := Below.trans h (Below.mono k (Below.size h))
theorem GB.refl (A : World) : GB A A := Below.refl _ _
theorem GB.size {A B : World} (h : GB A B) : A.heap.size ≤ B.heap.size := Below.size h
theorem GB.cell {W : World} {p : Addr} {v : Value} (h : W.cell? p = some v) (hp : p.block < W.heap.size) (w3 : Subtype (GB W.drew)) : w3.1.cell? p = some v := (Below.cell w3.2 (p := p) hp).trans h
theorem GB.heap {A B : World} (h : GB A B) {k : Nat} {o : Obj} (hk : A.heap[k]? = some o) : B.heap[k]? = some o := (Below.block h k (Array.getElem?_eq_some_iff.1 hk).1).trans hk
def FK (ia B : Nat) (i : Nat) (v : Value) (w : World) : Prop := i = ia → ∃ kb, v = .pointer (some ⟨kb, 0, none⟩) ∧ B ≤ kb ∧ w.heap[kb]? = some (.cells #[.string ⟨#[]⟩, .int .i64 0] 40 (0, 0))
def SK (ic ia : Nat) (n : List UInt8) (i : Nat) (v : Value) : Prop := (i = ic → v = .string (mk n)) ∧ (i = ia → ∃ kb, v = .pointer (some ⟨kb, 0, none⟩))
theorem FK.stable {ia B i : Nat} {v : Value} {w w' : World} (h : FK ia B i v w) (hg : GB w w') : FK ia B i v w' := fun e => by
  obtain ⟨kb, h1, h2, h3⟩ := h e
  exact ⟨kb, h1, h2, hg.heap h3⟩
theorem SK.inh (ic ia : Nat) (n : List UInt8) (h : ic ≠ ia) (i : Nat) : ∃ v, SK ic ia n i v := by
  by_cases h2 : i = ic
  · exact ⟨.string (mk n), fun _ => rfl, fun e => absurd (h2.symm.trans e) h⟩
  · exact ⟨.pointer (some ⟨0, 0, none⟩), fun e => absurd e h2, fun _ => ⟨0, rfl⟩⟩
theorem encV_drop2 (l : List Sv) (k : Nat) : (encV l).drop (k * 2) = encV (l.drop k) := by
  induction l generalizing k with
  | nil => simp [encV]
  | cons x l ih =>
    cases k with
    | zero => simp [encV]
    | succ k =>
      have := ih k
      simp only [encV, List.flatMap_cons, List.drop_succ_cons] at this ⊢
      rw [← this, show (k + 1) * 2 = k * 2 + 1 + 1 by omega]
      rfl
theorem ins_slA {X : World} {b off M cv j : Nat} {O : List Sv} (h : SlC X 2 (.slice (some ⟨b, off, none⟩) M cv) M (encV O)) (hj : j ≤ M) : SlC X 2 (.slice (if cv = j then (some ⟨b, off, none⟩) else (some ⟨b, off + j * 2, none⟩ : Option Addr)) (M - j) (cv - j)) (M - j) (encV (O.drop j)) := by
  have hc : M ≤ cv := by obtain ⟨_, _, _, e, h1, _⟩ := h; simp only [Value.slice.injEq] at e; omega
  have hl : (encV O).length = M * 2 := h.1
  have h2 := SlC.sub h (i := j) (j := M) hj (Nat.le_refl _) (a' := if cv = j then (some ⟨b, off, none⟩ : Option Addr) else some ⟨b, off + j * 2, none⟩) (fun h => by rw [if_neg (by omega)]) (fun h => by split at h <;> cases h)
  have e : ((encV O).drop (j * 2)).take ((M - j) * 2) = encV (O.drop j) := by
    rw [encV_drop2, List.take_of_length_le]
    rw [← encV_drop2, List.length_drop, hl]; omega
  rw [e] at h2
  exact h2
theorem ins_slB {X : World} {b off M cv j : Nat} {O : List Sv} (h : SlC X 2 (.slice (some ⟨b, off, none⟩) M cv) M (encV O)) (hj : j ≤ M) : SlC X 2 (.slice (some ⟨b, off, none⟩) j cv) j (encV (O.take j)) := by
  have h2 := SlC.sub h (i := 0) (j := j) (Nat.zero_le _) hj (a' := some ⟨b, off, none⟩) (fun _ => by simp) (fun h => by cases h)
  rw [Nat.sub_zero, Nat.sub_zero, Nat.zero_mul, List.drop_zero, encV_take] at h2
  exact h2
theorem encV_append (l m : List Sv) : encV (l ++ m) = encV l ++ encV m := List.flatMap_append
theorem one_encV (l : List Sv) : ∀ u ∈ encV l, u.oneCell' = true := by
  intro u hu
  simp only [encV, List.mem_flatMap] at hu
  obtain ⟨s, _, hs⟩ := hu
  exact one_sv s u hs
end Go.Proofs.YtgbmclgnbbhcbaaGreat

/- The test that effects wait for one another, by bits (each operation's ancestors once): for regions with many calls. No conditions. -/
namespace Go.Mix
open Go
section
variable {P : Program} {ops : Array Oper} {md : Region.Mode}

theorem dep_mono : ∀ (n : Nat) (j i : Nat), dep md ops n j i = true → ∀ m, n ≤ m → dep md ops m j i = true
  | 0, _, _, h, _, _ => by simp [dep] at h
  | n + 1, j, i, h, m, hm => by
    obtain ⟨m, rfl⟩ : ∃ k, m = k + 1 := ⟨m - 1, by omega⟩
    unfold dep at h ⊢
    cases ho : ops[j]? with
    | none => rw [ho] at h; simp at h
    | some o =>
      rw [ho] at h
      simp only [Array.any_eq_true'] at h ⊢
      obtain ⟨e, he, hb⟩ := h
      refine ⟨e, he, ?_⟩
      rw [Bool.and_eq_true, Bool.or_eq_true] at hb ⊢
      exact ⟨hb.1, hb.2.imp id (fun h => dep_mono n e.on i h m (by omega))⟩

/-- an operation's ancestors, as bits -/
def ancStep (md : Region.Mode) (acc : List Nat) (o : Oper) : Nat := o.after.toList.foldl (fun m e => if Region.binds md e then m ||| ((1 <<< e.on) ||| acc.getD e.on 0) else m) 0
def ancAll (md : Region.Mode) : List Oper → List Nat → List Nat
  | [], acc => acc
  | o :: l, acc => ancAll md l (acc ++ [ancStep md acc o])

theorem fold_bit (acc : List Nat) : ∀ (l : List Edge) (m i : Nat), (l.foldl (fun m e => if Region.binds md e then m ||| ((1 <<< e.on) ||| acc.getD e.on 0) else m) m).testBit i = true →
    m.testBit i = true ∨ ∃ e ∈ l, Region.binds md e = true ∧ (e.on = i ∨ (acc.getD e.on 0).testBit i = true)
  | [], m, i, h => .inl h
  | e :: l, m, i, h => by
    rcases fold_bit acc l _ i h with h1 | ⟨e', he', h2⟩
    · simp only at h1
      by_cases hb : Region.binds md e = true
      · rw [if_pos hb] at h1
        simp only [Nat.testBit_or, Bool.or_eq_true] at h1
        rcases h1 with h1 | h1 | h1
        · exact .inl h1
        · refine .inr ⟨e, by simp, hb, .inl ?_⟩
          rw [Nat.one_shiftLeft, Nat.testBit_two_pow] at h1
          simpa using h1
        · exact .inr ⟨e, by simp, hb, .inr h1⟩
      · rw [if_neg hb] at h1
        exact .inl h1
    · exact .inr ⟨e', by simp [he'], h2⟩

def AncOk (md : Region.Mode) (ops : Array Oper) (acc : List Nat) : Prop := ∀ j i, (acc.getD j 0).testBit i = true → j < acc.length ∧ dep md ops (j + 1) j i = true
theorem anc_step {acc : List Nat} (h : AncOk md ops acc) {o : Oper} (ho : ops[acc.length]? = some o) : AncOk md ops (acc ++ [ancStep md acc o]) := by
  intro j i hb
  rcases Nat.lt_trichotomy j acc.length with h1 | h1 | h1
  · rw [List.getD_eq_getElem?_getD, List.getElem?_append_left h1, ← List.getD_eq_getElem?_getD] at hb
    have := h j i hb
    exact ⟨by simp; omega, this.2⟩
  · subst h1
    have hg : (acc ++ [ancStep md acc o]).getD acc.length 0 = ancStep md acc o := by simp
    rw [hg] at hb
    refine ⟨by simp, ?_⟩
    rcases fold_bit acc _ _ i hb with h2 | ⟨e, he, h2, h3⟩
    · simp at h2
    · unfold dep
      rw [ho]
      simp only [Array.any_eq_true']
      refine ⟨e, by simpa using he, ?_⟩
      rw [Bool.and_eq_true, Bool.or_eq_true]
      refine ⟨h2, ?_⟩
      rcases h3 with h3 | h3
      · exact .inl (by simpa using h3)
      · obtain ⟨h4, h5⟩ := h e.on i h3
        exact .inr (dep_mono _ _ _ h5 _ h4)
  · rw [List.getD_eq_getElem?_getD, List.getElem?_eq_none (by simp; omega)] at hb
    simp at hb
theorem anc_all : ∀ (l : List Oper) (acc : List Nat), AncOk md ops acc → (∀ j, l[j]? = ops[acc.length + j]?) → AncOk md ops (ancAll md l acc)
  | [], _, h, _ => h
  | o :: l, acc, h, hl => by
    have h0 : ops[acc.length]? = some o := by simpa using (hl 0).symm
    refine anc_all l _ (anc_step h h0) fun j => ?_
    have := hl (j + 1)
    simp only [List.getElem?_cons_succ] at this
    rw [this, List.length_append, List.length_singleton]
    congr 1
    omega

def chainC (md : Region.Mode) (ops : Array Oper) (Es : List Nat) : Bool :=
  let A := ancAll md ops.toList []
  Es.all fun i => Es.all fun j => i == j || (A.getD i 0).testBit j || (A.getD j 0).testBit i
theorem chainC_of {Es : List Nat} (h : chainC md ops Es = true) : Chain md ops (fun k => Es.contains k) ops.size := by
  have hA : AncOk md ops (ancAll md ops.toList []) := anc_all ops.toList [] (fun j i h => by simp at h) (fun j => by simp)
  unfold chainC at h
  simp only [List.all_eq_true] at h
  intro i j hi hj hij h1 h2
  have h3 := h i (by simpa using h1) j (by simpa using h2)
  simp only [Bool.or_eq_true, beq_iff_eq] at h3
  rcases h3 with (h3 | h3) | h3
  · exact absurd h3 hij
  · exact .inl (dep_mono _ _ _ (hA i j h3).2 _ hi)
  · exact .inr (dep_mono _ _ _ (hA j i h3).2 _ hj)

theorem wp_region_mixC {id : Nat} {l : List Oper} {Es : List Nat} (C : World → Prop) {Q : Exit → Act → World → Prop} {a : Act} {w : World} (hm : P.follows .mixedOrders = true)
    (hB : (Region.lexB .any l.toArray && chainC .any l.toArray Es) = true) (hC : C w.drew)
    (h : Nonempty (Subtype C) → MixG P l.toArray (fun k => Es.contains k) C (fun a' w' => Q .normal a' w') 0 l a w.drew) : (Code.region id l.toArray true).wp P Q a w := by
  simp only [Region.lexB, Bool.and_eq_true] at hB
  refine wp_region_any hm (wpAny_of_wpAnyM (Q := fun a' w' => Q .normal a' w') (C := C) (E := fun k => Es.contains k) (fun _ _ _ h => h) _ _ _ _ hC ?_)
  have := wpAnyM_lex (P := P) (C := C) (Q := fun a' w' => Q .normal a' w') (md := .any) (chainC_of hB.2) hB.1.1 l 0 (Array.replicate l.toArray.size false) a w.drew (by simp) (Down.start _) hC (by simpa using hB.1.2) (h ⟨⟨_, hC⟩⟩).out
  simpa using this
end
end Go.Mix

/- A region whose order is left open, with several effects that need not wait for one another, each of which may lean on what the effects whose values it takes have left (rely and guarantee): walked once, in the order of the text. No conditions beside. -/
namespace Go.Mix
open Go
section
variable {P : Program} {ops : Array Oper} {md : Region.Mode} {E : Nat → Bool} {G : World → World → Prop} {w0 : World} {F : Nat → Value → World → Prop} {Sp : Nat → Value → Prop} {D : Nat → Act → World → Prop}

/-- an operation's need says nothing of what it does not look at -/
def DPut (ops : Array Oper) (D : Nat → Act → World → Prop) : Prop := ∀ (i : Nat) (o : Oper) (x : Option Tmp), ops[i]? = some o → (∀ d, x = some d → d ∉ o.looksAt ops) → ∀ (a : Act) (u : Value) (w : World), D i (a.put x u) w ↔ D i a w

/-- what is known of the effects that have been made -/
structure Known (md : Region.Mode) (ops : Array Oper) (E : Nat → Bool) (G : World → World → Prop) (F : Nat → Value → World → Prop) (D : Nat → Act → World → Prop) (Inv : Array Bool → Act → World → Prop) : Prop where
  keep : ∀ L a w w', Inv L a w → G w w' → Inv L a w'
  made : ∀ L a w i o v, ops[i]? = some o → i ∈ Region.ready md ops L → Down md ops L → E i = true → Inv L a w → F i v w → Inv (L.setIfInBounds i true) (a.put o.dst v) w
  quiet : ∀ L a w i o v, ops[i]? = some o → i ∈ Region.ready md ops L → Down md ops L → (E i = false ∨ Region.wanted o (yielded ops a.tmps) = false) → Inv L a w → Inv (L.setIfInBounds i true) (a.put o.dst v) w
  need : ∀ L a w i o, ops[i]? = some o → i ∈ Region.ready md ops L → Region.wanted o (yielded ops a.tmps) = true → Inv L a w → D i a w

/-- in whatever world of the class: the effect stays in it, and leaves its fact -/
def EffD (P : Program) (G : World → World → Prop) (w0 : World) (Di : World → Prop) (Fi : Value → World → Prop) (x : Sem Next) : Prop := ∀ w, G w0 w → Di w → EffR P (fun v w' => G w w' ∧ Fi v w') (x.run P w)

/-- operation i comes up; the facts so far: Φ -/
def rOpD (P : Program) (ops : Array Oper) (E : Nat → Bool) (G : World → World → Prop) (w0 : World) (F : Nat → Value → World → Prop) (Sp : Nat → Value → Prop) (D : Nat → Act → World → Prop) (i : Nat) (K : Act → (World → Prop) → Prop) (a : Act) (Φ : World → Prop) : Prop :=
  match ops[i]? with
  | none => K a Φ
  | some o =>
    if Region.wanted o (yielded ops a.tmps) then
      if E i then EffD P G w0 (D i a) (fun v w => Sp i v ∧ F i v w) (execOp a.eval o) ∧ ∀ v, Sp i v → K (a.put o.dst v) (fun w => Φ w ∧ F i v w)
      else ∃ v, (∀ w2, G w0 w2 → (execOp a.eval o).run P w2 = .ok (.value v) w2) ∧ K (a.put o.dst v) Φ
    else K (a.put o.dst undef) Φ

theorem rOpD_mono {i : Nat} {K K' : Act → (World → Prop) → Prop} {a : Act} {Φ : World → Prop} (h : ∀ a Φ, K a Φ → K' a Φ) (hh : rOpD P ops E G w0 F Sp D i K a Φ) : rOpD P ops E G w0 F Sp D i K' a Φ := by
  unfold rOpD at *
  split
  · rename_i ho; simp only [ho] at hh; exact h _ _ hh
  · rename_i o ho
    simp only [ho] at hh
    split
    · rename_i hw
      simp only [hw, if_true] at hh
      split
      · rename_i hE
        simp only [hE, if_true] at hh
        exact ⟨hh.1, fun v hv => h _ _ (hh.2 v hv)⟩
      · rename_i hE
        simp only [hE] at hh
        obtain ⟨v, h1, h2⟩ := hh
        exact ⟨v, h1, h _ _ h2⟩
    · rename_i hw
      simp only [hw] at hh
      exact h _ _ hh

theorem rOpD_anti {i : Nat} {K : Act → (World → Prop) → Prop} (hK : Anti K) : Anti (rOpD P ops E G w0 F Sp D i K) := by
  intro a Φ Φ' h hi
  unfold rOpD at *
  split
  · rename_i ho; simp only [ho] at h; exact hK _ _ _ h hi
  · rename_i o ho
    simp only [ho] at h
    split
    · rename_i hw
      simp only [hw, if_true] at h
      split
      · rename_i hE
        simp only [hE, if_true] at h
        exact ⟨h.1, fun v hv => hK _ _ _ (h.2 v hv) fun w hw => ⟨hi w hw.1, hw.2⟩⟩
      · rename_i hE
        simp only [hE] at h
        obtain ⟨v, h1, h2⟩ := h
        exact ⟨v, h1, hK _ _ _ h2 hi⟩
    · rename_i hw
      simp only [hw] at h
      exact hK _ _ _ h hi

/-- what operation i does, apart from its way through 'match' -/
def rKindD (P : Program) (ops : Array Oper) (E : Nat → Bool) (G : World → World → Prop) (w0 : World) (F : Nat → Value → World → Prop) (Sp : Nat → Value → Prop) (D : Nat → Act → World → Prop) (i : Nat) (o : Oper) (a : Act) (S : Value → Prop) (T : Value → World → Prop) : Prop :=
  (Region.wanted o (yielded ops a.tmps) = true ∧ E i = true ∧ EffD P G w0 (D i a) (fun v w => Sp i v ∧ F i v w) (execOp a.eval o) ∧ (S = Sp i) ∧ T = F i) ∨
  (Region.wanted o (yielded ops a.tmps) = true ∧ E i = false ∧ ∃ v, (∀ w2, G w0 w2 → (execOp a.eval o).run P w2 = .ok (.value v) w2) ∧ (S = fun u => u = v) ∧ T = fun _ _ => True) ∨
  (Region.wanted o (yielded ops a.tmps) = false ∧ (S = fun u => u = undef) ∧ T = fun _ _ => True)

theorem rOpD_kind {i : Nat} {o : Oper} (hi : ops[i]? = some o) {K : Act → (World → Prop) → Prop} (hK : Anti K) {a : Act} {Φ : World → Prop} :
    rOpD P ops E G w0 F Sp D i K a Φ ↔ ∃ S T, rKindD P ops E G w0 F Sp D i o a S T ∧ ∀ v, S v → K (a.put o.dst v) (fun w => Φ w ∧ T v w) := by
  unfold rOpD rKindD
  rw [hi]
  simp only
  constructor
  · intro h
    split at h
    · rename_i hw
      split at h
      · rename_i hE
        exact ⟨_, _, .inl ⟨hw, hE, h.1, rfl, rfl⟩, fun v hv => h.2 v hv⟩
      · rename_i hE
        obtain ⟨v, h1, h2⟩ := h
        exact ⟨_, _, .inr (.inl ⟨hw, by simpa using hE, v, h1, rfl, rfl⟩), fun u hu => by subst hu; exact hK _ _ _ h2 fun w hw => hw.1⟩
    · rename_i hw
      exact ⟨_, _, .inr (.inr ⟨by simpa using hw, rfl, rfl⟩), fun u hu => by subst hu; exact hK _ _ _ h fun w hw => hw.1⟩
  · rintro ⟨S, T, (⟨hw, hE, he, rfl, rfl⟩ | ⟨hw, hE, v, hv, rfl, rfl⟩ | ⟨hw, rfl, rfl⟩), hk⟩
    · simp only [hw, hE, if_true]
      exact ⟨he, fun v hv => hk v hv⟩
    · simp only [hw, hE, if_true, Bool.false_eq_true, if_false]
      exact ⟨v, hv, hK _ _ _ (hk v rfl) fun w hw => ⟨hw, trivial⟩⟩
    · simp only [hw, Bool.false_eq_true, if_false]
      exact hK _ _ _ (hk _ rfl) fun w hw => ⟨hw, trivial⟩

theorem rKindD_put (hDp : DPut ops D) {i : Nat} {o : Oper} (hi : ops[i]? = some o) (hsel : ∀ cs b, o.op ≠ .select cs b) {x : Option Tmp} (h1 : ∀ d, x = some d → d ∉ o.looksAt ops) {a : Act} {u : Value} {S : Value → Prop} {T : Value → World → Prop} :
    rKindD P ops E G w0 F Sp D i o (a.put x u) S T ↔ rKindD P ops E G w0 F Sp D i o a S T := by
  have hd : D i (a.put x u) = D i a := funext fun w => propext (hDp i o x hi h1 a u w)
  unfold rKindD
  rw [execOp_put (ops := ops) o hsel a x u h1, wanted_put o a x u h1, hd]

theorem rKindD_inh (hS : ∀ i, ∃ v, Sp i v) {i : Nat} {o : Oper} {a : Act} {S : Value → Prop} {T : Value → World → Prop} (h : rKindD P ops E G w0 F Sp D i o a S T) : ∃ v, S v := by
  rcases h with ⟨_, _, _, rfl, _⟩ | ⟨_, _, v, _, rfl, _⟩ | ⟨_, rfl, _⟩
  · exact hS i
  · exact ⟨v, rfl⟩
  · exact ⟨_, rfl⟩
theorem rKindD_one {i : Nat} {o : Oper} {a : Act} {S S' : Value → Prop} {T T' : Value → World → Prop} (hr : G w0 w0) (h : rKindD P ops E G w0 F Sp D i o a S T) (h' : rKindD P ops E G w0 F Sp D i o a S' T') : S = S' ∧ T = T' := by
  rcases h with ⟨a1, a2, _, rfl, rfl⟩ | ⟨a1, a2, v, a3, rfl, rfl⟩ | ⟨a1, rfl, rfl⟩ <;> rcases h' with ⟨b1, b2, _, rfl, rfl⟩ | ⟨b1, b2, v', b3, rfl, rfl⟩ | ⟨b1, rfl, rfl⟩
  · exact ⟨rfl, rfl⟩
  · rw [a2] at b2; cases b2
  · rw [a1] at b1; cases b1
  · rw [a2] at b2; cases b2
  · have := (a3 w0 hr).symm.trans (b3 w0 hr)
    simp only [Result.ok.injEq, Next.value.injEq, and_true] at this
    subst this
    exact ⟨rfl, rfl⟩
  · rw [a1] at b1; cases b1
  · rw [a1] at b1; cases b1
  · rw [a1] at b1; cases b1
  · exact ⟨rfl, rfl⟩

theorem rOpD_comm (hDp : DPut ops D) (hS : ∀ i, ∃ v, Sp i v) {i j : Nat} {oi oj : Oper} (hr : G w0 w0) (hi : ops[i]? = some oi) (hj : ops[j]? = some oj) (hap : oi.apart ops oj = true)
    (hsi : ∀ cs b, oi.op ≠ .select cs b) (hsj : ∀ cs b, oj.op ≠ .select cs b) {K : Act → (World → Prop) → Prop} (hK : Anti K) {a : Act} {Φ : World → Prop}
    (h : rOpD P ops E G w0 F Sp D i (rOpD P ops E G w0 F Sp D j K) a Φ) : rOpD P ops E G w0 F Sp D j (rOpD P ops E G w0 F Sp D i K) a Φ := by
  obtain ⟨h1, h2, h3⟩ := Oper.apart_spec hap
  rw [rOpD_kind hi (rOpD_anti hK)] at h
  obtain ⟨S, T, hk, h⟩ := h
  obtain ⟨v0, hv0⟩ := rKindD_inh hS hk
  have hj0 := h v0 hv0
  rw [rOpD_kind hj hK] at hj0
  obtain ⟨S', T', hk', _⟩ := hj0
  rw [rKindD_put hDp hj hsj h1] at hk'
  rw [rOpD_kind hj (rOpD_anti hK)]
  refine ⟨S', T', hk', fun u hu => ?_⟩
  rw [rOpD_kind hi hK]
  refine ⟨S, T, (rKindD_put hDp hi hsi h3).2 hk, fun v hv => ?_⟩
  have h4 := h v hv
  rw [rOpD_kind hj hK] at h4
  obtain ⟨S2, T2, hk2, h5⟩ := h4
  rw [rKindD_put hDp hj hsj h1] at hk2
  obtain ⟨rfl, rfl⟩ := rKindD_one hr hk' hk2
  have h6 := h5 u hu
  rw [Act.put_comm a v u h2] at h6
  exact hK _ _ _ h6 fun w hw => ⟨⟨hw.1.1, hw.2⟩, hw.1.2⟩

/-! ### any order -/
def wpAnyD (P : Program) (md : Region.Mode) (ops : Array Oper) (E : Nat → Bool) (G : World → World → Prop) (w0 : World) (F : Nat → Value → World → Prop) (Sp : Nat → Value → Prop) (D : Nat → Act → World → Prop) (Q : Act → World → Prop) (tl : Nat) : Nat → Array Bool → Act → (World → Prop) → Prop
  | 0, listed, a, Φ => Region.ready md ops listed = [] ∧ ∀ w, G w0 w → Φ w → Q a w
  | fuel + 1, listed, a, Φ =>
    (Region.ready md ops listed = [] → ∀ w, G w0 w → Φ w → Q a w) ∧
    ∀ i ∈ Region.ready md ops listed, (i = tl → Region.ready md ops (listed.setIfInBounds i true) = [] ∧ ∀ w, G w0 w → Φ w → tOp P ops i Q a w) ∧
      (i ≠ tl → rOpD P ops E G w0 F Sp D i (wpAnyD P md ops E G w0 F Sp D Q tl fuel (listed.setIfInBounds i true)) a Φ)

theorem wpAnyD_anti {Q : Act → World → Prop} {tl : Nat} : ∀ (fuel : Nat) (listed : Array Bool), Anti (wpAnyD P md ops E G w0 F Sp D Q tl fuel listed)
  | 0, _ => fun _ _ _ h hi => ⟨h.1, fun w hg hw => h.2 w hg (hi w hw)⟩
  | fuel + 1, _ => fun _ _ _ h hi => ⟨fun h0 w hg hw => h.1 h0 w hg (hi w hw), fun i hir => ⟨fun hit => ⟨((h.2 i hir).1 hit).1, fun w hg hw => ((h.2 i hir).1 hit).2 w hg (hi w hw)⟩,
      fun hit => rOpD_anti (wpAnyD_anti fuel _) _ _ _ ((h.2 i hir).2 hit) hi⟩⟩

theorem wpAny_of_wpAnyD {Q : Act → World → Prop} {Q' : Exit → Act → World → Prop} {tl : Nat} {Inv : Array Bool → Act → World → Prop} (hI : Known md ops E G F D Inv) (hGt : ∀ {A B C : World}, G A B → G B C → G A C) (hGr : ∀ A, G A A) (hF : ∀ i v w w', F i v w → G w w' → F i v w') (hQ : ∀ a w, Q a w → Q' .normal a w) :
    ∀ (fuel : Nat) (listed : Array Bool) (a : Act) (w : World) (Φ : World → Prop), G w0 w → Down md ops listed → Inv listed a w → Φ w → (∀ w w', Φ w → G w w' → Φ w') → wpAnyD P md ops E G w0 F Sp D Q tl fuel listed a Φ → wpAny P md ops Q' fuel listed a w
  | 0, _, _, _, _, hw, _, _, hp, _, h => ⟨h.1, hQ _ _ (h.2 _ hw hp)⟩
  | fuel + 1, listed, a, w, Φ, hw, hdn, hin, hp, hst, h => ⟨fun h0 => hQ _ _ (h.1 h0 _ hw hp), fun i hi => by
      by_cases hit : i = tl
      · obtain ⟨h1, h2⟩ := (h.2 i hi).1 hit
        exact wpOp_of_tOp (fun a' w' hq => wpAny_end h1 fuel (hQ _ _ hq)) (h2 w hw hp)
      · have h3 := (h.2 i hi).2 hit
        unfold rOpD at h3
        unfold wpOp
        split
        · rename_i ho
          obtain ⟨_, o, ho2, _⟩ := mem_ready.1 hi
          rw [ho] at ho2
          cases ho2
        · rename_i o ho
          simp only [ho] at h3
          split
          · rename_i hwt
            simp only [hwt, if_true] at h3
            refine .inl ?_
            split at h3
            · rename_i hE
              obtain ⟨he, hk⟩ := h3
              unfold Oper.wp
              refine (he w hw (hI.need _ _ _ _ _ ho hi hwt hin)).upon fun v w' hv => ?_
              exact wpAny_of_wpAnyD hI hGt hGr hF hQ fuel _ _ w' _ (hGt hw hv.1) (hdn.ready hi) (hI.made _ _ _ _ _ _ ho hi hdn hE (hI.keep _ _ _ _ hin hv.1) hv.2.2) ⟨hst _ _ hp hv.1, hv.2.2⟩ (fun x y hx hg => ⟨hst _ _ hx.1 hg, hF _ _ _ _ hx.2 hg⟩) (hk v hv.2.1)
            · rename_i hE
              obtain ⟨v, h1, h2⟩ := h3
              unfold Oper.wp
              rw [h1 w hw]
              exact wpAny_of_wpAnyD hI hGt hGr hF hQ fuel _ _ w Φ hw (hdn.ready hi) (hI.quiet _ _ _ _ _ _ ho hi hdn (.inl (by simpa using hE)) hin) hp hst h2
          · rename_i hwt
            simp only [hwt] at h3
            exact wpAny_of_wpAnyD hI hGt hGr hF hQ fuel _ _ w Φ hw (hdn.ready hi) (hI.quiet _ _ _ _ _ _ ho hi hdn (.inr (by simpa using hwt)) hin) hp hst h3⟩

theorem rOpD_ex (hS : ∀ i, ∃ v, Sp i v) {i : Nat} {K : Act → (World → Prop) → Prop} {a : Act} {Φ : World → Prop} (h : rOpD P ops E G w0 F Sp D i K a Φ) : ∃ a' Φ', K a' Φ' := by
  unfold rOpD at h
  split at h
  · exact ⟨_, _, h⟩
  · split at h
    · split at h
      · obtain ⟨v, hv⟩ := hS i
        exact ⟨_, _, h.2 v hv⟩
      · obtain ⟨v, _, h⟩ := h
        exact ⟨_, _, h⟩
    · exact ⟨_, _, h⟩

theorem wpAnyD_first (hDp : DPut ops D) (hS : ∀ i, ∃ v, Sp i v) {Q : Act → World → Prop} {n tl : Nat} (hr0 : G w0 w0) (htl : Tail md ops n tl) {i : Nat} {oi : Oper} (hi : ops[i]? = some oi) (hit : i ≠ tl)
    (hsel : ∀ (j : Nat) (o : Oper) cs b, ops[j]? = some o → o.op ≠ .select cs b) :
    ∀ (fuel : Nat) (listed : Array Bool) (a : Act) (Φ : World → Prop), Down md ops listed →
      (∀ j oj, ops[j]? = some oj → j ≠ i → listed.getD j true = false → (∀ e ∈ oj.after, Region.binds md e = true → e.on ≠ i) → oi.apart ops oj = true) →
      i ∈ Region.ready md ops listed →
      rOpD P ops E G w0 F Sp D i (wpAnyD P md ops E G w0 F Sp D Q tl fuel (listed.setIfInBounds i true)) a Φ → wpAnyD P md ops E G w0 F Sp D Q tl (fuel + 1) listed a Φ := by
  intro fuel
  induction fuel with
  | zero =>
    intro listed a Φ _ _ hr H
    refine ⟨fun h => (by rw [h] at hr; cases hr), fun j hj => ?_⟩
    by_cases hji : j = i
    · subst hji; exact ⟨fun h => absurd h hit, fun _ => H⟩
    · have := ready_mono hj hji
      obtain ⟨a', w', hK⟩ := rOpD_ex hS H
      rw [hK.1] at this
      cases this
  | succ fuel ih =>
    intro listed a Φ hdn hfree hr H
    refine ⟨fun h => (by rw [h] at hr; cases hr), fun j hj => ?_⟩
    by_cases hji : j = i
    · subst hji; exact ⟨fun h => absurd h hit, fun _ => H⟩
    · obtain ⟨hjun, oj, hoj, hall⟩ := mem_ready.1 hj
      have hiun := (mem_ready.1 hr).1
      have hjt : j ≠ tl := by
        intro hjt
        subst hjt
        have h1 := htl i (Array.getElem?_eq_some_iff.1 hi).1 hit
        rw [dep_ready hdn (getD_true_false hiun) hj n] at h1
        cases h1
      refine ⟨fun h => absurd h hjt, fun _ => ?_⟩
      have hnot : ∀ e ∈ oj.after, Region.binds md e = true → e.on ≠ i := fun e he hb heq => by
        have h1 := hall e he hb
        rw [heq, getD_true_false hiun] at h1
        cases h1
      have hap := hfree j oj hoj hji hjun hnot
      have H1 : rOpD P ops E G w0 F Sp D i (rOpD P ops E G w0 F Sp D j (wpAnyD P md ops E G w0 F Sp D Q tl fuel ((listed.setIfInBounds i true).setIfInBounds j true))) a Φ :=
        rOpD_mono (fun a' Φ' hK => (hK.2 j (ready_mono hj hji)).2 hjt) H
      have H2 := rOpD_comm hDp hS hr0 hi hoj hap (fun cs b => hsel i oi cs b hi) (fun cs b => hsel j oj cs b hoj) (wpAnyD_anti fuel _) H1
      have hfree' : ∀ k ok, ops[k]? = some ok → k ≠ i → (listed.setIfInBounds j true).getD k true = false →
          (∀ e ∈ ok.after, Region.binds md e = true → e.on ≠ i) → oi.apart ops ok = true := fun k ok hk hki hun hno => by
        refine hfree k ok hk hki ?_ hno
        by_cases hjk : j = k
        · subst hjk; exact hjun
        · rw [getD_set_ne true hjk] at hun; exact hun
      refine rOpD_mono (fun a' Φ' h3 => ih (listed.setIfInBounds j true) a' Φ' (hdn.ready hj) hfree' (ready_mono hr (Ne.symm hji)) ?_) H2
      rw [Array.setIfInBounds_comm _ _ hji]
      exact h3

/-- THE WALK IN THE ORDER OF THE TEXT -/
def wpMixD (P : Program) (ops : Array Oper) (E : Nat → Bool) (G : World → World → Prop) (w0 : World) (F : Nat → Value → World → Prop) (Sp : Nat → Value → Prop) (D : Nat → Act → World → Prop) (Q : Act → World → Prop) (tl : Nat) : Nat → List Oper → Act → (World → Prop) → Prop
  | _, [], a, Φ => ∀ w, G w0 w → Φ w → Q a w
  | k, o :: rest, a, Φ =>
    (k = tl → ∀ w, G w0 w → Φ w → if Region.wanted o (yielded ops a.tmps) then o.wp P a w Q NoExit else Q (a.put o.dst undef) w) ∧
    (k ≠ tl → if Region.wanted o (yielded ops a.tmps) then
      if E k then EffD P G w0 (D k a) (fun v w => Sp k v ∧ F k v w) (execOp a.eval o) ∧ ∀ v, Sp k v → wpMixD P ops E G w0 F Sp D Q tl (k + 1) rest (a.put o.dst v) (fun w => Φ w ∧ F k v w)
      else ∃ v, (∀ w2, G w0 w2 → (execOp a.eval o).run P w2 = .ok (.value v) w2) ∧ wpMixD P ops E G w0 F Sp D Q tl (k + 1) rest (a.put o.dst v) Φ
    else wpMixD P ops E G w0 F Sp D Q tl (k + 1) rest (a.put o.dst undef) Φ)

theorem wpAnyD_lex (hDp : DPut ops D) (hS : ∀ i, ∃ v, Sp i v) {Q : Act → World → Prop} {n tl : Nat} (hr0 : G w0 w0) (htl : Tail md ops n tl) (hlast : tl + 1 = ops.size) (hs : Region.noSelect ops = true) :
    ∀ (l : List Oper) (k : Nat) (listed : Array Bool) (a : Act) (Φ : World → Prop), (∀ j, l[j]? = ops[k + j]?) → (∀ j, j < k → listed.getD j true = true) → Down md ops listed →
      Region.lexFrom md ops l.length k listed = true → wpMixD P ops E G w0 F Sp D Q tl k l a Φ → wpAnyD P md ops E G w0 F Sp D Q tl l.length listed a Φ
  | [], _, _, _, _, _, _, _, hB, h => ⟨by simpa [Region.lexFrom] using hB, h⟩
  | o :: l, k, listed, a, Φ, hl, hbf, hdn, hB, h => by
    have h0 : ops[k]? = some o := by simpa using (hl 0).symm
    have hklt : k < ops.size := (Array.getElem?_eq_some_iff.1 h0).1
    simp only [List.length_cons, Region.lexFrom, Bool.and_eq_true] at hB
    obtain ⟨⟨hr, hf⟩, hB'⟩ := hB
    have hr' : k ∈ Region.ready md ops listed := by simpa using hr
    have hbf' : ∀ j, j < k + 1 → (listed.setIfInBounds k true).getD j true = true := fun j hj => by
      by_cases hjk : k = j
      · subst hjk
        cases hg : (listed.setIfInBounds k true).getD k true with
        | true => rfl
        | false =>
          exfalso
          rcases Nat.lt_or_ge k listed.size with h1 | h1
          · simp [h1] at hg
          · simp [h1] at hg
      · rw [getD_set_ne true hjk]; exact hbf j (by omega)
    by_cases hkt : k = tl
    · have hnil : ∀ j, j ∈ Region.ready md ops (listed.setIfInBounds k true) → False := fun j hj => by
        obtain ⟨hun, oj, hoj, _⟩ := mem_ready.1 hj
        have := (Array.getElem?_eq_some_iff.1 hoj).1
        rw [hbf' j (by omega)] at hun
        cases hun
      have hnil' : Region.ready md ops (listed.setIfInBounds k true) = [] := List.eq_nil_iff_forall_not_mem.2 fun j hj => hnil j hj
      refine ⟨fun h1 => (by rw [h1] at hr'; cases hr'), fun i hi => ?_⟩
      have hik : i = k := by
        obtain ⟨hun, oi, hoi, _⟩ := mem_ready.1 hi
        have := (Array.getElem?_eq_some_iff.1 hoi).1
        rcases Nat.lt_or_ge i k with h1 | h1
        · rw [hbf i h1] at hun; cases hun
        · omega
      subst hik
      refine ⟨fun _ => ⟨hnil', fun w hg hw => ?_⟩, fun h1 => absurd hkt h1⟩
      unfold tOp
      rw [h0]
      unfold wpMixD at h
      exact h.1 hkt w hg hw
    · have hm : rOpD P ops E G w0 F Sp D k (wpMixD P ops E G w0 F Sp D Q tl (k + 1) l) a Φ := by
        unfold rOpD
        rw [h0]
        unfold wpMixD at h
        exact h.2 hkt
      refine wpAnyD_first hDp hS hr0 htl h0 hkt (Region.noSelect_spec hs) l.length listed a Φ hdn (Region.free_spec h0 hf) hr' ?_
      exact rOpD_mono (fun a' Φ' hK => wpAnyD_lex hDp hS hr0 htl hlast hs l (k + 1) _ a' Φ' (fun j => by have := hl (j + 1); simpa [Nat.add_assoc, Nat.add_comm 1 j] using this) hbf' (hdn.ready hr') hB' hK) hm

structure MixD (P : Program) (ops : Array Oper) (E : Nat → Bool) (G : World → World → Prop) (w0 : World) (F : Nat → Value → World → Prop) (Sp : Nat → Value → Prop) (D : Nat → Act → World → Prop) (Q : Act → World → Prop) (tl k : Nat) (rest : List Oper) (a : Act) (Φ : World → Prop) : Prop where
  out : wpMixD P ops E G w0 F Sp D Q tl k rest a Φ

/-- whose values an effect takes: operation, effect, the effect's slot -/
abbrev Deps := List (Nat × Nat × Tmp)
def needOf (F : Nat → Value → World → Prop) (deps : Deps) (i : Nat) (a : Act) (w : World) : Prop := ∀ e s, (i, e, s) ∈ deps → F e (a.tmps.getD s undef) w
def invOf (ops : Array Oper) (F : Nat → Value → World → Prop) (deps : Deps) (L : Array Bool) (a : Act) (w : World) : Prop :=
  ∀ i e s, (i, e, s) ∈ deps → s < a.tmps.size ∧ (L.getD e false = true → ∀ oe, ops[e]? = some oe → Region.wanted oe (yielded ops a.tmps) = true → F e (a.tmps.getD s undef) w)
/-- what is asked of such a list -/
structure DepsOk (md : Region.Mode) (ops : Array Oper) (Es : List Nat) (deps : Deps) : Prop where
  ok : ∀ i e s, (i, e, s) ∈ deps → ∃ oi oe, ops[i]? = some oi ∧ ops[e]? = some oe ∧ oe.dst = some s ∧ Es.contains e = true ∧ oi.guard = oe.guard ∧ s ∈ oi.looksAt ops ∧ s ∉ oe.looksAt ops ∧
    (∃ x ∈ oi.after, Region.binds md x = true ∧ x.on = e) ∧
    ∀ k ok d, ops[k]? = some ok → k ≠ e → ok.dst = some d → (d = s ∨ d ∈ oe.looksAt ops) → dep md ops ops.size e k = true

theorem getD_put_other {a : Act} {x : Option Tmp} {v : Value} {s : Tmp} (h : ∀ d, x = some d → d ≠ s) : (a.put x v).tmps.getD s undef = a.tmps.getD s undef := by
  cases x with
  | none => rfl
  | some d =>
    have := h d rfl
    simp [Act.put, Array.getElem?_setIfInBounds_ne this]
theorem size_put (a : Act) (x : Option Tmp) (v : Value) : (a.put x v).tmps.size = a.tmps.size := by
  cases x <;> simp [Act.put]
theorem getD_put_same {a : Act} {v : Value} {s : Tmp} (h : s < a.tmps.size) : (a.put (some s) v).tmps.getD s undef = v := by
  simp [Act.put, h]

theorem known_of {Es : List Nat} {deps : Deps} (hd : DepsOk md ops Es deps) (hF : ∀ i v w w', F i v w → G w w' → F i v w') : Known md ops (fun k => Es.contains k) G F (needOf F deps) (invOf ops F deps) where
  keep L a w w' h hg i e s hm := ⟨(h i e s hm).1, fun hl oe ho hw => hF _ _ _ _ ((h i e s hm).2 hl oe ho hw) hg⟩
  made L a w k o v ho hr hdn hE h hf i e s hm := by
    refine ⟨by rw [size_put]; exact (h i e s hm).1, fun hl oe hoe hw => ?_⟩
    obtain ⟨oi, oe', _, hoe', hdst, _, _, _, hs, _, hk⟩ := hd.ok i e s hm
    rw [hoe] at hoe'
    cases hoe'
    by_cases hke : k = e
    · subst hke
      rw [ho] at hoe
      cases hoe
      rw [hdst, getD_put_same (h i k s hm).1]
      exact hf
    · have hl' : L.getD e false = true := by rwa [getD_set_ne false hke] at hl
      have hun := getD_true_false (mem_ready.1 hr).1
      have hno : ∀ d, o.dst = some d → d ≠ s ∧ d ∉ oe.looksAt ops := fun d hd' => by
        have := fun hx => hk k o d ho hke hd' hx
        have hdl := dep_listed hdn hun ops.size e hl'
        exact ⟨fun hx => (by rw [this (.inl hx)] at hdl; cases hdl), fun hx => (by rw [this (.inr hx)] at hdl; cases hdl)⟩
      rw [getD_put_other fun d hd' => (hno d hd').1]
      rw [wanted_put oe a o.dst v fun d hd' => (hno d hd').2] at hw
      exact (h i e s hm).2 hl' oe hoe hw
  quiet L a w k o v ho hr hdn hE h i e s hm := by
    refine ⟨by rw [size_put]; exact (h i e s hm).1, fun hl oe hoe hw => ?_⟩
    obtain ⟨oi, oe', _, hoe', hdst, hEe, _, _, hs, _, hk⟩ := hd.ok i e s hm
    rw [hoe] at hoe'
    cases hoe'
    by_cases hke : k = e
    · subst hke
      rw [ho] at hoe
      cases hoe
      rcases hE with hE | hE
      · have hE' : Es.contains k = false := hE
        rw [hEe] at hE'
        cases hE'
      · rw [wanted_put o a o.dst v fun d hd' => by rw [hdst] at hd'; cases hd'; exact hs, hE] at hw
        cases hw
    · have hl' : L.getD e false = true := by rwa [getD_set_ne false hke] at hl
      have hun := getD_true_false (mem_ready.1 hr).1
      have hno : ∀ d, o.dst = some d → d ≠ s ∧ d ∉ oe.looksAt ops := fun d hd' => by
        have := fun hx => hk k o d ho hke hd' hx
        have hdl := dep_listed hdn hun ops.size e hl'
        exact ⟨fun hx => (by rw [this (.inl hx)] at hdl; cases hdl), fun hx => (by rw [this (.inr hx)] at hdl; cases hdl)⟩
      rw [getD_put_other fun d hd' => (hno d hd').1]
      rw [wanted_put oe a o.dst v fun d hd' => (hno d hd').2] at hw
      exact (h i e s hm).2 hl' oe hoe hw
  need L a w i o ho hr hw h e s hm := by
    obtain ⟨oi, oe, hoi, hoe, _, _, hgd, _, _, ⟨x, hx, hb, hxe⟩, _⟩ := hd.ok i e s hm
    rw [ho] at hoi
    cases hoi
    obtain ⟨_, o', ho', hall⟩ := mem_ready.1 hr
    rw [ho] at ho'
    cases ho'
    refine (h i e s hm).2 (by rw [← hxe]; exact hall x hx hb) oe hoe ?_
    have : Region.wanted oe (yielded ops a.tmps) = Region.wanted o (yielded ops a.tmps) := by unfold Region.wanted; rw [hgd]
    rw [this, hw]
theorem put_of {Es : List Nat} {deps : Deps} (hd : DepsOk md ops Es deps) : DPut ops (needOf F deps) := by
  intro i o x ho hx a u w
  have key : ∀ e s, (i, e, s) ∈ deps → (a.put x u).tmps.getD s undef = a.tmps.getD s undef := fun e s hm => by
    obtain ⟨oi, _, hoi, _, _, _, _, hl, _⟩ := hd.ok i e s hm
    rw [ho] at hoi
    cases hoi
    exact getD_put_other fun d hd' e' => hx d hd' (by rw [e']; exact hl)
  constructor
  · intro h e s hm
    have := h e s hm
    rwa [key e s hm] at this
  · intro h e s hm
    rw [key e s hm]
    exact h e s hm

/-- the test, by bits -/
def depsB (md : Region.Mode) (ops : Array Oper) (Es : List Nat) (deps : Deps) : Bool :=
  let A := ancAll md ops.toList []
  deps.all fun p => match ops[p.1]?, ops[p.2.1]? with
    | some oi, some oe => oe.dst == some p.2.2 && Es.contains p.2.1 && decide (oi.guard = oe.guard) && (oi.looksAt ops).contains p.2.2 && !((oe.looksAt ops).contains p.2.2) && oi.after.any (fun x => Region.binds md x && x.on == p.2.1) &&
        (List.range ops.size).all fun k => k == p.2.1 || (A.getD p.2.1 0).testBit k || (match (ops[k]?).bind (·.dst) with | some d => !(d == p.2.2) && !((oe.looksAt ops).contains d) | none => true)
    | _, _ => false
theorem depsB_ok {Es : List Nat} {deps : Deps} (h : depsB md ops Es deps = true) : DepsOk md ops Es deps := by
  have hA : AncOk md ops (ancAll md ops.toList []) := anc_all ops.toList [] (fun j i h => by simp at h) (fun j => by simp)
  unfold depsB at h
  simp only [List.all_eq_true] at h
  refine ⟨fun i e s hm => ?_⟩
  have hp := h _ hm
  simp only at hp
  split at hp
  · rename_i oi oe h1 h2
    simp only [Bool.and_eq_true, decide_eq_true_eq, Bool.not_eq_true', List.contains_eq_mem, beq_iff_eq, decide_eq_false_iff_not] at hp
    obtain ⟨⟨⟨⟨⟨⟨p1, p2⟩, p3⟩, p4⟩, p5⟩, p6⟩, p7⟩ := hp
    refine ⟨oi, oe, h1, h2, p1, by simpa using p2, p3, p4, p5, ?_, fun k ok d hk hne hdst hds => ?_⟩
    · obtain ⟨x, hx, hb⟩ := Array.any_eq_true'.1 p6
      simp only [Bool.and_eq_true, beq_iff_eq] at hb
      exact ⟨x, hx, hb.1, hb.2⟩
    · have hks : k < ops.size := (Array.getElem?_eq_some_iff.1 hk).1
      have he : e < ops.size := (Array.getElem?_eq_some_iff.1 h2).1
      have := List.all_eq_true.1 p7 k (List.mem_range.2 hks)
      rw [hk] at this
      simp only [Option.bind_some, hdst, Bool.or_eq_true, beq_iff_eq, Bool.and_eq_true, Bool.not_eq_true', decide_eq_false_iff_not, beq_eq_false_iff_ne] at this
      rcases this with (h3 | h3) | h3
      · exact absurd h3 hne
      · exact dep_mono _ _ _ (hA e k h3).2 _ he
      · rcases hds with h4 | h4
        · exact absurd h4 h3.1
        · exact absurd h4 h3.2
  · cases hp
def tailC (md : Region.Mode) (ops : Array Oper) (tl : Nat) : Bool := let A := ancAll md ops.toList []; (List.range ops.size).all (fun i => i == tl || (A.getD tl 0).testBit i) && tl + 1 == ops.size
theorem tailC_of {tl : Nat} (h : tailC md ops tl = true) : Tail md ops ops.size tl ∧ tl + 1 = ops.size := by
  have hA : AncOk md ops (ancAll md ops.toList []) := anc_all ops.toList [] (fun j i h => by simp at h) (fun j => by simp)
  unfold tailC at h
  simp only [Bool.and_eq_true, List.all_eq_true, beq_iff_eq] at h
  refine ⟨fun i hi hne => ?_, h.2⟩
  have h3 := h.1 i (List.mem_range.2 hi)
  simp only [Bool.or_eq_true, beq_iff_eq] at h3
  rcases h3 with h3 | h3
  · exact absurd h3 hne
  · have := (hA tl i h3).2
    rw [h.2] at this
    exact this

theorem wp_region_mixD {id : Nat} {l : List Oper} (Es : List Nat) (tl : Nat) (G : World → World → Prop) (F : Nat → Value → World → Prop) (Sp : Nat → Value → Prop) (deps : Deps) {Q : Exit → Act → World → Prop} {a : Act} {w : World} (hm : P.follows .mixedOrders = true)
    (hB : (Region.lexB .any l.toArray && tailC .any l.toArray tl && depsB .any l.toArray Es deps) = true) (hsz : ∀ i e s, (i, e, s) ∈ deps → s < a.tmps.size) (hGt : ∀ {A B C : World}, G A B → G B C → G A C) (hGr : ∀ A, G A A) (hF : ∀ i v w w', F i v w → G w w' → F i v w') (hS : ∀ i, ∃ v, Sp i v)
    (h : MixD P l.toArray (fun k => Es.contains k) G w.drew F Sp (needOf F deps) (fun a' w' => Q .normal a' w') tl 0 l a (fun _ => True)) : (Code.region id l.toArray true).wp P Q a w := by
  simp only [Region.lexB, Bool.and_eq_true] at hB
  obtain ⟨⟨hB1, hB2⟩, hB3⟩ := hB
  obtain ⟨ht1, ht2⟩ := tailC_of hB2
  have hd := depsB_ok hB3
  refine wp_region_any hm (wpAny_of_wpAnyD (Q := fun a' w' => Q .normal a' w') (E := fun k => Es.contains k) (tl := tl) (w0 := w.drew) (F := F) (G := G) (Sp := Sp) (known_of hd hF) hGt hGr hF (fun _ _ h => h) _ _ _ _ (fun _ => True) (hGr _) (Down.start _) (fun i e s hm => ⟨hsz i e s hm, fun hl => by
    have : (Array.replicate l.toArray.size false).getD e false = false := by
      rw [Array.getD_eq_getD_getElem?, Array.getElem?_replicate]
      split <;> rfl
    rw [this] at hl
    cases hl⟩) trivial (fun _ _ _ _ => trivial) ?_)
  have := wpAnyD_lex (P := P) (G := G) (F := F) (Sp := Sp) (put_of hd) hS (Q := fun a' w' => Q .normal a' w') (md := .any) (hGr w.drew) ht1 ht2 hB1.1 l 0 (Array.replicate l.toArray.size false) a (fun _ => True) (by simp) (fun j hj => by omega) (Down.start _) (by simpa using hB1.2) h.out
  simpa using this

section
variable {Es : List Nat} {Q : Act → World → Prop} {o : Oper} {rest : List Oper} {a : Act} {k tl : Nat} {Φ : World → Prop}

theorem mixD_step (hk : (Es.contains k || k == tl) = false) (h : ∀ K : Act → Prop, (∀ a, MixD P ops (fun k => Es.contains k) G w0 F Sp D Q tl (k + 1) rest a Φ → K a) →
      if Region.wanted o (yielded ops a.tmps) then ∃ v, (∀ w2 : Subtype (G w0), (execOp a.eval o).run P w2.1 = .ok (.value v) w2.1) ∧ K (a.put o.dst v) else K (a.put o.dst undef)) :
    MixD P ops (fun k => Es.contains k) G w0 F Sp D Q tl k (o :: rest) a Φ := by
  have := h (fun a => wpMixD P ops (fun k => Es.contains k) G w0 F Sp D Q tl (k + 1) rest a Φ) (fun _ h => h.out)
  rw [Bool.or_eq_false_iff] at hk
  have hkt : k ≠ tl := by simpa using hk.2
  refine ⟨?_⟩
  unfold wpMixD
  refine ⟨fun h => absurd h hkt, fun _ => ?_⟩
  simp only [hk.1]
  split
  · rename_i hw
    rw [if_pos hw] at this
    obtain ⟨v, h1, h2⟩ := this
    exact ⟨v, fun w2 hw2 => h1 ⟨w2, hw2⟩, h2⟩
  · rename_i hw
    rw [if_neg hw] at this
    exact this

/-- an effect that is made -/
theorem mixD_eff (hk : (Es.contains k && !(k == tl)) = true) (hw : Region.wanted o (yielded ops a.tmps) = true) (he : ∀ w, G w0 w → D k a w → EffR P (fun v w' => G w w' ∧ Sp k v ∧ F k v w') ((execOp a.eval o).run P w))
    (h : ∀ v, Sp k v → MixD P ops (fun k => Es.contains k) G w0 F Sp D Q tl (k + 1) rest (a.put o.dst v) (fun w => Φ w ∧ F k v w)) :
    MixD P ops (fun k => Es.contains k) G w0 F Sp D Q tl k (o :: rest) a Φ := by
  rw [Bool.and_eq_true] at hk
  have hkt : k ≠ tl := by simpa using hk.2
  refine ⟨?_⟩
  unfold wpMixD
  refine ⟨fun h => absurd h hkt, fun _ => ?_⟩
  simp only [hk.1, hw, if_true]
  exact ⟨he, fun v hv => (h v hv).out⟩

/-- the last one -/
theorem mixD_last (hk : (k == tl) = true) (h : ∀ w, G w0 w → Φ w → ∀ K : Act → World → Prop, (∀ a w, Q a w → K a w) →
      if Region.wanted o (yielded ops a.tmps) then o.wp P a w K NoExit else K (a.put o.dst undef) w) :
    MixD P ops (fun k => Es.contains k) G w0 F Sp D Q tl k [o] a Φ := by
  have hkt : k = tl := by simpa using hk
  refine ⟨?_⟩
  unfold wpMixD
  exact ⟨fun _ w hg hw => h w hg hw Q (fun _ _ h => h), fun h => absurd hkt h⟩
end
end
end Go.Mix

/- A list, an element put into it: append(append(append([]T{}, l[:k]...), x), l[k:]...), where the order of the one-element slice and the first appends is left open: what the appends leave, in whatever order. Conditions: the lengths' sum is within what Go's growslice bears. -/
namespace Go.Proofs.YtgbmclgnbbhcbaaGreat
open Go.RowKit Go.Lib
set_option linter.unusedVariables false

/-- what each effect keeps: all below yb; of each row from yb on: its length, what of it is the whole list's head, and what is the one's -/
structure GA (e : TypeId) (sz yb : Nat) (Fl sC : List Value) (w w' : World) : Prop where
  bl : Below yb w w'
  ro : ∀ b cs, yb ≤ b → w.heap[b]? = some (.cells cs e (0, 0)) → ∃ cs' : Array Value, w'.heap[b]? = some (.cells cs' e (0, 0)) ∧ cs'.size = cs.size ∧
    (∀ m, m ≤ Fl.length → cs.toList.take m = Fl.take m → cs'.toList.take m = Fl.take m) ∧ (cs.toList.take sz = sC → cs'.toList.take sz = sC)
section
variable {e : TypeId} {sz : Nat}
theorem GA.refl (yb : Nat) (Fl sC : List Value) (w : World) : GA e sz yb Fl sC w w := ⟨Below.refl _ _, fun b cs _ h => ⟨cs, h, rfl, fun _ _ h => h, fun h => h⟩⟩
theorem GA.trans {yb : Nat} {Fl sC : List Value} {A B C : World} (h : GA e sz yb Fl sC A B) (k : GA e sz yb Fl sC B C) : GA e sz yb Fl sC A C :=
  ⟨h.bl.trans k.bl, fun b cs hb hh => by
    obtain ⟨c1, e1, e2, e3, e4⟩ := h.ro b cs hb hh
    obtain ⟨c2, f1, f2, f3, f4⟩ := k.ro b c1 hb e1
    exact ⟨c2, f1, f2.trans e2, fun m hm hx => f3 m hm (e3 m hm hx), fun hx => f4 (e4 hx)⟩⟩
theorem GA.of_below {yb : Nat} {Fl sC : List Value} {w w' : World} (h : Below w.heap.size w w') (hy : yb ≤ w.heap.size) : GA e sz yb Fl sC w w' :=
  ⟨h.mono hy, fun b cs _ hh => ⟨cs, (h.block b (Array.getElem?_eq_some_iff.1 hh).1).trans hh, rfl, fun _ _ h => h, fun h => h⟩⟩
end
/-- the list's head as an owned slice -/
def FOwn (e : TypeId) (sz yb : Nat) (Fl : List Value) (n : Nat) (v : Value) (w : World) : Prop := w.ownsRow yb e sz v n (Fl.take (n * sz)) ∧ (n = 0 → ∃ a, v = .slice a 0 0)
def FNew (e : TypeId) (sz yb : Nat) (sC : List Value) (v : Value) (w : World) : Prop := ∃ g, v = .slice (some ⟨g, 0, none⟩) 1 1 ∧ yb ≤ g ∧ ∃ cs : Array Value, w.heap[g]? = some (.cells cs e (0, 0)) ∧ cs.size = sz ∧ cs.toList.take sz = sC
section
variable {e : TypeId} {sz : Nat}
theorem FOwn.stable {yb n : Nat} {Fl sC : List Value} {v : Value} {w w' : World} (h : FOwn e sz yb Fl n v w) (hn : n * sz ≤ Fl.length) (hg : GA e sz yb Fl sC w w') : FOwn e sz yb Fl n v w' := by
  refine ⟨⟨h.1.1, ?_⟩, h.2⟩
  rcases h.1.2 with h1 | ⟨g, cap, cur, e1, e2, e3, e4, e5, e6, e7⟩
  · exact .inl h1
  · obtain ⟨c2, f1, f2, f3, _⟩ := hg.ro g cur e2 e3
    exact .inr ⟨g, cap, c2, e1, e2, f1, e4, e5, f2.trans e6, f3 _ hn e7⟩
theorem FNew.stable {yb : Nat} {Fl sC : List Value} {v : Value} {w w' : World} (h : FNew e sz yb sC v w) (hg : GA e sz yb Fl sC w w') : FNew e sz yb sC v w' := by
  obtain ⟨g, e1, e2, cs, e3, e4, e5⟩ := h
  obtain ⟨c2, f1, f2, _, f4⟩ := hg.ro g cs e2 e3
  exact ⟨g, e1, e2, c2, f1, f2.trans e4, f4 e5⟩
theorem FNew.slc {yb : Nat} {sC : List Value} {v : Value} {w : World} (h : FNew e sz yb sC v w) (hs : sC.length = sz) : SlC w sz v 1 sC := by
  obtain ⟨g, rfl, _, cs, e3, e4, e5⟩ := h
  have e6 : cs.toList = sC := by rw [← e5, List.take_of_length_le (by simp; omega)]
  refine SlC.of_owns (base := 0) (e := e) (sz := sz) ⟨by rw [hs, Nat.one_mul], .inr ⟨g, 1, cs, rfl, Nat.zero_le _, e3, Nat.le_refl _, by decide, by rw [e4, Nat.one_mul], ?_⟩⟩
  rw [Nat.one_mul, e5]
theorem heap_rowG {w : World} {b : Nat} {cs cs' : Array Value} {p : Nat × Nat} (h : w.heap[b]? = some (.cells cs e p)) : (w.setRow b cs').heap[b]? = some (.cells cs' e p) := setRow_heap w b _ cs' _ _ h

/-- one append of the list's next part -/
theorem app_effect {P : Program} {t by_ : Nat} (ei : EI P t e sz by_) {yb n m : Nat} {Fl sC news : List Value} {v src : Value} {w : World} (h : FOwn e sz yb Fl n v w) (hyb : yb ≤ w.heap.size) (hsrc : SlC w sz src m news) (h1 : ∀ u ∈ news, u.oneCell' = true) (hfl : Fl.take (n * sz) ++ news = Fl.take ((n + m) * sz)) (hn : (n + m) * sz ≤ Fl.length)
    (hml : n + m ≤ maxLen) (hmb : (n + m) * by_ ≤ 140737488355328) (ty : TypeId) : ∃ v' w', (Builtin.append_ #[t, t] ty #[v, src]).run P w = .ok v' w' ∧ GA e sz yb Fl sC w w' ∧ FOwn e sz yb Fl (n + m) v' w' ∧ ∃ a c, v' = .slice a (n + m) c := by
  obtain ⟨i, z, ht, hi, hz, hsz, hby, hzs, hpos⟩ := ei
  obtain ⟨hl, sa, scap, rfl, hm1, hm2, hz0, hc⟩ := hsrc
  have hadd : (n + m) * sz = n * sz + m * sz := Nat.add_mul _ _ _
  have h0sz : ∀ q, q * sz = 0 → q = 0 := fun q hq => by
    rcases Nat.mul_eq_zero.1 hq with h | h
    · exact h
    · omega
  -- a new row
  have fresh : ∀ {v' : Value} {w' : World}, w'.ownsRow w.heap.size e sz v' (n + m) (Fl.take (n * sz) ++ news) → w.grownBy w' none → (n + m = 0 → ∃ a, v' = .slice a 0 0) → GA e sz yb Fl sC w w' ∧ FOwn e sz yb Fl (n + m) v' w' ∧ ∃ a c, v' = .slice a (n + m) c := by
    intro v' w' ho hg h0
    have hb : Below w.heap.size w w' := ⟨hg.os, hg.tape, hg.output, hg.size, fun k hk => hg.block k hk (fun e => by cases e)⟩
    obtain ⟨a, c, e, _, _⟩ := (SlC.of_owns ho).slice
    rw [hfl] at ho
    exact ⟨GA.of_below hb hyb, ⟨owns_base ho hyb, h0⟩, a, c, e⟩
  cases sa with
  | none =>
    have hno : news = [] := by
      rcases hc with rfl | ⟨b, off, hno, _⟩
      · exact List.eq_nil_of_length_eq_zero (by simpa using hl)
      · cases hno
    subst hno
    have hm0 : m = 0 := h0sz m (by simpa using hl.symm)
    subst hm0
    obtain rfl := hz0 rfl
    have hrun := run_append_owned_none (P := P) (w := w) yb t ty e i sz ht hi v n _ h.1
    obtain ⟨a, c, e, _, _⟩ := (SlC.of_owns h.1).slice
    exact ⟨v, w, hrun, GA.refl _ _ _ _, h, a, c, e⟩
  | some x =>
    have hnews : ∀ j u, news[j]? = some u → w.cell? (x.add j) = some u := by
      intro j u hu
      have hj : j < news.length := (List.getElem?_eq_some_iff.1 hu).1
      rcases hc with rfl | ⟨b, off, hx, _, hcell⟩
      · simp at hl
        rw [hl] at hj
        simp at hj
      · simp only [Option.some.injEq] at hx
        subst hx
        rw [Addr.add_lit, hcell j (by omega)]
        exact hu
    rcases h.1.2 with ⟨rfl, hn0⟩ | ⟨g, cap, cur, rfl, hbg, hg, hnc, hcm, hcz, htk⟩
    · subst hn0
      obtain ⟨v', w', hr, h2, h3, h4⟩ := run_append_own (P := P) w w.heap.size t ty e i z sz by_ ht hi hz hsz hby hzs hpos _ 0 [] (World.ownsRow_nil _ _ _ _) x m scap news hl hnews h1 (by omega) (by omega) (Nat.le_refl _)
      have h5 := fresh (v' := v') (w' := w') (by simpa using h2) (by simpa [Value.ownBlock] using h3) (fun hm0 => ⟨none, h4.2 ⟨rfl, by omega⟩⟩)
      exact ⟨v', w', hr, h5⟩
    · by_cases hroom : n + m ≤ cap
      · have hrm : (n + m) * sz ≤ cap * sz := Nat.mul_le_mul_right _ hroom
        have hfit : n * i.size + news.length ≤ cur.size := by rw [hsz, hl, hcz]; omega
        have hr := run_append_room (P := P) w t ty e i ht hi g n cap cur hg x m scap news (by rw [hsz]; exact hl) hnews h1 hroom hfit
        rw [hsz] at hr hfit
        refine ⟨_, _, hr, ?_⟩
        have hcl : (cur.toList.take (n * sz)).length = n * sz := by
          rw [List.length_take]
          have : cur.toList.length = cur.size := rfl
          omega
        have hgl := (Array.getElem?_eq_some_iff.1 hg).1
        generalize hnew : (cur.toList.take (n * sz) ++ news ++ cur.toList.drop (n * sz + news.length)).toArray = cur2 at *
        have hsz2 : cur2.size = cur.size := by
          rw [← hnew]
          show (cur.toList.take (n * sz) ++ news ++ cur.toList.drop (n * sz + news.length)).length = _
          rw [List.length_append, List.length_append, hcl, List.length_drop]
          have : cur.toList.length = cur.size := rfl
          omega
        have hpre : cur2.toList.take ((n + m) * sz) = Fl.take ((n + m) * sz) := by
          rw [← hnew, ← hfl]
          have e : (cur.toList.take (n * sz) ++ news).length = (n + m) * sz := by rw [List.length_append, hcl, hl, ← Nat.add_mul]
          show (cur.toList.take (n * sz) ++ news ++ cur.toList.drop (n * sz + news.length)).take ((n + m) * sz) = _
          rw [List.take_left' e, htk]
        have hlong : cur2.toList.drop ((n + m) * sz) = cur.toList.drop ((n + m) * sz) := by
          rw [← hnew]
          have e : (cur.toList.take (n * sz) ++ news).length = (n + m) * sz := by rw [List.length_append, hcl, hl, ← Nat.add_mul]
          show (cur.toList.take (n * sz) ++ news ++ cur.toList.drop (n * sz + news.length)).drop ((n + m) * sz) = _
          rw [List.drop_left' e, hl, ← Nat.add_mul]
        have h9 : cur.toList.take sz = sC → cur2.toList.take sz = sC := fun hs => by
          by_cases hn0 : n = 0
          · obtain ⟨a, ha⟩ := h.2 hn0
            simp only [Value.slice.injEq] at ha
            have hm0 : m = 0 := by omega
            have hnl : news = [] := List.eq_nil_of_length_eq_zero (by rw [hl, hm0, Nat.zero_mul])
            rw [← hnew, hnl, hn0]
            simpa using hs
          · have hle : sz ≤ n * sz := Nat.le_mul_of_pos_left _ (by omega)
            have : cur2.toList.take sz = cur.toList.take sz := by
              rw [← hnew]
              show (cur.toList.take (n * sz) ++ news ++ cur.toList.drop (n * sz + news.length)).take sz = _
              rw [List.append_assoc, List.take_append_of_le_length (by rw [hcl]; exact hle), List.take_take, Nat.min_eq_left hle]
            rw [this, hs]
        have hpref : ∀ q, q ≤ Fl.length → cur.toList.take q = Fl.take q → cur2.toList.take q = Fl.take q := fun q hq hx => by
          by_cases hqm : q ≤ (n + m) * sz
          · have := congrArg (List.take q) hpre
            rwa [List.take_take, List.take_take, Nat.min_eq_left hqm] at this
          · have e1 : cur2.toList.take q = cur2.toList.take ((n + m) * sz) ++ (cur2.toList.drop ((n + m) * sz)).take (q - (n + m) * sz) := by
              rw [← List.take_add, show (n + m) * sz + (q - (n + m) * sz) = q by omega]
            have e2 : cur.toList.take q = cur.toList.take ((n + m) * sz) ++ (cur.toList.drop ((n + m) * sz)).take (q - (n + m) * sz) := by
              rw [← List.take_add, show (n + m) * sz + (q - (n + m) * sz) = q by omega]
            have e3 : cur.toList.take ((n + m) * sz) = Fl.take ((n + m) * sz) := by
              have := congrArg (List.take ((n + m) * sz)) hx
              rwa [List.take_take, List.take_take, Nat.min_eq_left (by omega)] at this
            rw [e1, hpre, hlong, ← e3, ← e2, hx]
        refine ⟨⟨⟨rfl, rfl, rfl, by rw [setRow_size]; exact Nat.le_refl _, fun b hb => setRow_other _ _ _ _ (by omega)⟩, fun b cs hb hh => ?_⟩, ⟨⟨?_, .inr ⟨g, cap, cur2, rfl, hbg, heap_rowG hg, hroom, hcm, by rw [hsz2, hcz], hpre⟩⟩, fun h0 => ?_⟩, _, _, rfl⟩
        · by_cases hbg2 : b = g
          · subst hbg2
            rw [hg] at hh
            simp only [Option.some.injEq, Obj.cells.injEq, and_true] at hh
            subst hh
            exact ⟨cur2, heap_rowG hg, hsz2, hpref, h9⟩
          · exact ⟨cs, (setRow_other _ _ _ _ hbg2).trans hh, rfl, fun _ _ h => h, fun h => h⟩
        · rw [List.length_take]; omega
        · have hn0 : n = 0 := by omega
          obtain ⟨a, ha⟩ := h.2 hn0
          simp only [Value.slice.injEq] at ha
          obtain ⟨_, _, rfl⟩ := ha
          exact ⟨_, by rw [h0]⟩
      · have holds : ∀ j u, (Fl.take (n * sz))[j]? = some u → w.cell? ((⟨g, 0, none⟩ : Addr).add j) = some u := h.1.cells (g := g) rfl
        obtain ⟨v2, w2, hrun2, ho2, hg2⟩ := run_append_arg_grows (P := P) (w := w) t ty e i z sz by_ ht hi hz hsz hby hzs hpos ⟨g, 0, none⟩ n cap (Fl.take (n * sz)) h.1.1 holds x m scap news hl hnews (by omega) hml hmb
        exact ⟨v2, w2, hrun2, fresh ho2 hg2 (fun h0 => by omega)⟩
end
/-- what is known of each effect of the region: the empty list's, the head's, the one's, the head's with the one, all's; k of N -/
structure FAdd (e : TypeId) (sz : Nat) (ix : Nat × Nat × Nat × Nat × Nat) (yb k N : Nat) (Fl sC : List Value) (i : Nat) (v : Value) (w : World) : Prop where
  f0 : i = ix.1 → FOwn e sz yb Fl 0 v w
  f1 : i = ix.2.1 → FOwn e sz yb Fl k v w
  f2 : i = ix.2.2.1 → FNew e sz yb sC v w
  f3 : i = ix.2.2.2.1 → FOwn e sz yb Fl (k + 1) v w
  f4 : i = ix.2.2.2.2 → FOwn e sz yb Fl (k + 1 + (N - k)) v w
theorem FAdd.stable {e : TypeId} {sz : Nat} {ix : Nat × Nat × Nat × Nat × Nat} {yb k N : Nat} {Fl sC : List Value} {i : Nat} {v : Value} {w w' : World} (hk : k ≤ N) (hF : Fl.length = (N + 1) * sz) (h : FAdd e sz ix yb k N Fl sC i v w) (hg : GA e sz yb Fl sC w w') : FAdd e sz ix yb k N Fl sC i v w' := by
  have hle : ∀ q, q ≤ N + 1 → q * sz ≤ Fl.length := fun q hq => by rw [hF]; exact Nat.mul_le_mul_right _ hq
  exact ⟨fun e => (h.f0 e).stable (hle _ (by omega)) hg, fun e => (h.f1 e).stable (hle _ (by omega)) hg, fun e => (h.f2 e).stable hg, fun e => (h.f3 e).stable (hle _ (by omega)) hg, fun e => (h.f4 e).stable (hle _ (by omega)) hg⟩
def SAdd (_ : Nat) (v : Value) : Prop := ∃ a n c, v = .slice a n c
theorem SAdd.inh (i : Nat) : ∃ v, SAdd i v := ⟨.slice none 0 0, _, _, _, rfl⟩
theorem effR_run {P : Program} {t : TypeId} {w w' : World} {o : Oper} {a : Act} {R : Value → World → Prop} (s x : Operand) (ho : o.op = .call { callee := .builtin .append, args := #[s, x], argTypes := #[t, t] }) {v src v' : Value} (hs : a.eval s = v) (hx : a.eval x = src)
    (hrun : (Builtin.append_ #[t, t] o.type #[v, src]).run P w = .ok v' w') (h : R v' w') : Go.Mix.EffR P R ((execOp a.eval o).run P w) := by
  unfold execOp
  simp only [ho, resolve, invoke, builtin, Sem.run_bind, Sem.run_pure, Result.andThen_ok, List.map_toArray, List.map_cons, List.map_nil, hs, hx, hrun]
  exact h
/-- what is known ahead of the region: a list's cells, and the one's -/
structure InsF (sz k N : Nat) (H T Fl sC : List Value) : Prop where
  hk : k ≤ N
  l1 : H.length = k * sz
  l2 : sC.length = sz
  l3 : T.length = (N - k) * sz
  e : Fl = H ++ sC ++ T
theorem InsF.len {sz k N : Nat} {H T Fl sC : List Value} (h : InsF sz k N H T Fl sC) : Fl.length = (N + 1) * sz := by
  rw [h.e, List.length_append, List.length_append, h.l1, h.l2, h.l3, ← Nat.succ_mul, ← Nat.add_mul]
  have := h.hk
  rw [show k.succ + (N - k) = N + 1 by omega]
theorem InsF.q1 {sz k N : Nat} {H T Fl sC : List Value} (h : InsF sz k N H T Fl sC) : Fl.take (0 * sz) ++ H = Fl.take ((0 + k) * sz) := by
  rw [Nat.zero_mul, List.take_zero, List.nil_append, Nat.zero_add, h.e, List.append_assoc, List.take_left' h.l1]
theorem InsF.q2 {sz k N : Nat} {H T Fl sC : List Value} (h : InsF sz k N H T Fl sC) : Fl.take (k * sz) ++ sC = Fl.take ((k + 1) * sz) := by
  have e1 : Fl.take (k * sz) = H := by rw [h.e, List.append_assoc, List.take_left' h.l1]
  have e2 : Fl.take ((k + 1) * sz) = H ++ sC := by rw [h.e, List.take_left' (by rw [List.length_append, h.l1, h.l2, ← Nat.succ_mul])]
  rw [e1, e2]
theorem InsF.q3 {sz k N : Nat} {H T Fl sC : List Value} (h : InsF sz k N H T Fl sC) : Fl.take ((k + 1) * sz) ++ T = Fl.take ((k + 1 + (N - k)) * sz) := by
  have e2 : Fl.take ((k + 1) * sz) = H ++ sC := by rw [h.e, List.take_left' (by rw [List.length_append, h.l1, h.l2, ← Nat.succ_mul])]
  have := h.hk
  rw [e2, show k + 1 + (N - k) = N + 1 by omega, ← h.len, List.take_length, h.e]
theorem InsF.le {sz k N : Nat} {H T Fl sC : List Value} (h : InsF sz k N H T Fl sC) (q : Nat) (hq : q ≤ N + 1) : q * sz ≤ Fl.length := by rw [h.len]; exact Nat.mul_le_mul_right _ hq
end Go.Proofs.YtgbmclgnbbhcbaaGreat

