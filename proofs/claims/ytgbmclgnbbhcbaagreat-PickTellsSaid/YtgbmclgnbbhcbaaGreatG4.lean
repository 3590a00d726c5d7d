/- Merged texts of the seat, in their order: PkE, PkF, PkG, PkH, PkI, PkJ, PkK, PkL, PkM, PkN, PkO. -/
import Derived.Test.YtgbmclgnbbhcbaaGreatG3
import Derived.Test.YtgbmclgnbbhcbaaGreatShelfB
import Derived.Shelf.SlSortCmp.Whole1
import Derived.Shelf.SlSortCmp.NoneTotal
import Derived.BigRegion
import Derived.BigQuiet
import Derived.Deep.QuietTactic
import Derived.Lib.SlicesCompact
import Derived.Shelf.SlSortCmp.WholeK
/- Pick: names are sorted: slices.SortFunc at []string with pick.order, then slices.Compact. -/
namespace Go.Proofs.YtgbmclgnbbhcbaaGreat
open Go.RowKit Go.Sort Go.Lib
set_option maxRecDepth 100000
set_option linter.unusedVariables false

/-- folded names -/
abbrev FN := { x : List UInt8 // PN x }
instance : Inhabited FN := ⟨⟨[0], by decide +kernel, by decide +kernel⟩⟩
instance : DecidableEq FN := fun a b => decidable_of_iff (a.1 = b.1) ⟨Subtype.ext, fun h => by rw [h]⟩
def encN' (x : FN) : Value := .string (mk x.1)
theorem one_encN : OneCell encN' := fun _ => rfl
theorem od_fn : Od (fun x y : FN => Nm.lessN x.1 y.1) fun _ => True where
  irr x _ := od_names.irr x.1 x.2
  tr x y z _ _ _ := od_names.tr _ _ _ x.2 y.2 z.2
  tot x y _ _ h1 h2 := Subtype.ext (od_names.tot _ _ x.2 y.2 h1 h2)
theorem swo_of {α : Type} {lt : α → α → Bool} (O : Od lt fun _ => True) : SWO lt where
  irrefl x := O.irr x trivial
  trans x y z := O.tr x y z trivial trivial trivial
  ntrans x y z h1 h2 := by
    cases h : lt x z with
    | false => rfl
    | true =>
      exfalso
      cases h3 : lt y x with
      | true =>
        have := O.tr y x z trivial trivial trivial h3 h
        rw [h2] at this
        cases this
      | false =>
        have := O.tot x y trivial trivial h1 h3
        subst this
        rw [h2] at h
        cases h
theorem lt_cmpN : (ltOf fun x y : FN => cmpN x.1 y.1) = fun x y : FN => Nm.lessN x.1 y.1 := by
  funext x y
  unfold ltOf
  exact cmpN_lt _ _
/-- names with proofs -/
def fnL : (l : List (List UInt8)) → (∀ x ∈ l, PN x) → List FN
  | [], _ => []
  | x :: l, h => ⟨x, h x (List.mem_cons_self ..)⟩ :: fnL l fun y hy => h y (List.mem_cons_of_mem _ hy)
theorem fnL_val : ∀ (l : List (List UInt8)) (h : ∀ x ∈ l, PN x), (fnL l h).map (·.1) = l
  | [], _ => rfl
  | x :: l, h => by unfold fnL; rw [List.map_cons, fnL_val l]
theorem fnL_len (l : List (List UInt8)) (h : ∀ x ∈ l, PN x) : (fnL l h).length = l.length := by
  have := congrArg List.length (fnL_val l h)
  rwa [List.length_map] at this
theorem fnL_enc (l : List (List UInt8)) (h : ∀ x ∈ l, PN x) : (fnL l h).map encN' = encS l := by
  have : (fnL l h).map encN' = ((fnL l h).map (·.1)).map fun x => Value.string (mk x) := by rw [List.map_map]; rfl
  rw [this, fnL_val]
  rfl
theorem insL_val (x : FN) : ∀ (l : List FN), (insL (fun x y : FN => Nm.lessN x.1 y.1) x l).map (·.1) = insL Nm.lessN x.1 (l.map (·.1))
  | [] => rfl
  | y :: l => by
    simp only [insL, List.map_cons]
    by_cases h : Nm.lessN y.1 x.1 = true
    · rw [if_pos h, if_pos h, List.map_cons, insL_val x l]
    · rw [if_neg h, if_neg h]
      by_cases h2 : y = x
      · rw [if_pos h2, if_pos (by rw [h2])]; rfl
      · rw [if_neg h2, if_neg (fun e => h2 (Subtype.ext e))]; rfl
theorem insAll_val (l : List FN) : (insAll (fun x y : FN => Nm.lessN x.1 y.1) l).map (·.1) = insAll Nm.lessN (l.map (·.1)) := by
  have h : ∀ (l o : List FN), (l.foldl (fun o x => insL (fun x y : FN => Nm.lessN x.1 y.1) x o) o).map (·.1) = (l.map (·.1)).foldl (fun o x => insL Nm.lessN x o) (o.map (·.1)) := fun l => by
    induction l with
    | nil => intro o; rfl
    | cons x l ih => intro o; rw [List.foldl_cons, ih, insL_val]; rfl
  exact h l []
theorem cmpLays (blk off size : Nat) (w : World) : CmpLays1 Tryz.prog 36 #[] encN' (fun x y : FN => cmpN x.1 y.1) blk off size w := fun m os dk hs x y =>
  Go.Drw.calls_grow (pkOrder_any x.1 y.1 _ (by have := pn_len x.2; unfold maxLen; omega) (by have := pn_len y.2; unfold maxLen; omega))
/-- names, sorted -/
theorem sortS_any {w : World} {base g cap : Nat} {l : List (List UInt8)} (hl : ∀ x ∈ l, PN x) (hown : w.ownsRow base 9 1 (.slice (some ⟨g, 0, none⟩) l.length cap) l.length (encS l)) (hn : l.length < 4611686018427387904) :
    Calls Tryz.prog 42 #[.slice (some ⟨g, 0, none⟩) l.length cap, .func (.func 36) #[] #[]] w fun e w' => e = .returned (.tuple #[]) ∧
      ∃ d : Array FN, d.size = l.length ∧ (compactUpTo d d.size).map (·.1) = insAll Nm.lessN l ∧ Row w' g (d.toList.map encN') ∧ ∀ B w0, B ≤ g → B ≤ w.heap.size → Below B w0 w → Below B w0 w' := by
  obtain ⟨hr, hbg, hnc, hcm⟩ := row_of_owns hown
  have hr2 : Row w g ((fnL l hl).toArray.toList.map encN') := by rw [List.toList_toArray, fnL_enc]; exact hr
  have hsz : (fnL l hl).toArray.size = l.length := by rw [List.size_toArray, fnL_len]
  have h := Any.slices_SortFunc (α := FN) Tryz.sortS encN' one_encN (fun x y : FN => cmpN x.1 y.1) (by rw [lt_cmpN]; exact swo_of od_fn) 36 #[] g 0 cap (fnL l hl).toArray w (enters_of Tryz.func36 (by kernel_rfl) rfl) (cmpLays _ _ _ _) (holds_of hr2) hr.lt (by rw [hsz]; exact hn)
  rw [hsz] at h
  refine h.mono ?_
  rintro e w' ⟨rfl, d, n, os, hp, hs, rfl⟩
  rw [lt_cmpN] at hs
  have hds : d.size = l.length := by rw [hp.1, hsz]
  refine ⟨rfl, d, hds, ?_, put_row hr2 d (by rw [hds, List.length_map, List.toList_toArray, fnL_len]) n os, fun B w0 h1 h2 h3 => below_put h3 h1 h2 d n os⟩
  rw [sort_compact (P := fun _ => True) od_fn (d := (fnL l hl).toArray) (fun _ _ => trivial) (by rw [hsz]; exact hp) (by rw [hsz]; exact hs), insAll_val, List.toList_toArray, fnL_val]
end Go.Proofs.YtgbmclgnbbhcbaaGreat

/- Pick: the contract of pick.Targets: where a set leads to, each once, in order. -/
namespace Go.Proofs.YtgbmclgnbbhcbaaGreat
open Go.RowKit Go.Sort Go.Lib
set_option maxRecDepth 100000
set_option linter.unusedVariables false

theorem row_cell {W : World} {g : Nat} {cs : Array Value} {T : TypeId} {fr : Nat × Nat} (hr : W.heap[g]? = some (.cells cs T fr)) (i : Nat) (v : Value) (h : cs[i]? = some v) : W.cell? ⟨g, i, none⟩ = some v := by
  simp [World.cell?, hr, h]
theorem row_frozen {w : World} {g : Nat} {cur : Array Value} {e : TypeId} (h : w.heap[g]? = some (.cells cur e (0, 0))) (j : Nat) : w.frozen? ⟨g, j, none⟩ = false := by simp [World.frozen?, h]
abbrev setC (kn : List UInt8) (kt : Int) (v : Value) (kd : Int) (zn : List UInt8) : Array Value := #[.string (mk kn), .int .i64 kt, v, .int .i64 kd, .string (mk zn)]
abbrev setV (kn : List UInt8) (kt : Int) (v : Value) (kd : Int) (zn : List UInt8) : Value := .agg (setC kn kt v kd zn)
theorem compact_map {α β : Type} [Inhabited α] [DecidableEq α] [Inhabited β] [DecidableEq β] (f : α → β) (hf : ∀ a b, f a = f b → a = b) (d : Array α) : compactUpTo (d.map f) (d.map f).size = (compactUpTo d d.size).map f := by
  have hg : ∀ i, i < d.size → (d.map f)[i]! = f d[i]! := fun i hi => by
    rw [getElem!_pos (d.map f) i (by rw [Array.size_map]; exact hi), getElem!_pos d i hi, Array.getElem_map]
  unfold compactUpTo
  rw [Array.size_map, List.map_map]
  have e : (List.range d.size).filter (keeps (d.map f)) = (List.range d.size).filter (keeps d) := by
    refine List.filter_congr fun j hj => ?_
    rw [List.mem_range] at hj
    unfold keeps
    rw [hg j hj, hg (j - 1) (by omega)]
    refine decide_eq_decide.2 ⟨?_, ?_⟩
    · rintro (h | h)
      · exact .inl h
      · exact .inr fun e => h (by rw [e])
    · rintro (h | h)
      · exact .inl h
      · exact .inr fun e => h (hf _ _ e)
  rw [e]
  refine List.map_congr_left fun j hj => ?_
  exact hg j (List.mem_range.1 (List.mem_filter.1 hj).1)
theorem insAll_nil {α : Type} [DecidableEq α] {lt : α → α → Bool} : insAll lt ([] : List α) = [] := rfl
theorem targL_len (rs : List Rc.RR) : (targL rs).length ≤ rs.length := List.length_filterMap_le _ _
theorem targL_take {rs : List Rc.RR} {k : Nat} (h : k < rs.length) : targL (rs.take (k + 1)) = targL (rs.take k) ++ (if (targP (rs.getD k r0).ty (rs.getD k r0).data).2 then [Nm.foldN (targP (rs.getD k r0).ty (rs.getD k r0).data).1] else []) := by
  rw [List.take_succ_eq_append_getElem h, targL_snoc, List.getD_eq_getElem?_getD, List.getElem?_eq_getElem h]
  rfl
/-- sorted and compacted -/
theorem sortC_any {w w0 : World} {base : Nat} {v : Value} {l : List (List UInt8)} (hl : ∀ x ∈ l, PN x) (hown : w.ownsRow base 9 1 v l.length (encS l)) (hn : l.length ≤ 100000) (hb : Below w0.heap.size w0 w) (h0 : w0.heap.size ≤ base) :
    Calls Tryz.prog 42 #[v, .func (.func 36) #[] #[]] w fun e w' => e = .returned (.tuple #[]) ∧ Below w0.heap.size w0 w' ∧
      Calls Tryz.prog 43 #[v] w' (fun e w2 => ∃ v2, e = .returned v2 ∧ Strs w2 v2 (insAll Nm.lessN l) ∧ Below w0.heap.size w0 w2) := by
  by_cases hz : l.length = 0
  · have hnil := List.eq_nil_of_length_eq_zero hz
    subst hnil
    obtain ⟨a2, c2, rfl⟩ : ∃ a2 c2, v = .slice a2 0 c2 := by
      obtain ⟨a, c, h, _⟩ := (SlC.of_owns hown).slice
      exact ⟨a, c, h⟩
    refine (AnyF.slices_SortFunc_none Tryz.sortS0 a2 c2 _ w).mono ?_
    rintro e w' ⟨rfl, rfl⟩
    refine ⟨rfl, hb, (Tryz.slices_Compact_string_empty a2 c2 w').mono ?_⟩
    rintro e w2 ⟨rfl, rfl⟩
    exact ⟨_, rfl, SlC.of_owns hown, hb⟩
  · obtain ⟨g, cap, rfl⟩ : ∃ g cap, v = .slice (some ⟨g, 0, none⟩) l.length cap := by
      rcases hown.2 with ⟨_, h⟩ | ⟨g, cap, cur, rfl, _⟩
      · exact absurd h hz
      · exact ⟨_, _, rfl⟩
    obtain ⟨hr, hbg, hnc, hcm⟩ := row_of_owns hown
    refine (sortS_any hl hown (by omega)).mono ?_
    rintro e w' ⟨rfl, d, hds, hcp, hrow, hbw⟩
    have hb2 := hbw _ _ (Nat.le_trans h0 hbg) hb.size hb
    refine ⟨rfl, hb2, ?_⟩
    have hsz : (d.map (·.1)).size = l.length := by rw [Array.size_map, hds]
    have hrow2 : Row w' g ((d.map (·.1)).toList.map encStr) := by
      rw [Array.toList_map, List.map_map]
      exact hrow
    have hcm2 := compact_map (fun x : FN => x.1) (fun a b h => Subtype.ext h) d
    rw [hcp] at hcm2
    have h := Tryz.slices_Compact_string_arr g 0 cap (d.map (·.1)) w' (holds_of hrow2) (by rw [hsz]; omega) (by rw [hsz]; omega)
    rw [hcm2, hsz] at h
    refine h.mono ?_
    rintro e w2 ⟨rfl, q, rfl⟩
    have hle : (insAll Nm.lessN l).length ≤ l.length := by
      rw [← hcm2, ← hsz]
      unfold compactUpTo
      rw [List.length_map]
      exact Nat.le_trans (List.length_filter_le _ _) (by simp)
    have hr4 := put_row (enc := encStr) hrow2 (insAll Nm.lessN l ++ List.replicate (l.length - (insAll Nm.lessN l).length) []).toArray (by simp [hds]; omega) q #[]
    have hb5 := below_put (enc := encStr) hb2 (Nat.le_trans h0 hbg) hb2.size (insAll Nm.lessN l ++ List.replicate (l.length - (insAll Nm.lessN l).length) []).toArray q #[]
    rw [grow_empty] at hr4 hb5
    rw [List.toList_toArray, List.map_append] at hr4
    refine ⟨_, rfl, ?_, hb5⟩
    exact (Row_pre hr4).slc (by rw [List.length_map]) (by omega) hcm
set_option maxHeartbeats 4000000 in
theorem Targets_any (kn : List UInt8) (kt kd : Int) (zn : List UInt8) (rs : List Rc.RR) (a : Option Addr) (cap : Nat) (w : World) (hst : RRs w (.slice a rs.length cap) rs) (hok : ∀ r ∈ rs, RROk r) (hn : rs.length ≤ 100000) :
    Calls Tryz.prog 23 #[setV kn kt (.slice a rs.length cap) kd zn] w (RetStrs w (targsN rs)) := by
  obtain ⟨X, hX⟩ : ∃ X, w.alloc (.cells (setC kn kt (.slice a rs.length cap) kd zn) 26) = X := ⟨_, rfl⟩
  have gX : X.heap[w.heap.size]? = some (.cells (setC kn kt (.slice a rs.length cap) kd zn) 26 (0, 0)) := by rw [← hX]; exact World.alloc_heap_new _ _
  have hbX : Below w.heap.size w X := by rw [← hX]; exact (Below.refl _ w).alloc (Nat.le_refl _) _
  have c2 : X.cell? ⟨w.heap.size, 2, none⟩ = some (.slice a rs.length cap) := row_cell gX 2 _ rfl
  generalize hN : rs.length = N at *
  have HST := Go.Lib.hid hst
  have HOK := Go.Lib.hid hok
  have HBX := Go.Lib.hid hbX
  have HN := Go.Lib.hid hN
  clear hst hok hbX hN
  simp only [setC] at hX
  go_enter Tryz.func23, Tryz.ntmps23
  go_wp2_with fail
  go_loopw [2, 10] (fun v i wr => ∃ k : Nat, i = .int .i64 k ∧ k ≤ N ∧ wr.ownsRow X.heap.size 9 1 v (targL (rs.take k)).length (encS (targL (rs.take k))) ∧ Below X.heap.size X wr) (fun _ i _ => N - (intOf i).toNat)
  case atStart => exact ⟨0, rfl, Nat.zero_le _, World.ownsRow_nil _ _ _ _, Below.refl _ _⟩
  case round =>
    obtain ⟨k, rfl, hk, hown, hbr⟩ := hrel
    have hws := hbr.size
    have hll := targL_len (rs.take k)
    rw [List.length_take] at hll
    have HB := Go.Lib.hid (HBX.out.trans (hbr.mono HBX.out.size))
    by_cases hlt : k < N
    · have hst := HST.out.below HB.out (Nat.le_refl _)
      rw [← HN.out] at hst
      obtain ⟨b, off, rfl, hbw, hcell⟩ := RRs.at hst (by rw [HN.out]; omega)
      obtain ⟨d0, d1, d2, d3, d4⟩ := hcell k (by rw [HN.out]; exact hlt)
      have hstep := targL_take (rs := rs) (k := k) (by rw [HN.out]; exact hlt)
      have hrok := HOK.out _ (List.getElem_mem (l := rs) (n := k) (by rw [HN.out]; exact hlt))
      have hrg : rs[k]'(by rw [HN.out]; exact hlt) = rs.getD k r0 := by rw [List.getD_eq_getElem?_getD, List.getElem?_eq_getElem (by rw [HN.out]; exact hlt)]; rfl
      rw [hrg] at hrok
      have htv := fun W => Target_any (rs.getD k r0) W hrok
      have hval := fun h => targP_valid (ty := (rs.getD k r0).ty) (d := (rs.getD k r0).data) h
      clear hst hcell hrg
      generalize rs.getD k r0 = r at *
      obtain ⟨rn, ty, cl, tl, rd⟩ := r
      simp only at d0 d1 d2 d3 d4 hval hstep
      simp only [rrV, targV] at htv
      obtain ⟨Y, hY⟩ : ∃ Y, wr.alloc (.cells #[.string (mk rn), .int .i64 ty, .int .i64 cl, .int .i64 tl, .string (mk rd)] 64) = Y := ⟨_, rfl⟩
      have gY : Y.heap[wr.heap.size]? = some (.cells #[.string (mk rn), .int .i64 ty, .int .i64 cl, .int .i64 tl, .string (mk rd)] 64 (0, 0)) := by rw [← hY]; exact World.alloc_heap_new _ _
      have hbY : Below wr.heap.size wr Y := by rw [← hY]; exact (Below.refl _ wr).alloc (Nat.le_refl _) _
      have e0 : Y.cell? ⟨wr.heap.size, 0, none⟩ = some (.string (mk rn)) := row_cell gY 0 _ rfl
      have e1 : Y.cell? ⟨wr.heap.size, 1, none⟩ = some (.int .i64 ty) := row_cell gY 1 _ rfl
      have e2 : Y.cell? ⟨wr.heap.size, 2, none⟩ = some (.int .i64 cl) := row_cell gY 2 _ rfl
      have e3 : Y.cell? ⟨wr.heap.size, 3, none⟩ = some (.int .i64 tl) := row_cell gY 3 _ rfl
      have e4 : Y.cell? ⟨wr.heap.size, 4, none⟩ = some (.string (mk rd)) := row_cell gY 4 _ rfl
      have w1 : IntKind.i64.wrap ((k : Int) + 1) = (k : Int) + 1 := wrapi (by omega) (by omega)
      have hlt2 : (k : Int) < (N : Int) := by omega
      have hbXY := hbr.trans (hbY.mono hws)
      have hownY := owns_below hown hbY
      have hzY := hbXY.size
      obtain ⟨p, hp⟩ : ∃ p, targP ty rd = p := ⟨_, rfl⟩
      rw [hp] at hstep htv hval
      obtain ⟨tn, tb⟩ := p
      simp only at hstep htv hval
      generalize targL (rs.take k) = L at *
      have HTV := Go.Lib.hid htv
      have HSTEP := Go.Lib.hid hstep
      have HVAL := Go.Lib.hid hval
      have HBXY := Go.Lib.hid hbXY
      have HOY := Go.Lib.hid hownY
      have GY := Go.Lib.hid gY
      clear htv hstep hval hbXY hownY gY
      clear hp hown hbr hbY gX
      go_wp2_with fail
      refine (HTV.out Y).mono ?_; rintro e Z ⟨rfl, hz⟩
      have hbXZ := HBXY.out.trans (hz.mono HBXY.out.size)
      have hownZ := owns_below HOY.out hz
      have hzz := hz.size
      have HBXZ := Go.Lib.hid hbXZ
      have HOZ := Go.Lib.hid hownZ
      clear hbXZ hownZ
      clear hz
      cases tb with
      | false =>
        have hs := HSTEP.out
        simp only [Bool.false_eq_true, if_false, List.append_nil] at hs
        have HS := Go.Lib.hid hs
        clear hs
        go_wp2_with fail
        go_roundw
        case rel => exact ⟨k + 1, by go_num, by omega, by rw [HS.out]; exact HOZ.out, HBXZ.out⟩
        case measure => simp [intOf]; omega
      | true =>
        have hs := HSTEP.out
        simp only [if_true] at hs
        have hv := HVAL.out rfl
        have hfl : tn.length ≤ 255 := (Nm.labs_valid hv).2.2
        have hfo := Fold_any (mk tn) Z (by rw [size_mk]; unfold maxLen; omega)
        rw [bl_mk] at hfo
        generalize Nm.foldN tn = fn at *
        have HS := Go.Lib.hid hs
        have HFO := Go.Lib.hid hfo
        clear hs hfo
        clear hv
        go_wp2_with fail
        refine HFO.out.mono ?_; rintro e Z2 ⟨rfl, hz2⟩
        have hbX2 := HBXZ.out.trans (hz2.mono HBXZ.out.size)
        have hown2 := owns_below HOZ.out hz2
        have hz22 := hz2.size
        have HBX2 := Go.Lib.hid hbX2
        have HO2 := Go.Lib.hid hown2
        clear hbX2 hown2
        clear hz2
        go_wp2_with (at_builtin; refine wpList_app eiS (.tmp 20) (.tmp 23) rfl rfl X.heap.size rfl rfl (HO2.out.alloc _) (slc_new _ 1 1 9 [.string (mk fn)] rfl (by decide)) ?h1 ?h2 ?h3 ?h4 ?h5; rotate_right; intro v1 w3 hown1 hg1)
        case h1 => intro u hu; simp at hu; subst hu; rfl
        case h2 => unfold maxLen; omega
        case h3 => omega
        case h4 => simp; omega
        go_roundw
        case rel => exact ⟨k + 1, by go_num, by omega, by rw [HS.out, List.length_append, encS_snoc]; exact hown1, below_app (HBX2.out.alloc HBX2.out.size _) (HO2.out.alloc _) hg1 (Nat.le_refl _) (by simp; omega)⟩
        case measure => simp [intOf]; omega
    · obtain hke : k = N := by omega
      have hall : rs.take k = rs := by rw [hke, ← HN.out, List.take_length]
      rw [hall] at hown hll
      have hlt2 : ¬ (k : Int) < (N : Int) := by omega
      have hsc := sortC_any (w0 := w) (targL_pn rs) hown (by have := targL_len rs; rw [HN.out] at this; omega) HB.out HBX.out.size
      have htn : insAll Nm.lessN (targL rs) = targsN rs := rfl
      rw [htn] at hsc
      have HSC := Go.Lib.hid hsc
      clear hsc
      clear hall hown hbr htn hke hll
      go_wp2_with fail
      refine HSC.out.mono ?_; rintro e Z ⟨rfl, hz, hcp⟩
      have HCP := Go.Lib.hid hcp
      clear hcp
      clear hz
      go_wp2_with fail
      refine HCP.out.mono ?_; rintro e Z2 ⟨v2, rfl, hs2, hz2⟩
      have HS2 := Go.Lib.hid hs2
      have HZ2 := Go.Lib.hid hz2
      clear hs2 hz2
      go_wp2_with fail
      go_ret
      exact ⟨_, rfl, HS2.out, HZ2.out⟩
end Go.Proofs.YtgbmclgnbbhcbaaGreat

/- Pick: lists of servers; the contract of pick.Servers. -/
namespace Go.Proofs.YtgbmclgnbbhcbaaGreat
open Go.RowKit Go.Sort Go.Lib
set_option maxRecDepth 100000
set_option linter.unusedVariables false
set_option linter.unusedSimpArgs false

theorem rows_apart {w : World} {b1 b2 e1 e2 s1 s2 n1 n2 : Nat} {v1 v2 : Value} {x1 x2 : List Value} (h1 : w.ownsRow b1 e1 s1 v1 n1 x1) (h2 : w.ownsRow b2 e2 s2 v2 n2 x2) (he : e1 ≠ e2) : v1.ownBlock = none ∨ v1.ownBlock ≠ v2.ownBlock := by
  rcases h1.2 with ⟨rfl, _⟩ | ⟨g, cap, cur, rfl, _, hg, _⟩
  · exact .inl (by simp [Value.ownBlock])
  · right
    rcases h2.2 with ⟨rfl, _⟩ | ⟨g2, cap2, cur2, rfl, _, hg2, _⟩
    · simp [Value.ownBlock]
    · intro e
      simp only [Value.ownBlock, Option.some.injEq] at e
      subst e
      rw [hg] at hg2
      simp only [Option.some.injEq, Obj.cells.injEq] at hg2
      exact he hg2.2.1
theorem new_cells (W : World) (cs : List Value) (T : TypeId) : ∀ j u, cs[j]? = some u → (W.alloc (.cells cs.toArray T)).cell? ((⟨W.heap.size, 0, none⟩ : Addr).add j) = some u := fun j u h => by
  rw [Addr.add_lit, World.cell?_alloc_at (hn := rfl)]
  simpa using h
theorem wpList_app1 {P : Program} {t e sz bytes : Nat} (ei : EI P t e sz bytes) {w : World} {ops : Array Oper} {rest : List Oper} {o : Oper} {a : Act} {Q : Exit → Act → World → Prop} (s x : Operand)
    (hgd : Region.wanted o (yielded ops a.tmps) = true)
    (ho : o.op = .call { callee := .builtin .append, args := #[s, x], argTypes := #[t, t] }) (base : Nat) {v : Value} {n c : Nat} {ad : Addr} {xs news : List Value} (hs : a.eval s = v) (hx : a.eval x = .slice (some ad) 1 c)
    (hown : w.ownsRow base e sz v n xs) (hl : news.length = sz) (hc : ∀ j u, news[j]? = some u → w.cell? (ad.add j) = some u) (h1 : ∀ u ∈ news, u.oneCell' = true) (h63 : n + 1 ≤ maxLen) (hbytes : (n + 1) * bytes ≤ 140737488355328) (hbase : base ≤ w.heap.size)
    (h : ∀ v' w', w'.ownsRow base e sz v' (n + 1) (xs ++ news) → w.grownBy w' v.ownBlock → SameOrNew w.heap.size v v' → wpList P ops Q rest (a.put o.dst v') w') : wpList P ops Q (o :: rest) a w :=
  wpList_step fun K hK => by
    rw [if_pos hgd]
    obtain ⟨v', w', hrun, ho1, hg1, hn1⟩ := run_app2 (c := c) ei w o.type base hown (by rw [Nat.one_mul]; exact hl) hc h1 (by omega) h63 hbytes hbase
    unfold Oper.wp execOp
    simp only [ho, resolve, invoke, builtin, Sem.run_bind, Sem.run_pure, Result.andThen_ok, List.map_toArray, List.map_cons, List.map_nil, hs, hx, hrun]
    exact hK _ _ (h v' w' ho1 hg1 hn1)

/-- servers as cells -/
def encV (l : List Sv) : List Value := l.flatMap fun s => [.string (mk s.1), .int .i64 s.2]
theorem encV_snoc (l : List Sv) (s : Sv) : encV (l ++ [s]) = encV l ++ [.string (mk s.1), .int .i64 s.2] := by simp [encV]
theorem encV_length (l : List Sv) : (encV l).length = l.length * 2 := by
  induction l with
  | nil => rfl
  | cons s l ih => simp only [encV, List.flatMap_cons, List.length_append, List.length_cons, List.length_nil] at *; omega
theorem one_sv (s : Sv) : ∀ u ∈ [Value.string (mk s.1), .int .i64 s.2], u.oneCell' = true := by
  intro u hu
  simp at hu
  rcases hu with rfl | rfl <;> rfl
def Svs (w : World) (v : Value) (l : List Sv) : Prop := SlC w 2 v l.length (encV l)
theorem infoSv : (Tryz.prog.info? 40).map (fun i => (i.zero, i.size, i.bytes)) = some (some (.agg #[.string ⟨#[]⟩, .int .i64 0]), 2, 24) := by kernel_rfl
theorem eiSv : EI Tryz.prog 28 40 2 24 := ei_of Tryz.underlying28 infoSv rfl (by decide)
def RetSvs (w : World) (l : List Sv) (e : Ending) (w' : World) : Prop := ∃ v, e = .returned v ∧ Svs w' v l ∧ Below w.heap.size w w'
/-- the servers of the first names -/
def servK (f : List UInt8 → List Int) (T : List (List UInt8)) (k : Nat) : List Sv := (T.take k).flatMap fun n => (toldN (f n)).map fun a => (n, a)
theorem servK_all (f : List UInt8 → List Int) (rs : List Rc.RR) : servK f (targsN rs) (targsN rs).length = servN f rs := by unfold servK servN; rw [List.take_length]
theorem servK_step {f : List UInt8 → List Int} {T : List (List UInt8)} {k : Nat} (h : k < T.length) : servK f T (k + 1) = servK f T k ++ (toldN (f (T.getD k []))).map fun a => (T.getD k [], a) := by
  unfold servK
  rw [List.take_succ_eq_append_getElem h, List.flatMap_append, List.getD_eq_getElem?_getD, List.getElem?_eq_getElem h]
  simp
theorem servK_len {f : List UInt8 → List Int} {T : List (List UInt8)} (hf : ∀ n ∈ T, (toldN (f n)).length ≤ 1000) : ∀ k, k ≤ T.length → (servK f T k).length ≤ k * 1000
  | 0, _ => by simp [servK]
  | k + 1, h => by
    rw [servK_step (by omega), List.length_append, List.length_map]
    have h1 := servK_len hf k (by omega)
    have h2 := hf (T.getD k []) (by rw [List.getD_eq_getElem?_getD, List.getElem?_eq_getElem (by omega)]; exact List.getElem_mem _)
    omega
set_option maxHeartbeats 8000000 in
theorem Servers_any (kn : List UInt8) (kt kd : Int) (zn : List UInt8) (rs : List Rc.RR) (a : Option Addr) (cap : Nat) (g : FuncId) (cb : Array Value) (f : List UInt8 → List Int) (w : World) (hst : RRs w (.slice a rs.length cap) rs) (hok : ∀ r ∈ rs, RROk r) (hn : rs.length ≤ 1000)
    (hent : ∀ args w, (callFunc g args).run Tryz.prog w = .ok (.enter g args) w) (hf : ∀ n ∈ targsN rs, TellsA Tryz.prog g cb n (f n) w) (hz : ∀ n ∈ targsN rs, (f n).length ≤ 1000000 ∧ (toldN (f n)).length ≤ 1000) :
    Calls Tryz.prog 10 #[setV kn kt (.slice a rs.length cap) kd zn, .func (.func g) #[] cb] w (RetSvs w (servN f rs)) := by
  obtain ⟨X, hX⟩ : ∃ X, w.alloc (.cells (setC kn kt (.slice a rs.length cap) kd zn) 26) = X := ⟨_, rfl⟩
  have gX : X.heap[w.heap.size]? = some (.cells (setC kn kt (.slice a rs.length cap) kd zn) 26 (0, 0)) := by rw [← hX]; exact World.alloc_heap_new _ _
  have hbX : Below w.heap.size w X := by rw [← hX]; exact (Below.refl _ w).alloc (Nat.le_refl _) _
  have ht := Targets_any kn kt kd zn rs a cap X (hst.below hbX (Nat.le_refl _)) hok (by omega)
  have hTl : (targsN rs).length ≤ 1000 := by
    have h1 := targL_len rs
    have h2 : (insAll Nm.lessN (targL rs)).length ≤ (targL rs).length := insAll_len _
    have h3 : targsN rs = insAll Nm.lessN (targL rs) := rfl
    rw [h3]
    omega
  have hall := servK_all f rs
  generalize targsN rs = T at *
  have k0 : X.cell? ⟨w.heap.size, 0, none⟩ = some (.string (mk kn)) := row_cell gX 0 _ rfl
  have k1 : X.cell? ⟨w.heap.size, 1, none⟩ = some (.int .i64 kt) := row_cell gX 1 _ rfl
  have k2 : X.cell? ⟨w.heap.size, 2, none⟩ = some (.slice a rs.length cap) := row_cell gX 2 _ rfl
  have k3 : X.cell? ⟨w.heap.size, 3, none⟩ = some (.int .i64 kd) := row_cell gX 3 _ rfl
  have k4 : X.cell? ⟨w.heap.size, 4, none⟩ = some (.string (mk zn)) := row_cell gX 4 _ rfl
  have hsl := fun k hk => servK_len (f := f) (T := T) (fun n hm => (hz n hm).2) k hk
  simp only [setV, setC] at ht
  have HST := Go.Lib.hid hst
  have HBX := Go.Lib.hid hbX
  have HT := Go.Lib.hid ht
  have HF := Go.Lib.hid hf
  have HZ := Go.Lib.hid hz
  have HALL := Go.Lib.hid hall
  have GX := Go.Lib.hid gX
  have HSL := Go.Lib.hid hsl
  clear hst hbX ht hf hz hall gX hsl
  simp only [setC] at hX
  generalize rs.length = N at *
  go_enter Tryz.func10, Tryz.ntmps10
  go_wp2_with fail
  refine HT.out.mono ?_; rintro e W1 ⟨v1, rfl, hs1, hb1⟩
  obtain ⟨a1, c1, rfl, _, _⟩ := SlC.slice hs1
  have hbw1 := HBX.out.trans (hb1.mono HBX.out.size)
  generalize hTn : T.length = M at *
  have HS1 := Go.Lib.hid hs1
  have HBW1 := Go.Lib.hid hbw1
  have HTN := Go.Lib.hid hTn
  clear hs1 hbw1 hTn
  clear hb1 hX k0 k1 k2 k3 k4
  go_wp2_with fail
  go_loopw [4, 12] (fun v i wr => ∃ k : Nat, i = .int .i64 k ∧ k ≤ M ∧ wr.ownsRow W1.heap.size 40 2 v (servK f T k).length (encV (servK f T k)) ∧ Below W1.heap.size W1 wr) (fun _ i _ => M - (intOf i).toNat)
  case atStart => exact ⟨0, rfl, Nat.zero_le _, World.ownsRow_nil _ _ _ _, Below.refl _ _⟩
  case round =>
    obtain ⟨k, rfl, hk, hown, hbr⟩ := hrel
    have hws := hbr.size
    have hlk := HSL.out k hk
    have hbw := HBW1.out.trans (hbr.mono HBW1.out.size)
    by_cases hlt : k < M
    · have hst1 : Strs wr (.slice a1 M c1) T := HS1.out.below hbr (Nat.le_refl _)
      obtain ⟨b, off, rfl, hbb, hcell⟩ := Strs.at hst1 (by rw [HTN.out]; omega)
      have d0 := hcell k (by rw [HTN.out]; exact hlt)
      have hmem : T.getD k [] ∈ T := by rw [List.getD_eq_getElem?_getD, List.getElem?_eq_getElem (by rw [HTN.out]; exact hlt)]; exact List.getElem_mem _
      have hstep := servK_step (f := f) (T := T) (k := k) (by rw [HTN.out]; exact hlt)
      have htold := told_any g cb (T.getD k []) (f (T.getD k [])) wr hent (fun W h => HF.out _ hmem W (hbw.trans (h.mono hbw.size))) (HZ.out _ hmem).1
      have hzl := (HZ.out _ hmem).2
      have w1 : IntKind.i64.wrap ((k : Int) + 1) = (k : Int) + 1 := wrapi (by omega) (by omega)
      have hlt2 : (k : Int) < (M : Int) := by omega
      clear hst1 hcell hmem
      generalize T.getD k [] = n at *
      generalize toldN (f n) = zs at *
      generalize servK f T k = S at *
      generalize wr = wo at *
      have HTOLD := Go.Lib.hid htold
      have HSTEP := Go.Lib.hid hstep
      have HOWN := Go.Lib.hid hown
      have HBR := Go.Lib.hid hbr
      clear htold hstep hown hbr
      clear hbw
      go_wp2_with fail
      refine HTOLD.out.mono ?_; rintro e W2 ⟨v2, rfl, ho2, hb2⟩
      obtain ⟨a2, c2, rfl, _, _⟩ := (SlC.of_owns ho2).slice
      have hownW := owns_below HOWN.out hb2
      have hbr2 := HBR.out.trans (hb2.mono HBR.out.size)
      generalize hzn : zs.length = Z at *
      have HOW := Go.Lib.hid hownW
      have HBR2 := Go.Lib.hid hbr2
      have HO2 := Go.Lib.hid ho2
      have HZN := Go.Lib.hid hzn
      clear hownW hbr2 ho2 hzn
      clear hb2
      go_wp2_with fail
      go_loopw [4, 20] (fun v i wr => ∃ j : Nat, i = .int .i64 j ∧ j ≤ Z ∧ wr.ownsRow W1.heap.size 40 2 v (S ++ (zs.take j).map fun a => (n, a)).length (encV (S ++ (zs.take j).map fun a => (n, a))) ∧ Below W1.heap.size W1 wr ∧ wr.ownsRow wo.heap.size 3 1 (.slice a2 Z c2) Z (zs.map (Value.int .i64))) (fun _ i _ => Z - (intOf i).toNat)
      case atStart => exact ⟨0, rfl, Nat.zero_le _, by rw [List.take_zero, List.map_nil, List.append_nil]; exact HOW.out, HBR2.out, HO2.out⟩
      case round =>
        clear HOW HBR2 HO2
        obtain ⟨j, rfl, hj, hownS, hbS, hownI⟩ := hrel
        have hwsS := hbS.size
        by_cases hjl : j < Z
        · have hints : Ints wr (.slice a2 Z c2) zs := by have h := SlC.of_owns hownI; unfold Ints; rw [HZN.out]; exact h
          obtain ⟨b', off', rfl, hbb', hcell'⟩ := Ints.at hints (by rw [HZN.out]; omega)
          have f0 := hcell' j (by rw [HZN.out]; exact hjl)
          have hstepJ : S ++ (zs.take (j + 1)).map (fun a => (n, a)) = (S ++ (zs.take j).map fun a => (n, a)) ++ [(n, zs.getD j 0)] := by
            rw [List.take_succ_eq_append_getElem (by rw [HZN.out]; exact hjl), List.map_append, List.append_assoc, List.getD_eq_getElem?_getD, List.getElem?_eq_getElem (by rw [HZN.out]; exact hjl)]
            rfl
          have hlen5 : (S ++ (zs.take j).map fun a => (n, a)).length ≤ 10000000 := by
            rw [List.length_append, List.length_map, List.length_take]
            omega
          have wj : IntKind.i64.wrap ((j : Int) + 1) = (j : Int) + 1 := wrapi (by omega) (by omega)
          have hjl2 : (j : Int) < (Z : Int) := by omega
          clear hints hcell'
          generalize zs.getD j 0 = x at *
          generalize S ++ (zs.take j).map (fun a => (n, a)) = L at *
          have hownL := hownS.alloc (.cells #[.string (mk n), .int .i64 x] 40)
          have hownJ := hownI.alloc (.cells #[.string (mk n), .int .i64 x] 40)
          have hbL := hbS.alloc hwsS (.cells #[.string (mk n), .int .i64 x] 40)
          have hzL := hbL.size
          have HOL := Go.Lib.hid hownL
          have HOJ := Go.Lib.hid hownJ
          have HBL := Go.Lib.hid hbL
          have HSTJ := Go.Lib.hid hstepJ
          clear hownL hownJ hbL hstepJ
          clear hownS hbS hownI
          go_wp2_with (at_builtin; refine wpList_app1 eiSv (.tmp 24) (.tmp 28) rfl rfl W1.heap.size rfl rfl HOL.out (news := [.string (mk n), .int .i64 x]) rfl (new_cells _ _ _) (one_sv (n, x)) (by unfold maxLen; omega) (by omega) (by simp; omega) ?_; intro v5 W5 hown5 hg5 hsn5)
          go_roundw
          case rel => exact ⟨j + 1, by go_num, by omega, by rw [HSTJ.out, List.length_append, encV_snoc]; exact hown5, below_app HBL.out HOL.out hg5 (Nat.le_refl _) hzL, HOJ.out.kept hg5 (rows_apart HOJ.out HOL.out (by decide))⟩
          case measure => simp [intOf]; omega
        · have hje : j = Z := by omega
          have hfin : S ++ (zs.take j).map (fun a => (n, a)) = servK f T (k + 1) := by rw [HSTEP.out, hje, ← HZN.out, List.take_length]
          rw [hfin] at hownS
          have hjl2 : ¬ (j : Int) < (Z : Int) := by omega
          have HOS := Go.Lib.hid hownS
          have HBS := Go.Lib.hid hbS
          clear hownS hbS
          clear hfin hje hownI
          go_wp2_with fail
          go_roundw
          case rel => exact ⟨k + 1, by go_num, by omega, HOS.out, HBS.out⟩
          case measure => simp [intOf]; omega
    · have hke : k = M := by omega
      have hfin : servK f T k = servN f rs := by rw [hke]; exact HALL.out
      rw [hfin] at hown
      have hlt2 : ¬ (k : Int) < (M : Int) := by omega
      have HOWN := Go.Lib.hid hown
      have HBW := Go.Lib.hid hbw
      clear hown hbw
      clear hke hfin hbr
      go_wp2_with fail
      go_ret
      exact ⟨_, rfl, SlC.of_owns HOWN.out, HBW.out⟩
end Go.Proofs.YtgbmclgnbbhcbaaGreat

/- Pick: slices.ContainsFunc at names and at servers; who is next; whose address is missing. -/
namespace Go.Proofs.YtgbmclgnbbhcbaaGreat
open Go.RowKit Go.Sort Go.Lib
set_option maxRecDepth 100000
set_option linter.unusedVariables false
set_option linter.unusedSimpArgs false

abbrev svV (s : Sv) : Value := .agg #[.string (mk s.1), .int .i64 s.2]
def s0 : Sv := ([], 0)
theorem encV_get : ∀ (l : List Sv) (j : Nat), j < l.length → (encV l)[j * 2]? = some (.string (mk (l.getD j s0).1)) ∧ (encV l)[j * 2 + 1]? = some (.int .i64 (l.getD j s0).2)
  | [], _, h => by simp at h
  | s :: l, 0, _ => ⟨rfl, rfl⟩
  | s :: l, j + 1, h => by
    have := encV_get l j (by simpa using h)
    rw [show (j + 1) * 2 = j * 2 + 2 by omega]
    exact this
theorem Svs.at {w : World} {a : Option Addr} {m cap : Nat} {l : List Sv} (h : Svs w (.slice a m cap) l) (hn : 0 < l.length) :
    ∃ b off, a = some ⟨b, off, none⟩ ∧ b < w.heap.size ∧ ∀ j, j < l.length → w.cell? ⟨b, off + j * 2, none⟩ = some (.string (mk (l.getD j s0).1)) ∧ w.cell? ⟨b, off + j * 2 + 1, none⟩ = some (.int .i64 (l.getD j s0).2) := by
  obtain ⟨_, b, off, ha, hlt, h4⟩ := SlC.at h hn
  refine ⟨b, off, ha, hlt, fun j hj => ?_⟩
  obtain ⟨e0, e1⟩ := encV_get l j hj
  refine ⟨by rw [h4 (j * 2) (by omega), e0], ?_⟩
  rw [Nat.add_assoc, h4 (j * 2 + 1) (by omega), e1]
theorem Svs.below {B : Nat} {w w' : World} {v : Value} {l : List Sv} (h : Svs w v l) (hb : Below B w w') (hB : w.heap.size ≤ B) : Svs w' v l := SlC.below h hb hB
set_option maxRecDepth 100000 in
set_option maxHeartbeats 2000000 in
theorem idxS_any (f : FuncId) (lb : Array Value) (p : (List UInt8) → Bool) (a : Option Addr) (cap : Nat) (l : List (List UInt8)) (w : World) (hst : Strs w (.slice a l.length cap) l) (hn : l.length ≤ 1099511627776)
    (hent : ∀ args w, (callFunc f args).run Tryz.prog w = .ok (.enter f args) w)
    (hf : ∀ W r, r ∈ l → Below w.heap.size w W → Calls Tryz.prog f (#[Value.string (mk r)] ++ lb) W fun e W' => e = .returned (.bool (p r)) ∧ Below W.heap.size W W') :
    Calls Tryz.prog 50 #[.slice a l.length cap, .func (.func f) #[] lb] w fun e w' => e = .returned (.int .i64 (idx p l)) ∧ Below w.heap.size w w' := by
  have HB := Go.Lib.hid (Below.refl w.heap.size w)
  have HST := Go.Lib.hid hst
  have HF := Go.Lib.hid hf
  clear hst hf
  generalize hN : l.length = N at *
  have HN := Go.Lib.hid hN
  clear hN
  go_enter Tryz.func50, Tryz.ntmps50
  go_wp2_with fail
  go_loopw [8] (fun i wr => ∃ k : Nat, i = .int .i64 k ∧ k ≤ N ∧ (∀ x ∈ l.take k, p x = false) ∧ Below w.heap.size w wr) (fun i _ => N - (intOf i).toNat)
  case atStart => exact ⟨0, rfl, by omega, by simp, HB.out⟩
  case round =>
    obtain ⟨k, rfl, hk, hall, hbr⟩ := hrel
    clear HB
    have hix := idx_drop p l k hall
    have HALL := Go.Lib.hid hall
    have HB := Go.Lib.hid hbr
    have HIX := Go.Lib.hid hix
    clear hall hbr hix
    by_cases hlt : k < N
    · have hst := HST.out.below HB.out (Nat.le_refl _)
      rw [← HN.out] at hst
      obtain ⟨b, off, rfl, hbw, hcell⟩ := Strs.at hst (by rw [HN.out]; omega)
      have e0 := hcell k (by rw [HN.out]; exact hlt)
      have hmem : l.getD k [] ∈ l := by
        rw [List.getD_eq_getElem?_getD, List.getElem?_eq_getElem (by rw [HN.out]; exact hlt)]
        simp
      have hcl := HF.out wr _ hmem HB.out
      have hdr : l.drop k = l.getD k [] :: l.drop (k + 1) := by
        rw [List.drop_eq_getElem_cons (by rw [HN.out]; exact hlt)]
        simp [HN.out, hlt]
      have hsn : l.take (k + 1) = l.take k ++ [l.getD k []] := by
        rw [List.take_succ_eq_append_getElem (by rw [HN.out]; exact hlt)]
        simp [HN.out, hlt]
      have HCL := Go.Lib.hid hcl
      have HDR := Go.Lib.hid hdr
      have HSN := Go.Lib.hid hsn
      clear hcl hdr hsn
      clear hcell hst hmem
      generalize l.getD k [] = r at *
      have hpr := HIX.out
      rw [HDR.out] at hpr
      simp only [idx] at hpr
      have HPR := Go.Lib.hid hpr
      clear hpr
      cases hp : p r with
      | true =>
        have hfin : Hid (idx p l = (k : Int)) := Go.Lib.hid (by rw [HPR.out]; simp [hp])
        rw [hp] at HCL
        clear hp HPR HIX
        go_wp2_with fail
        refine HCL.out.mono ?_; rintro e wb ⟨rfl, hx⟩
        have HX := Go.Lib.hid hx
        clear hx
        go_wp2_with fail
        go_ret
        exact ⟨ret_int hfin.out.symm, HB.out.trans (HX.out.mono HB.out.size)⟩
      | false =>
        have hall2 : ∀ x ∈ l.take (k + 1), p x = false := fun x hx => by
          rw [HSN.out] at hx
          rcases List.mem_append.1 hx with h | h
          · exact HALL.out x h
          · simp at h; rw [h]; exact hp
        have HALL2 := Go.Lib.hid hall2
        clear hall2
        rw [hp] at HCL
        clear hp HPR HIX
        go_wp2_with fail
        refine HCL.out.mono ?_; rintro e wb ⟨rfl, hx⟩
        have HX := Go.Lib.hid hx
        clear hx
        go_wp2_with fail
        go_roundw
        case rel => exact ⟨k + 1, by go_num, by omega, HALL2.out, HB.out.trans (HX.out.mono HB.out.size)⟩
        case measure => simp [intOf]; omega
    · have hfin : Hid (idx p l = -1) := Go.Lib.hid (by
        rw [HIX.out, List.drop_of_length_le (by rw [HN.out]; omega)]
        simp [idx])
      clear HIX
      go_wp2_with fail
      go_ret
      exact ⟨ret_int hfin.out.symm, HB.out⟩

set_option maxRecDepth 100000 in
theorem hasS_any (f : FuncId) (lb : Array Value) (p : (List UInt8) → Bool) (a : Option Addr) (cap : Nat) (l : List (List UInt8)) (w : World) (hst : Strs w (.slice a l.length cap) l) (hn : l.length ≤ 1099511627776)
    (hent : ∀ args w, (callFunc f args).run Tryz.prog w = .ok (.enter f args) w)
    (hf : ∀ W r, r ∈ l → Below w.heap.size w W → Calls Tryz.prog f (#[Value.string (mk r)] ++ lb) W fun e W' => e = .returned (.bool (p r)) ∧ Below W.heap.size W W') :
    Calls Tryz.prog 28 #[.slice a l.length cap, .func (.func f) #[] lb] w fun e w' => e = .returned (.bool (l.any p)) ∧ Below w.heap.size w w' := by
  have hi := idxS_any f lb p a cap l w hst hn hent hf
  have h1 := idx_any p l
  have h2 := idx_lt p l
  have HI := Go.Lib.hid hi
  have HST := Go.Lib.hid hst
  have HF := Go.Lib.hid hf
  clear hi hst hf
  by_cases h : 0 ≤ idx p l
  · have hfin : Hid (l.any p = true) := Go.Lib.hid (h1.1 h)
    clear h1 h2
    generalize idx p l = v at *
    generalize l.length = N at *
    go_enter Tryz.func28, Tryz.ntmps28
    go_wp2_with fail
    refine HI.out.mono ?_; rintro e wb ⟨rfl, hx⟩
    have HX := Go.Lib.hid hx
    clear hx
    go_wp2_with fail
    go_ret
    exact ⟨ret_bool hfin.out.symm, HX.out⟩
  · have hfin : Hid (l.any p = false) := Go.Lib.hid (by
      cases hb : l.any p with
      | false => rfl
      | true => exact absurd (h1.2 hb) h)
    clear h1 h2
    generalize idx p l = v at *
    have hd : decide (0 ≤ v) = false := decide_eq_false h
    have hv : v < 0 := by omega
    clear h
    generalize l.length = N at *
    go_enter Tryz.func28, Tryz.ntmps28
    go_wp2_with fail
    refine HI.out.mono ?_; rintro e wb ⟨rfl, hx⟩
    have HX := Go.Lib.hid hx
    clear hx
    go_wp2_with fail
    go_ret
    exact ⟨ret_bool hfin.out.symm, HX.out⟩
set_option maxRecDepth 100000 in
set_option maxHeartbeats 2000000 in
theorem idxV_any (f : FuncId) (lb : Array Value) (p : Sv → Bool) (a : Option Addr) (cap : Nat) (l : List Sv) (w : World) (hst : Svs w (.slice a l.length cap) l) (hn : l.length ≤ 1099511627776)
    (hent : ∀ args w, (callFunc f args).run Tryz.prog w = .ok (.enter f args) w)
    (hf : ∀ W r, r ∈ l → Below w.heap.size w W → Calls Tryz.prog f (#[svV r] ++ lb) W fun e W' => e = .returned (.bool (p r)) ∧ Below W.heap.size W W') :
    Calls Tryz.prog 47 #[.slice a l.length cap, .func (.func f) #[] lb] w fun e w' => e = .returned (.int .i64 (idx p l)) ∧ Below w.heap.size w w' := by
  have HB := Go.Lib.hid (Below.refl w.heap.size w)
  have HST := Go.Lib.hid hst
  have HF := Go.Lib.hid hf
  clear hst hf
  generalize hN : l.length = N at *
  have HN := Go.Lib.hid hN
  clear hN
  go_enter Tryz.func47, Tryz.ntmps47
  go_wp2_with fail
  go_loopw [8] (fun i wr => ∃ k : Nat, i = .int .i64 k ∧ k ≤ N ∧ (∀ x ∈ l.take k, p x = false) ∧ Below w.heap.size w wr) (fun i _ => N - (intOf i).toNat)
  case atStart => exact ⟨0, rfl, by omega, by simp, HB.out⟩
  case round =>
    obtain ⟨k, rfl, hk, hall, hbr⟩ := hrel
    clear HB
    have hix := idx_drop p l k hall
    have HALL := Go.Lib.hid hall
    have HB := Go.Lib.hid hbr
    have HIX := Go.Lib.hid hix
    clear hall hbr hix
    by_cases hlt : k < N
    · have hst := HST.out.below HB.out (Nat.le_refl _)
      rw [← HN.out] at hst
      obtain ⟨b, off, rfl, hbw, hcell⟩ := Svs.at hst (by rw [HN.out]; omega)
      obtain ⟨e0, e1⟩ := hcell k (by rw [HN.out]; exact hlt)
      have hmem : l.getD k s0 ∈ l := by
        rw [List.getD_eq_getElem?_getD, List.getElem?_eq_getElem (by rw [HN.out]; exact hlt)]
        simp
      have hcl := HF.out wr _ hmem HB.out
      have hdr : l.drop k = l.getD k s0 :: l.drop (k + 1) := by
        rw [List.drop_eq_getElem_cons (by rw [HN.out]; exact hlt)]
        simp [HN.out, hlt]
      have hsn : l.take (k + 1) = l.take k ++ [l.getD k s0] := by
        rw [List.take_succ_eq_append_getElem (by rw [HN.out]; exact hlt)]
        simp [HN.out, hlt]
      have HCL := Go.Lib.hid hcl
      have HDR := Go.Lib.hid hdr
      have HSN := Go.Lib.hid hsn
      clear hcl hdr hsn
      clear hcell hst hmem
      generalize l.getD k s0 = r at *
      have hpr := HIX.out
      rw [HDR.out] at hpr
      simp only [idx] at hpr
      have HPR := Go.Lib.hid hpr
      clear hpr
      cases hp : p r with
      | true =>
        have hfin : Hid (idx p l = (k : Int)) := Go.Lib.hid (by rw [HPR.out]; simp [hp])
        rw [hp] at HCL
        clear hp HPR HIX
        go_wp2_with fail
        refine HCL.out.mono ?_; rintro e wb ⟨rfl, hx⟩
        have HX := Go.Lib.hid hx
        clear hx
        go_wp2_with fail
        go_ret
        exact ⟨ret_int hfin.out.symm, HB.out.trans (HX.out.mono HB.out.size)⟩
      | false =>
        have hall2 : ∀ x ∈ l.take (k + 1), p x = false := fun x hx => by
          rw [HSN.out] at hx
          rcases List.mem_append.1 hx with h | h
          · exact HALL.out x h
          · simp at h; rw [h]; exact hp
        have HALL2 := Go.Lib.hid hall2
        clear hall2
        rw [hp] at HCL
        clear hp HPR HIX
        go_wp2_with fail
        refine HCL.out.mono ?_; rintro e wb ⟨rfl, hx⟩
        have HX := Go.Lib.hid hx
        clear hx
        go_wp2_with fail
        go_roundw
        case rel => exact ⟨k + 1, by go_num, by omega, HALL2.out, HB.out.trans (HX.out.mono HB.out.size)⟩
        case measure => simp [intOf]; omega
    · have hfin : Hid (idx p l = -1) := Go.Lib.hid (by
        rw [HIX.out, List.drop_of_length_le (by rw [HN.out]; omega)]
        simp [idx])
      clear HIX
      go_wp2_with fail
      go_ret
      exact ⟨ret_int hfin.out.symm, HB.out⟩

set_option maxRecDepth 100000 in
theorem hasV_any (f : FuncId) (lb : Array Value) (p : Sv → Bool) (a : Option Addr) (cap : Nat) (l : List Sv) (w : World) (hst : Svs w (.slice a l.length cap) l) (hn : l.length ≤ 1099511627776)
    (hent : ∀ args w, (callFunc f args).run Tryz.prog w = .ok (.enter f args) w)
    (hf : ∀ W r, r ∈ l → Below w.heap.size w W → Calls Tryz.prog f (#[svV r] ++ lb) W fun e W' => e = .returned (.bool (p r)) ∧ Below W.heap.size W W') :
    Calls Tryz.prog 25 #[.slice a l.length cap, .func (.func f) #[] lb] w fun e w' => e = .returned (.bool (l.any p)) ∧ Below w.heap.size w w' := by
  have hi := idxV_any f lb p a cap l w hst hn hent hf
  have h1 := idx_any p l
  have h2 := idx_lt p l
  have HI := Go.Lib.hid hi
  have HST := Go.Lib.hid hst
  have HF := Go.Lib.hid hf
  clear hi hst hf
  by_cases h : 0 ≤ idx p l
  · have hfin : Hid (l.any p = true) := Go.Lib.hid (h1.1 h)
    clear h1 h2
    generalize idx p l = v at *
    generalize l.length = N at *
    go_enter Tryz.func25, Tryz.ntmps25
    go_wp2_with fail
    refine HI.out.mono ?_; rintro e wb ⟨rfl, hx⟩
    have HX := Go.Lib.hid hx
    clear hx
    go_wp2_with fail
    go_ret
    exact ⟨ret_bool hfin.out.symm, HX.out⟩
  · have hfin : Hid (l.any p = false) := Go.Lib.hid (by
      cases hb : l.any p with
      | false => rfl
      | true => exact absurd (h1.2 hb) h)
    clear h1 h2
    generalize idx p l = v at *
    have hd : decide (0 ≤ v) = false := decide_eq_false h
    have hv : v < 0 := by omega
    clear h
    generalize l.length = N at *
    go_enter Tryz.func25, Tryz.ntmps25
    go_wp2_with fail
    refine HI.out.mono ?_; rintro e wb ⟨rfl, hx⟩
    have HX := Go.Lib.hid hx
    clear hx
    go_wp2_with fail
    go_ret
    exact ⟨ret_bool hfin.out.symm, HX.out⟩

end Go.Proofs.YtgbmclgnbbhcbaaGreat

/- Pick: the contracts of pick.Next and pick.Missing. -/
namespace Go.Proofs.YtgbmclgnbbhcbaaGreat
open Go.RowKit Go.Sort Go.Lib
set_option maxRecDepth 100000
set_option linter.unusedVariables false
set_option linter.unusedSimpArgs false

theorem find_hit {α : Type} {p : α → Bool} {l : List α} {k : Nat} {d : α} (hk : k < l.length) (h : ∀ x ∈ l.take k, p x = false) (hx : p (l.getD k d) = true) : l.find? p = some (l.getD k d) := by
  have e : l = l.take k ++ l.getD k d :: l.drop (k + 1) := by
    conv => lhs; rw [← List.take_append_drop k l, List.drop_eq_getElem_cons hk]
    simp [hk]
  have h1 : (l.take k).find? p = none := List.find?_eq_none.2 fun x hx => by rw [h x hx]; decide
  conv => lhs; rw [e]
  rw [List.find?_append, h1, List.find?_cons_of_pos hx]
  rfl
theorem find_none {α : Type} {p : α → Bool} {l : List α} {k : Nat} (hk : k = l.length) (h : ∀ x ∈ l.take k, p x = false) : l.find? p = none := by
  rw [hk, List.take_length] at h
  exact List.find?_eq_none.2 fun x hx => by rw [h x hx]; decide
theorem take_more {α : Type} {q : α → Prop} {l : List α} {k : Nat} {d : α} (hk : k < l.length) (h : ∀ x ∈ l.take k, q x) (hx : q (l.getD k d)) : ∀ x ∈ l.take (k + 1), q x := by
  intro x hm
  rw [List.take_succ_eq_append_getElem hk] at hm
  rcases List.mem_append.1 hm with hm | hm
  · exact h x hm
  · simp only [List.mem_singleton] at hm
    rw [hm]
    have : l.getD k d = l[k] := by rw [List.getD_eq_getElem?_getD, List.getElem?_eq_getElem hk]; rfl
    rw [← this]
    exact hx
theorem infoZ : (Tryz.prog.info? 40).map (·.size) = some 2 := by kernel_rfl
theorem undSv : ∃ fs, Tryz.prog.underlying 40 = some (.struct fs) := ⟨_, Tryz.underlying40⟩
abbrev svC (s : Sv) : Array Value := #[.string (mk s.1), .int .i64 s.2]
theorem one_svC (s : Sv) : (svC s).all (·.oneCell') = true := by simp [svC, Value.oneCell']
theorem ret_sv {fn : Func} {p q : Tmp} {a : Act} {W : World} {R : Ending → World → Prop} {s : Sv} {y : Value} {g : Nat} (hr : fn.results = #[.cell p 40, .tmp q]) (hp : a.tmps.getD p undef = .pointer (some ⟨g, 0, none⟩)) (hq : a.tmps.getD q undef = y) (hd : a.defers = [])
    (hg : W.heap[g]? = some (.cells (svC s) 40 (0, 0))) (h : R (.returned (.tuple #[svV s, y])) W) : bodyPost Tryz.prog fn R Exit.ret a W := by
  obtain ⟨fs, hu⟩ := undSv
  refine bodyPost_ret (v := .tuple #[svV s, y]) ?_ hd h
  have hp' : a.tmps[p]?.getD undef = .pointer (some ⟨g, 0, none⟩) := by simpa using hp
  have hq' : a.tmps[q]?.getD undef = y := by simpa using hq
  simp [results, hr, hp', hq', asAddr, run_loadVar_row W g _ 40 (svC s) (0, 0) _ hg hu rfl infoZ]
theorem next1_any (x : Sv) (B : Nat) (s : Sv) (W : World) (hB : W.heap[B]? = some (.cells (svC s) 40 (0, 0))) :
    Calls Tryz.prog 26 #[svV x, .pointer (some ⟨B, 0, none⟩)] W fun e w' => e = .returned (.bool (decide (x.2 = s.2))) ∧ Below W.heap.size W w' := by
  obtain ⟨xn, xa⟩ := x
  obtain ⟨sn, sa⟩ := s
  obtain ⟨Y, hY⟩ : ∃ Y, W.alloc (.cells #[.string (mk xn), .int .i64 xa] 40) = Y := ⟨_, rfl⟩
  have gY : Y.heap[W.heap.size]? = some (.cells #[.string (mk xn), .int .i64 xa] 40 (0, 0)) := by rw [← hY]; exact World.alloc_heap_new _ _
  have hbY : Below W.heap.size W Y := by rw [← hY]; exact (Below.refl _ W).alloc (Nat.le_refl _) _
  have gB := (hbY.block B (Array.getElem?_eq_some_iff.1 hB).1).trans hB
  have k1 : Y.cell? ⟨W.heap.size, 1, none⟩ = some (.int .i64 xa) := row_cell gY 1 _ rfl
  have k2 : Y.cell? ⟨B, 1, none⟩ = some (.int .i64 sa) := row_cell gB 1 _ rfl
  have hr : Hid (decide (xa = sa) = (xa == sa)) := Go.Lib.hid rfl
  clear hB gY gB
  have HBY := Go.Lib.hid hbY
  clear hbY
  go_enter Tryz.func26, Tryz.ntmps26
  go_wp2_with fail
  go_ret
  exact ⟨by first | rfl | (rw [hr.out]), HBY.out⟩
def retN (o : Option Sv) : Value := .tuple #[svV (o.getD s0), .bool o.isSome]
set_option maxHeartbeats 4000000 in
theorem Next_any (l tried : List Sv) (a a2 : Option Addr) (c c2 : Nat) (w : World) (hl : Svs w (.slice a l.length c) l) (ht : Svs w (.slice a2 tried.length c2) tried) (hn : l.length ≤ 1099511627776) (hm : tried.length ≤ 1099511627776) :
    Calls Tryz.prog 11 #[.slice a l.length c, .slice a2 tried.length c2] w fun e w' => e = .returned (retN (nextN l tried)) ∧ Below w.heap.size w w' := by
  obtain ⟨X, hX⟩ : ∃ X, w.alloc (.cells #[.string ⟨#[]⟩, .int .i64 0] 40) = X := ⟨_, rfl⟩
  have gX : X.heap[w.heap.size]? = some (.cells (svC s0) 40 (0, 0)) := by rw [← hX]; exact World.alloc_heap_new _ _
  have hbX : Below w.heap.size w X := by rw [← hX]; exact (Below.refl _ w).alloc (Nat.le_refl _) _
  generalize hN : l.length = N at *
  have hall := find_none (p := fun s : Sv => !tried.any fun x => decide (x.2 = s.2)) (l := l) (k := N) hN.symm
  have hhit := fun (k : Nat) (hk : k < N) => find_hit (p := fun s : Sv => !tried.any fun x => decide (x.2 = s.2)) (l := l) (k := k) (d := s0) (by rw [hN]; exact hk)
  have hdef : nextN l tried = l.find? fun s : Sv => !tried.any fun x => decide (x.2 = s.2) := rfl
  have hone0 := one_svC s0
  have hxs : w.heap.size < X.heap.size := by rw [← hX]; simp
  have HL := Go.Lib.hid hl
  have HT := Go.Lib.hid ht
  have HALL := Go.Lib.hid hall
  have HHIT := Go.Lib.hid hhit
  have HDEF := Go.Lib.hid hdef
  have GX := Go.Lib.hid gX
  have HBX := Go.Lib.hid hbX
  have HN := Go.Lib.hid hN
  have HXS := Go.Lib.hid hxs
  clear hl ht hall hhit hdef gX hbX hN hxs
  go_enter Tryz.func11, Tryz.ntmps11
  go_wp2_with fail
  go_loopw [10] (fun i wr => ∃ k : Nat, i = .int .i64 k ∧ k ≤ N ∧ (∀ x ∈ l.take k, (!tried.any fun y => decide (y.2 = x.2)) = false) ∧ Below X.heap.size X wr) (fun i _ => N - (intOf i).toNat)
  case atStart => exact ⟨0, rfl, Nat.zero_le _, by simp, Below.refl _ _⟩
  case round =>
    obtain ⟨k, rfl, hk, hall2, hbr⟩ := hrel
    have hbw := HBX.out.trans (hbr.mono HBX.out.size)
    have g2 := (hbr.block _ (Array.getElem?_eq_some_iff.1 GX.out).1).trans GX.out
    have hws := hbr.size
    by_cases hlt : k < N
    · have hl2 := HL.out.below hbw (Nat.le_refl _)
      have ht2 := HT.out.below hbw (Nat.le_refl _)
      obtain ⟨b, off, rfl, hbb, hcell⟩ := Svs.at hl2 (by rw [HN.out]; omega)
      obtain ⟨d0, d1⟩ := hcell k (by rw [HN.out]; exact hlt)
      have hhit := HHIT.out k hlt hall2
      have hmore := take_more (q := fun x : Sv => (!tried.any fun y => decide (y.2 = x.2)) = false) (l := l) (k := k) (d := s0) (by rw [HN.out]; exact hlt) hall2
      have wk : IntKind.i64.wrap ((k : Int) + 1) = (k : Int) + 1 := wrapi (by omega) (by omega)
      have hlt2 : (k : Int) < (N : Int) := by omega
      rw [← HDEF.out] at hhit
      clear hcell hl2 hall2
      generalize l.getD k s0 = s at *
      obtain ⟨sn, sa⟩ := s
      simp only at d0 d1 hhit hmore
      obtain ⟨Y, hY⟩ : ∃ Y, wr.alloc (.cells #[.string (mk sn), .int .i64 sa] 40) = Y := ⟨_, rfl⟩
      have gY : Y.heap[wr.heap.size]? = some (.cells (svC (sn, sa)) 40 (0, 0)) := by rw [← hY]; exact World.alloc_heap_new _ _
      have hbY : Below wr.heap.size wr Y := by rw [← hY]; exact (Below.refl _ wr).alloc (Nat.le_refl _) _
      have hhas := hasV_any 26 #[.pointer (some ⟨wr.heap.size, 0, none⟩)] (fun x => decide (x.2 = sa)) a2 c2 tried Y (ht2.below hbY (Nat.le_refl _)) hm (enters_of Tryz.func26 (by kernel_rfl) rfl)
        (fun W r hr hb => next1_any r wr.heap.size (sn, sa) W ((hb.block _ (Array.getElem?_eq_some_iff.1 gY).1).trans gY))
      have hbXY := hbr.trans (hbY.mono hws)
      have g3 := (hbY.block _ (Array.getElem?_eq_some_iff.1 g2).1).trans g2
      have hone := one_svC (sn, sa)
      generalize hb0 : (tried.any fun x => decide (x.2 = sa)) = bo at *
      have HHAS := Go.Lib.hid hhas
      have HBXY := Go.Lib.hid hbXY
      have G3 := Go.Lib.hid g3
      have GY := Go.Lib.hid gY
      have HHIT2 := Go.Lib.hid hhit
      have HMORE := Go.Lib.hid hmore
      clear hhas hbXY g3 gY hhit hmore
      clear hbY ht2 hbr hbw g2 hb0
      go_wp2_with fail
      refine HHAS.out.mono ?_; rintro e Z ⟨rfl, hz⟩
      have hbXZ := HBXY.out.trans (hz.mono HBXY.out.size)
      have g4 := (hz.block _ (Array.getElem?_eq_some_iff.1 G3.out).1).trans G3.out
      have g5 := (hz.block _ (Array.getElem?_eq_some_iff.1 GY.out).1).trans GY.out
      have q0 : Z.cell? ⟨wr.heap.size, 0, none⟩ = some (.string (mk sn)) := row_cell g5 0 _ rfl
      have q1 : Z.cell? ⟨wr.heap.size, 1, none⟩ = some (.int .i64 sa) := row_cell g5 1 _ rfl
      have HBXZ := Go.Lib.hid hbXZ
      have G4 := Go.Lib.hid g4
      clear hbXZ g4
      clear hz g5
      cases bo with
      | true =>
        have hm2 := HMORE.out rfl
        have HM2 := Go.Lib.hid hm2
        clear hm2
        go_wp2_with fail
        go_roundw
        case rel => exact ⟨k + 1, by go_num, by omega, HM2.out, HBXZ.out⟩
        case measure => simp [intOf]; omega
      | false =>
        have hres := HHIT2.out rfl
        have HRES := Go.Lib.hid hres
        clear hres
        go_wp2_with (refine wpList_store_row rfl 40 (.tmp 4) (.tmp 18) rfl w.heap.size (svC (sn, sa)) rfl rfl _ _ G4.out infoZ rfl hone ?_)
        refine ret_sv (s := (sn, sa)) rfl rfl rfl rfl (setRow_heap _ _ _ _ _ _ G4.out) ⟨by rw [HRES.out]; rfl, below_setRow (HBX.out.trans (HBXZ.out.mono HBX.out.size)) (Nat.le_refl _) _⟩
    · have hke : k = N := by omega
      have hlt2 : ¬ (k : Int) < (N : Int) := by omega
      rw [hke] at hall2
      have hres := HALL.out hall2
      rw [← HDEF.out] at hres
      have HRES := Go.Lib.hid hres
      have G2 := Go.Lib.hid g2
      have HBW := Go.Lib.hid hbw
      clear hres g2 hbw
      clear hke hall2 hbr
      go_wp2_with (refine wpList_store_row rfl 40 (.tmp 4) (.tmp 20) rfl w.heap.size (svC s0) rfl rfl _ _ G2.out infoZ rfl hone0 ?_)
      refine ret_sv (s := s0) rfl rfl rfl rfl (setRow_heap _ _ _ _ _ _ G2.out) ⟨by rw [HRES.out]; rfl, below_setRow HBW.out (Nat.le_refl _) _⟩
end Go.Proofs.YtgbmclgnbbhcbaaGreat

/- Pick: the contract of pick.Missing. -/
namespace Go.Proofs.YtgbmclgnbbhcbaaGreat
open Go.RowKit Go.Sort Go.Lib
set_option maxRecDepth 100000
set_option linter.unusedVariables false
set_option linter.unusedSimpArgs false

theorem targsN_len (rs : List Rc.RR) : (targsN rs).length ≤ rs.length := Nat.le_trans (insAll_len _) (targL_len rs)
theorem miss1_any (x n : List UInt8) (B : Nat) (W : World) (hx : x.length ≤ maxLen) (hn : n.length ≤ maxLen) (hB : W.heap[B]? = some (.cells #[.string (mk n)] 9 (0, 0))) :
    Calls Tryz.prog 29 #[.string (mk x), .pointer (some ⟨B, 0, none⟩)] W fun e w' => e = .returned (.bool (Nm.sameN x n)) ∧ Below W.heap.size W w' := by
  have h := fun W => Same_any (mk x) (mk n) W (by rw [size_mk]; exact hx) (by rw [size_mk]; exact hn)
  simp only [bl_mk] at h
  have k1 : W.cell? ⟨B, 0, none⟩ = some (.string (mk n)) := row_cell hB 0 _ rfl
  generalize Nm.sameN x n = r at *
  clear hB
  have H := Go.Lib.hid h
  clear h
  go_enter Tryz.func29, Tryz.ntmps29
  go_wp2_with fail
  refine (H.out W).mono ?_; rintro e w1 ⟨rfl, hb⟩
  have HB := Go.Lib.hid hb
  clear hb
  go_wp2_with fail
  go_ret
  exact ⟨rfl, HB.out⟩
def retM (o : Option (List UInt8)) : Value := .tuple #[.string (mk (o.getD [])), .bool o.isSome]
set_option maxHeartbeats 8000000 in
theorem Missing_any (kn : List UInt8) (kt kd : Int) (zn : List UInt8) (rs : List Rc.RR) (a : Option Addr) (cap : Nat) (g : FuncId) (cb : Array Value) (f : List UInt8 → List Int) (tried : List (List UInt8)) (a2 : Option Addr) (c2 : Nat) (w : World) (hst : RRs w (.slice a rs.length cap) rs) (hok : ∀ r ∈ rs, RROk r) (hn : rs.length ≤ 1000)
    (hent : ∀ args w, (callFunc g args).run Tryz.prog w = .ok (.enter g args) w) (hf : ∀ n ∈ targsN rs, TellsA Tryz.prog g cb n (f n) w) (hz : ∀ n ∈ targsN rs, (f n).length ≤ 1000000)
    (ht : Strs w (.slice a2 tried.length c2) tried) (hm : tried.length ≤ 1099511627776) (htl : ∀ x ∈ tried, x.length ≤ maxLen) :
    Calls Tryz.prog 14 #[setV kn kt (.slice a rs.length cap) kd zn, .func (.func g) #[] cb, .slice a2 tried.length c2] w fun e w' => e = .returned (retM (missN f rs tried)) ∧ Below w.heap.size w w' := by
  obtain ⟨X, hX⟩ : ∃ X, w.alloc (.cells (setC kn kt (.slice a rs.length cap) kd zn) 26) = X := ⟨_, rfl⟩
  have gX : X.heap[w.heap.size]? = some (.cells (setC kn kt (.slice a rs.length cap) kd zn) 26 (0, 0)) := by rw [← hX]; exact World.alloc_heap_new _ _
  have hbX : Below w.heap.size w X := by rw [← hX]; exact (Below.refl _ w).alloc (Nat.le_refl _) _
  have hta := Targets_any kn kt kd zn rs a cap X (hst.below hbX (Nat.le_refl _)) hok (by omega)
  have hTl : (targsN rs).length ≤ 1000 := by have := targsN_len rs; omega
  have hpn := targsN_pn rs
  have hdef : missN f rs tried = (targsN rs).find? fun n => decide ((toldN (f n)).length = 0) && !tried.any fun x => Nm.sameN x n := rfl
  generalize missN f rs tried = res at *
  generalize targsN rs = T at *
  have hall := find_none (p := fun n => decide ((toldN (f n)).length = 0) && !tried.any fun x => Nm.sameN x n) (l := T) (k := T.length) rfl
  have hhit := fun (k : Nat) (hk : k < T.length) => find_hit (p := fun n => decide ((toldN (f n)).length = 0) && !tried.any fun x => Nm.sameN x n) (l := T) (k := k) (d := []) hk
  have k0 : X.cell? ⟨w.heap.size, 0, none⟩ = some (.string (mk kn)) := row_cell gX 0 _ rfl
  have k1 : X.cell? ⟨w.heap.size, 1, none⟩ = some (.int .i64 kt) := row_cell gX 1 _ rfl
  have k2 : X.cell? ⟨w.heap.size, 2, none⟩ = some (.slice a rs.length cap) := row_cell gX 2 _ rfl
  have k3 : X.cell? ⟨w.heap.size, 3, none⟩ = some (.int .i64 kd) := row_cell gX 3 _ rfl
  have k4 : X.cell? ⟨w.heap.size, 4, none⟩ = some (.string (mk zn)) := row_cell gX 4 _ rfl
  simp only [setV, setC] at hta
  have HST := Go.Lib.hid hst
  have HBX := Go.Lib.hid hbX
  have HT := Go.Lib.hid hta
  have HF := Go.Lib.hid hf
  have HZ := Go.Lib.hid hz
  have HALL := Go.Lib.hid hall
  have GX := Go.Lib.hid gX
  have HHIT := Go.Lib.hid hhit
  have HDEF := Go.Lib.hid hdef
  have HTR := Go.Lib.hid ht
  have HPN := Go.Lib.hid hpn
  have HTL := Go.Lib.hid htl
  clear hst hbX hta hf hz hall gX hhit hdef ht hpn htl
  simp only [setC] at hX
  generalize rs.length = N at *
  go_enter Tryz.func14, Tryz.ntmps14
  go_wp2_with fail
  refine HT.out.mono ?_; rintro e W1 ⟨v1, rfl, hs1, hb1⟩
  obtain ⟨a1, c1, rfl, _, _⟩ := SlC.slice hs1
  have hbw1 := HBX.out.trans (hb1.mono HBX.out.size)
  generalize hTn : T.length = M at *
  have HS1 := Go.Lib.hid hs1
  have HBW1 := Go.Lib.hid hbw1
  have HTN := Go.Lib.hid hTn
  clear hs1 hbw1 hTn
  clear hb1 hX k0 k1 k2 k3 k4
  go_wp2_with fail
  go_loopw [13] (fun i wr => ∃ k : Nat, i = .int .i64 k ∧ k ≤ M ∧ (∀ n ∈ T.take k, (decide ((toldN (f n)).length = 0) && !tried.any fun x => Nm.sameN x n) = false) ∧ Below W1.heap.size W1 wr) (fun i _ => M - (intOf i).toNat)
  case atStart => exact ⟨0, rfl, Nat.zero_le _, by simp, Below.refl _ _⟩
  case round =>
    obtain ⟨k, rfl, hk, hall2, hbr⟩ := hrel
    have hws := hbr.size
    have hbw := HBW1.out.trans (hbr.mono HBW1.out.size)
    by_cases hlt : k < M
    · have hst1 : Strs wr (.slice a1 M c1) T := HS1.out.below hbr (Nat.le_refl _)
      obtain ⟨b, off, rfl, hbb, hcell⟩ := Strs.at hst1 (by rw [HTN.out]; omega)
      have d0 := hcell k (by rw [HTN.out]; exact hlt)
      have hmem : T.getD k [] ∈ T := by rw [List.getD_eq_getElem?_getD, List.getElem?_eq_getElem (by rw [HTN.out]; exact hlt)]; exact List.getElem_mem _
      have hnl := pn_len (HPN.out _ hmem)
      have hhit := HHIT.out k hlt hall2
      have hmore := take_more (q := fun n => (decide ((toldN (f n)).length = 0) && !tried.any fun x => Nm.sameN x n) = false) (l := T) (k := k) (d := []) (by rw [HTN.out]; exact hlt) hall2
      rw [← HDEF.out] at hhit
      have wk : IntKind.i64.wrap ((k : Int) + 1) = (k : Int) + 1 := wrapi (by omega) (by omega)
      have hlt2 : (k : Int) < (M : Int) := by omega
      obtain ⟨Y, hY⟩ : ∃ Y, wr.alloc (.cells #[.string (mk (T.getD k []))] 9) = Y := ⟨_, rfl⟩
      have gY : Y.heap[wr.heap.size]? = some (.cells #[.string (mk (T.getD k []))] 9 (0, 0)) := by rw [← hY]; exact World.alloc_heap_new _ _
      have hbY : Below wr.heap.size wr Y := by rw [← hY]; exact (Below.refl _ wr).alloc (Nat.le_refl _) _
      have hbwY := hbw.trans (hbY.mono hbw.size)
      have htold := told_any g cb (T.getD k []) (f (T.getD k [])) Y hent (fun W h => HF.out _ hmem W (hbwY.trans (h.mono hbwY.size))) (HZ.out _ hmem)
      have q0 : Y.cell? ⟨wr.heap.size, 0, none⟩ = some (.string (mk (T.getD k []))) := row_cell gY 0 _ rfl
      have hbXY := hbr.trans (hbY.mono hws)
      clear hst1 hcell hmem hall2
      generalize T.getD k [] = n at *
      generalize toldN (f n) = zs at *
      have HTOLD := Go.Lib.hid htold
      have HHIT2 := Go.Lib.hid hhit
      have HMORE := Go.Lib.hid hmore
      have HBXY := Go.Lib.hid hbXY
      have GY := Go.Lib.hid gY
      have HBWY := Go.Lib.hid hbwY
      clear htold hhit hmore hbXY gY hbwY
      clear hbr hbw hbY
      go_wp2_with fail
      refine HTOLD.out.mono ?_; rintro e W2 ⟨v2, rfl, ho2, hb2⟩
      obtain ⟨av, cv, rfl, _, _⟩ := (SlC.of_owns ho2).slice
      have hbX2 := HBXY.out.trans (hb2.mono HBXY.out.size)
      have hbw2 := HBWY.out.trans (hb2.mono HBWY.out.size)
      have g2 := (hb2.block _ (Array.getElem?_eq_some_iff.1 GY.out).1).trans GY.out
      have hhas := hasS_any 29 #[.pointer (some ⟨wr.heap.size, 0, none⟩)] (fun x => Nm.sameN x n) a2 c2 tried W2 (HTR.out.below hbw2 (Nat.le_refl _)) hm (enters_of Tryz.func29 (by kernel_rfl) rfl)
        (fun W r hr hb => miss1_any r n wr.heap.size W (HTL.out r hr) (by unfold maxLen; omega) ((hb.block _ (Array.getElem?_eq_some_iff.1 g2).1).trans g2))
      have q2 : W2.cell? ⟨wr.heap.size, 0, none⟩ = some (.string (mk n)) := row_cell g2 0 _ rfl
      clear ho2 hb2
      generalize hb0 : (tried.any fun x => Nm.sameN x n) = bo at *
      generalize hzn : zs.length = Z at *
      have HHAS := Go.Lib.hid hhas
      have HBX2 := Go.Lib.hid hbX2
      have HBW2 := Go.Lib.hid hbw2
      have G2 := Go.Lib.hid g2
      clear hhas hbX2 hbw2 g2
      clear hb0 hzn
      by_cases hZ0 : Z = 0
      · have e1 : ((Z : Int) == 0) = true := by rw [beq_iff_eq]; omega
        rw [hZ0] at HHIT2 HMORE
        clear hZ0
        go_wp2_with fail
        refine HHAS.out.mono ?_; rintro e Z3 ⟨rfl, hz3⟩
        have hbX3 := HBX2.out.trans (hz3.mono HBX2.out.size)
        have hbw3 := HBW2.out.trans (hz3.mono HBW2.out.size)
        have g3 := (hz3.block _ (Array.getElem?_eq_some_iff.1 G2.out).1).trans G2.out
        have q3 : Z3.cell? ⟨wr.heap.size, 0, none⟩ = some (.string (mk n)) := row_cell g3 0 _ rfl
        have HBX3 := Go.Lib.hid hbX3
        have HBW3 := Go.Lib.hid hbw3
        clear hbX3 hbw3
        clear hz3 g3
        cases bo with
        | true =>
          have hm2 := HMORE.out rfl
          have HM2 := Go.Lib.hid hm2
          clear hm2
          go_wp2_with fail
          go_roundw
          case rel => exact ⟨k + 1, by go_num, by omega, HM2.out, HBX3.out⟩
          case measure => simp [intOf]; omega
        | false =>
          have HRES := Go.Lib.hid (HHIT2.out rfl)
          go_wp2_with fail
          go_ret2
          exact ⟨by rw [HRES.out]; rfl, HBW3.out⟩
      · have e1 : ((Z : Int) == 0) = false := by rw [beq_eq_false_iff_ne]; omega
        have hm2 := HMORE.out (by rw [decide_eq_false hZ0]; rfl)
        have HM2 := Go.Lib.hid hm2
        clear hm2
        clear HHIT2
        go_wp2_with fail
        go_roundw
        case rel => exact ⟨k + 1, by go_num, by omega, HM2.out, HBX2.out⟩
        case measure => simp [intOf]; omega
    · have hke : k = M := by omega
      have hlt2 : ¬ (k : Int) < (M : Int) := by omega
      rw [hke] at hall2
      have hres := HALL.out hall2
      rw [← HDEF.out] at hres
      have HRES := Go.Lib.hid hres
      have HBW := Go.Lib.hid hbw
      clear hres hbw
      clear hke hall2 hbr
      go_wp2_with fail
      go_ret2
      exact ⟨by rw [HRES.out]; rfl, HBW.out⟩
end Go.Proofs.YtgbmclgnbbhcbaaGreat

/- Pick: the hints' order as a number: the closure that pick.Hints hands to the sort. -/
namespace Go.Proofs.YtgbmclgnbbhcbaaGreat
open Go.RowKit Go.Sort Go.Lib
set_option maxRecDepth 100000
set_option linter.unusedVariables false
set_option linter.unusedSimpArgs false

/-- the hints' order as a number -/
def cmpS (x y : Sv) : Int := if cmpN x.1 y.1 = 0 then compareInt x.2 y.2 else cmpN x.1 y.1
theorem cmpS_lt (x y : Sv) : decide (cmpS x y < 0) = ltS x y := by
  unfold cmpS ltS cmpN compareInt
  cases h1 : Nm.lessN x.1 y.1 with
  | true => simp
  | false =>
    cases h2 : Nm.lessN y.1 x.1 with
    | true => simp
    | false =>
      simp only [Bool.false_eq_true, if_false, if_true, Bool.false_or, Bool.not_false, Bool.true_and]
      by_cases h : x.2 < y.2
      · simp [h]
      · by_cases h3 : y.2 < x.2 <;> simp [h, h3]
set_option maxHeartbeats 1000000 in
theorem or2_any (a b : Int) (g : Nat) (W : World) (h0 : W.cell? ⟨g, 0, none⟩ = some (.int .i64 a)) (h1 : W.cell? ⟨g, 1, none⟩ = some (.int .i64 b)) :
    Calls Tryz.prog 35 #[.slice (some ⟨g, 0, none⟩) 2 2] W fun e w' => e = .returned (.int .i64 (if a = 0 then b else a)) ∧ W = w' := by
  have hr : Hid ((if a = 0 then b else a) = if a = 0 then b else a) := Go.Lib.hid rfl
  generalize hx : (if a = 0 then b else a) = r at hr ⊢
  have HX := Go.Lib.hid hx
  clear hx hr
  go_enter Tryz.func35, Tryz.ntmps35
  go_wp2_with fail
  go_loopw [8] (fun i wr => ∃ k : Nat, i = .int .i64 k ∧ k ≤ 2 ∧ (0 < k → a = 0) ∧ (1 < k → b = 0) ∧ W = wr) (fun i _ => 2 - (intOf i).toNat)
  case atStart => exact ⟨0, rfl, by omega, by omega, by omega, rfl⟩
  case round =>
    obtain ⟨k, rfl, hk, ha, hb, rfl⟩ := hrel
    by_cases hk0 : k = 0
    · subst hk0
      clear ha hb
      by_cases hz : a = 0
      · have e1 : (a != 0) = false := by simp [hz]
        have HZ := Go.Lib.hid hz
        clear hz
        go_wp2_with fail
        go_roundw
        case rel => exact ⟨1, by go_num, by omega, fun _ => HZ.out, by omega, trivial⟩
        case measure => simp [intOf]
      · have e1 : (a != 0) = true := by simp [hz]
        have HZ := Go.Lib.hid hz
        clear hz
        go_wp2_with fail
        go_ret
        exact ⟨ret_int (by rw [← HX.out, if_neg HZ.out]), rfl⟩
    · by_cases hk1 : k = 1
      · subst hk1
        have HA := Go.Lib.hid (ha (by omega))
        clear ha hb hk0
        by_cases hz : b = 0
        · have e1 : (b != 0) = false := by simp [hz]
          have HZ := Go.Lib.hid hz
          clear hz
          go_wp2_with fail
          go_roundw
          case rel => exact ⟨2, by go_num, by omega, fun _ => HA.out, fun _ => HZ.out, trivial⟩
          case measure => simp [intOf]
        · have e1 : (b != 0) = true := by simp [hz]
          have HZ := Go.Lib.hid hz
          clear hz
          go_wp2_with fail
          go_ret
          exact ⟨ret_int (by rw [← HX.out, if_pos HA.out]), rfl⟩
      · obtain rfl : k = 2 := by omega
        have HA := Go.Lib.hid (ha (by omega))
        have HBZ := Go.Lib.hid (hb (by omega))
        clear ha hb hk0 hk1
        go_wp2_with fail
        go_ret
        exact ⟨ret_int (by rw [← HX.out, if_pos HA.out, HBZ.out]), rfl⟩
set_option maxHeartbeats 4000000 in
theorem hint1_any (x y : Sv) (w : World) (hx : x.1.length ≤ maxLen) (hy : y.1.length ≤ maxLen) :
    Calls Tryz.prog 34 #[svV x, svV y] w fun e w' => e = .returned (.int .i64 (cmpS x y)) ∧ Below w.heap.size w w' := by
  have mixed : Tryz.prog.follows .mixedOrders = true := by kernel_rfl
  obtain ⟨xn, xa⟩ := x
  obtain ⟨yn, ya⟩ := y
  simp only at hx hy
  obtain ⟨X1, hX1⟩ : ∃ X, w.alloc (.cells #[.string (mk xn), .int .i64 xa] 40) = X := ⟨_, rfl⟩
  obtain ⟨X, hX⟩ : ∃ X, X1.alloc (.cells #[.string (mk yn), .int .i64 ya] 40) = X := ⟨_, rfl⟩
  have g1 : X1.heap[w.heap.size]? = some (.cells #[.string (mk xn), .int .i64 xa] 40 (0, 0)) := by rw [← hX1]; exact World.alloc_heap_new _ _
  have b1 : Below w.heap.size w X1 := by rw [← hX1]; exact (Below.refl _ w).alloc (Nat.le_refl _) _
  have g2 : X.heap[X1.heap.size]? = some (.cells #[.string (mk yn), .int .i64 ya] 40 (0, 0)) := by rw [← hX]; exact World.alloc_heap_new _ _
  have b2 : Below X1.heap.size X1 X := by rw [← hX]; exact (Below.refl _ X1).alloc (Nat.le_refl _) _
  have g1' := (b2.block _ (Array.getElem?_eq_some_iff.1 g1).1).trans g1
  have hbX := b1.trans (b2.mono b1.size)
  have l1 := (Array.getElem?_eq_some_iff.1 g1').1
  have l2 := (Array.getElem?_eq_some_iff.1 g2).1
  have D0 : ∀ z : Subtype (Below X.heap.size X), z.1.cell? ⟨w.heap.size, 0, none⟩ = some (.string (mk xn)) := BelowC.cell (W := X) (row_cell g1' 0 _ rfl) l1
  have D1 : ∀ z : Subtype (Below X.heap.size X), z.1.cell? ⟨w.heap.size, 1, none⟩ = some (.int .i64 xa) := BelowC.cell (W := X) (row_cell g1' 1 _ rfl) l1
  have D2 : ∀ z : Subtype (Below X.heap.size X), z.1.cell? ⟨X1.heap.size, 0, none⟩ = some (.string (mk yn)) := BelowC.cell (W := X) (row_cell g2 0 _ rfl) l2
  have D3 : ∀ z : Subtype (Below X.heap.size X), z.1.cell? ⟨X1.heap.size, 1, none⟩ = some (.int .i64 ya) := BelowC.cell (W := X) (row_cell g2 1 _ rfl) l2
  have hne : Nonempty (Subtype (Below X.heap.size X)) := ⟨⟨X, Below.refl _ _⟩⟩
  have hor := fun W => pkOrder_any xn yn W hx hy
  have hres : cmpS (xn, xa) (yn, ya) = if cmpN xn yn = 0 then compareInt xa ya else cmpN xn yn := rfl
  generalize cmpS (xn, xa) (yn, ya) = r at *
  generalize cmpN xn yn = c at *
  have HBC := Go.Lib.hid (show Below X.heap.size X X.drew from (Below.refl X.heap.size X).drew)
  have HOR := Go.Lib.hid hor
  have HBX := Go.Lib.hid hbX
  have HRES := Go.Lib.hid hres
  clear hor hbX hres
  clear g1 b1 g2 b2 g1'
  go_enter Tryz.func34, Tryz.ntmps34
  go_wp2_with fail
  refine Go.Mix.wp_region_mix (Es := [4, 9, 10, 11]) (Below X.heap.size X) mixed (by kernel_rfl) (Below.refl _ _).drew (fun _ => ?_)
  iterate 4 (refine Go.Mix.mix_step rfl (fun K hK => ?_); have HKK := Go.Lib.hid hK; clear hK; go_simp; refine HKK.out _ _ ?_; clear HKK K)
  refine Go.Mix.mix_eff rfl (fun K hK => ?_)
  have HKK := Go.Lib.hid hK
  clear hK
  go_simp
  refine (HOR.out _).mono ?_; rintro e wb0 ⟨rfl, hx⟩
  have hb := HBC.out.trans (hx.mono HBC.out.size)
  clear HBC
  have HBC := Go.Lib.hid hb
  clear hx hb
  go_simp
  refine HKK.out _ _ HBC.out ?_
  clear HKK K
  iterate 4 (refine Go.Mix.mix_step rfl (fun K hK => ?_); have HKK := Go.Lib.hid hK; clear hK; go_simp; refine HKK.out _ _ ?_; clear HKK K)
  refine Go.Mix.mix_eff rfl (fun K hK => ?_)
  have HKK := Go.Lib.hid hK
  clear hK
  go_simp
  refine (Tryz.cmp_Compare_int xa ya _).mono ?_; rintro e wc ⟨rfl, hwc⟩
  have hwc2 := hwc.symm
  clear hwc
  subst hwc2
  go_simp
  refine HKK.out _ _ HBC.out ?_
  clear HKK K
  refine Go.Mix.mix_eff rfl (fun K hK => ?_)
  have HKK := Go.Lib.hid hK
  clear hK
  go_simp
  refine HKK.out _ _ (HBC.out.alloc HBC.out.size _) ?_
  clear HKK K
  have hcell0 : (wb0.alloc (.cells #[.int .i64 c, .int .i64 (compareInt xa ya)] 3)).cell? ⟨wb0.heap.size, 0, none⟩ = some (.int .i64 c) := row_cell (World.alloc_heap_new _ _) 0 _ rfl
  have hcell1 : (wb0.alloc (.cells #[.int .i64 c, .int .i64 (compareInt xa ya)] 3)).cell? ⟨wb0.heap.size, 1, none⟩ = some (.int .i64 (compareInt xa ya)) := row_cell (World.alloc_heap_new _ _) 1 _ rfl
  have hbA := HBC.out.alloc HBC.out.size (.cells #[.int .i64 c, .int .i64 (compareInt xa ya)] 3)
  have ho2 := or2_any c (compareInt xa ya) wb0.heap.size _ hcell0 hcell1
  rw [← HRES.out] at ho2
  have HBA := Go.Lib.hid hbA
  have HO2 := Go.Lib.hid ho2
  clear hbA ho2
  clear hcell0 hcell1
  refine Go.Mix.mix_eff rfl (fun K hK => ?_)
  have HKK := Go.Lib.hid hK
  clear hK
  go_simp
  refine HO2.out.mono ?_; rintro e wc ⟨rfl, hwc⟩
  subst hwc
  go_simp
  refine HKK.out _ _ HBA.out ?_
  clear HKK K
  iterate 1 (refine Go.Mix.mix_step rfl (fun K hK => ?_); have HKK := Go.Lib.hid hK; clear hK; go_simp; refine HKK.out _ _ ?_; clear HKK K)
  refine Go.Mix.mix_nil ?_
  go_wp2_with fail
  go_ret
  exact ⟨rfl, HBX.out.trans (HBA.out.mono HBX.out.size)⟩
end Go.Proofs.YtgbmclgnbbhcbaaGreat

/- Pick: slices.Compact at servers. -/
namespace Go.Proofs.YtgbmclgnbbhcbaaGreat
open Go.RowKit Go.Sort Go.Lib
set_option maxRecDepth 100000
set_option linter.unusedVariables false
set_option linter.unusedSimpArgs false

theorem own_row2 {w : World} {base e g n cap : Nat} {cs : List Value} (h : w.ownsRow base e 2 (.slice (some ⟨g, 0, none⟩) n cap) n cs) : Row w g cs ∧ base ≤ g ∧ n ≤ cap ∧ cap ≤ maxLen := by
  obtain ⟨hl, h2⟩ := h
  rcases h2 with ⟨h2, _⟩ | ⟨g', cap', cur, hv, hb, hg, hn, hm, hs, ht⟩
  · cases h2
  · simp only [Value.slice.injEq, Option.some.injEq, Addr.mk.injEq] at hv
    obtain ⟨⟨rfl, _⟩, _, rfl⟩ := hv
    exact ⟨⟨cur, e, 0, 0, hg, by rw [hl]; exact ht, by omega, .inr rfl⟩, hb, hn, hm⟩
theorem Row_slc2 {w : World} {g n cap : Nat} {cs : List Value} (h : Row w g cs) (hn : cs.length = n * 2) (hc : n ≤ cap) (hm : cap ≤ maxLen) : SlC w 2 (.slice (some ⟨g, 0, none⟩) n cap) n cs :=
  ⟨hn, _, _, rfl, hc, hm, fun h => (by cases h), .inr ⟨g, 0, rfl, h.lt, fun j hj => by rw [Nat.zero_add]; exact h.cell (by omega)⟩⟩
theorem encV_set (l : List Sv) (j : Nat) (s : Sv) (hj : j < l.length) : ((encV l).set (j * 2) (.string (mk s.1))).set (j * 2 + 1) (.int .i64 s.2) = encV (l.set j s) := by
  induction l generalizing j with
  | nil => simp at hj
  | cons x l ih =>
    cases j with
    | zero => rfl
    | succ j =>
      have := ih j (by simpa using hj)
      simp only [encV, List.flatMap_cons, List.set_cons_succ] at this ⊢
      rw [← this, show (j + 1) * 2 = j * 2 + 1 + 1 by omega]
      rfl
theorem encV_take (l : List Sv) (k : Nat) : (encV l).take (k * 2) = encV (l.take k) := by
  induction l generalizing k with
  | nil => simp [encV]
  | cons x l ih =>
    cases k with
    | zero => simp [encV]
    | succ k =>
      have := ih k
      simp only [encV, List.flatMap_cons, List.take_succ_cons] at this ⊢
      rw [← this, show (k + 1) * 2 = k * 2 + 1 + 1 by omega]
      rfl
theorem zeroCells_one {z : Array Value} (hz : 0 < z.size) (h1 : ∀ v ∈ z.toList, v.oneCell' = true) (n : Nat) : ∀ v ∈ (Builtin.zeroCells z n).toList, v.oneCell' = true := by
  intro v hv
  simp only [Builtin.zeroCells, Array.toList_map, List.mem_map] at hv
  obtain ⟨i, _, rfl⟩ := hv
  have hi : i % z.size < z.size := Nat.mod_lt _ hz
  refine h1 _ ?_
  rw [getElem!_pos z _ hi]
  simp
/-- clear, at elements of any number of cells -/
theorem run_clear_rows {P : Program} (w : World) (t e ty : TypeId) (i : TypeInfo) (z : Value) (k : Nat) (ht : P.underlying t = some (.slice e)) (hi : P.info? e = some i) (hz : i.zero = some z) (hk : z.cells.size = k) (hk0 : 0 < k)
    (h1 : ∀ v ∈ z.cells.toList, v.oneCell' = true) (b o n c : Nat) (hn : 0 < n)
    (hc : ∀ j, j < n * k → (w.cell? ⟨b, o + j, none⟩).isSome = true) (hf : ∀ j, j < n * k → w.frozen? ⟨b, o + j, none⟩ = false) :
    (Builtin.clear_ #[t] ty #[.slice (some ⟨b, o, none⟩) n c]).run P w = .ok (.tuple #[]) (w.setCells b o (Builtin.zeroCells z.cells n).toList) := by
  have hl : (Builtin.zeroCells z.cells n).toList.length = n * k := by simp [Builtin.zeroCells, hk]
  have hst := run_storeCells_cells (P := P) b o (Builtin.zeroCells z.cells n).toList 0 w (by rw [hl]; simpa using hc) (by rw [hl]; simpa using hf) (zeroCells_one (by omega) h1 n)
  simp only [Nat.add_zero] at hst
  obtain ⟨m, rfl⟩ : ∃ m, n = m + 1 := ⟨n - 1, by omega⟩
  have hv : (zeroValue e).run P w = .ok z w := by simp [zeroValue, typeInfo, hi, hz]
  simp [Builtin.clear_, run_underlying ht, hv, hst]
theorem sv_ne' {x y : Sv} (h : ¬ x = y) : ((mk x.1).toList == (mk y.1).toList) = false ∨ (((mk x.1).toList == (mk y.1).toList) = true ∧ (x.2 == y.2) = false) := by
  by_cases h1 : x.1 = y.1
  · refine .inr ⟨beq_mk_true h1, ?_⟩
    rw [beq_eq_false_iff_ne]
    exact fun h2 => h (Prod.ext h1 h2)
  · exact .inl (beq_mk_false h1)
set_option maxHeartbeats 8000000 in
theorem compactV_any {w : World} {base : Nat} {v : Value} (l : List Sv) (hown : w.ownsRow base 40 2 v l.length (encV l)) (hn : l.length ≤ 100000) (hbase : base ≤ w.heap.size) :
    Calls Tryz.prog 38 #[v] w fun e w' => ∃ v2, e = .returned v2 ∧ Svs w' v2 (compactUpTo l.toArray l.length) ∧ Below base w w' := by
  have mixed : Tryz.prog.follows .mixedOrders = true := by kernel_rfl
  by_cases h2 : l.length < 2
  · obtain ⟨a, c, rfl, _, _⟩ := (SlC.of_owns hown).slice
    have hc : compactUpTo l.toArray l.length = l := by
      have := compactUpTo_all l.toArray l.length (fun j hj => keeps_lt_one l.toArray j (by omega))
      rw [this]
      have h := range_map_get l.toArray
      rwa [List.size_toArray, List.toList_toArray] at h
    rw [hc]
    have hs : Svs w (.slice a l.length c) l := SlC.of_owns hown
    clear hown hc
    generalize hN : l.length = N at *
    have hlt : (N : Int) < 2 := by omega
    have HS := Go.Lib.hid hs
    have HN := Go.Lib.hid hN
    clear hs hN
    go_enter Tryz.func38, Tryz.ntmps38
    go_wp2_with fail
    go_ret
    exact ⟨_, rfl, HS.out, Below.refl _ _⟩
  · obtain ⟨g, cap, rfl⟩ : ∃ g cap, v = .slice (some ⟨g, 0, none⟩) l.length cap := by
      rcases hown.2 with ⟨_, h⟩ | ⟨g, cap, cur, rfl, _⟩
      · omega
      · exact ⟨_, _, rfl⟩
    obtain ⟨hr, hbg, hnc, hcm⟩ := own_row2 hown
    have hge : ∀ j, j < l.length → l.toArray[j]! = l.getD j s0 := fun j hj => by
      rw [getElem!_pos l.toArray j (by simpa using hj), List.getD_eq_getElem?_getD, List.getElem?_eq_getElem hj]
      simp
    have hall : compactUpTo l.toArray l.length = l ∨ True := .inr trivial
    clear hall
    have hlen := encV_length l
    generalize hN : l.length = N at *
    have hlt0 : ¬ (N : Int) < 2 := by omega
    have HR := Go.Lib.hid hr
    have HGE := Go.Lib.hid hge
    have HN := Go.Lib.hid hN
    have HLEN := Go.Lib.hid hlen
    have HOWN := Go.Lib.hid hown
    clear hr hge hN hlen hown
    go_enter Tryz.func38, Tryz.ntmps38
    go_wp2_with fail
    go_loopw [3] (fun i wr => ∃ m : Nat, i = .int .i64 ((m : Int) + 1) ∧ m + 1 ≤ N ∧ (∀ j, j < m + 1 → keeps l.toArray j = true) ∧ Row wr g (encV l) ∧ Below base w wr) (fun i _ => N - (intOf i).toNat)
    case atStart => exact ⟨0, rfl, by omega, keeps_lt_one _, HR.out, Below.refl _ _⟩
    case round =>
      obtain ⟨m, rfl, hm, hall, hrow, hbr⟩ := hrel
      by_cases hlt : m + 1 < N
      · have c10 := hrow.cell (j := (m + 1) * 2) (by rw [HLEN.out]; omega)
        have c11 := hrow.cell (j := (m + 1) * 2 + 1) (by rw [HLEN.out]; omega)
        have c00 := hrow.cell (j := m * 2) (by rw [HLEN.out]; omega)
        have c01 := hrow.cell (j := m * 2 + 1) (by rw [HLEN.out]; omega)
        rw [(encV_get l (m + 1) (by rw [HN.out]; exact hlt)).1] at c10
        rw [(encV_get l (m + 1) (by rw [HN.out]; exact hlt)).2] at c11
        rw [(encV_get l m (by rw [HN.out]; omega)).1] at c00
        rw [(encV_get l m (by rw [HN.out]; omega)).2] at c01
        have hx := HGE.out (m + 1) hlt
        have hy := HGE.out m (by omega)
        have wA : IntKind.i64.wrap ((m : Int) + 1 - 1) = (m : Int) := by rw [show (m : Int) + 1 - 1 = m by omega]; exact wrapi (by omega) (by omega)
        have wB : IntKind.i64.wrap (m : Int) = (m : Int) := wrapi (by omega) (by omega)
        have wC : IntKind.i64.wrap ((m : Int) + 1 + 1) = (m : Int) + 1 + 1 := wrapi (by omega) (by omega)
        have hlt2 : (m : Int) + 1 < (N : Int) := by omega
        have p0 : (0 : Int) ≤ (m : Int) + 1 := by omega
        have p1 : ((m : Int) + 1).toNat = m + 1 := by omega
        have p2 : (m : Int) < (N : Int) := by omega
        generalize l.getD (m + 1) s0 = x at *
        generalize l.getD m s0 = y at *
        have hbn := fun q => hbr.trans (show Below base wr (wr.drewN q) from ⟨rfl, rfl, rfl, Nat.le_refl _, fun _ _ => rfl⟩)
        have HALL := Go.Lib.hid hall
        have HROW := Go.Lib.hid hrow
        have HBN := Go.Lib.hid hbn
        have HX := Go.Lib.hid hx
        have HY := Go.Lib.hid hy
        clear hall hrow hbn hx hy
        clear hbr
        by_cases hxy : x = y
        · subst hxy
          have hkd : keeps l.toArray (m + 1) = false := keeps_neg (by omega) (by rw [HX.out, Nat.add_sub_cancel, HY.out])
          have hI := CompInv.start HALL.out hkd
          have hcap : ¬ cap = m + 1 := by omega
          have q1 : (m : Int) + 1 ≤ (N : Int) := by omega
          have HI := Go.Lib.hid hI
          clear hI
          clear hkd
          go_wp2_with fail
          go_quiet (fail)
          go_wp2_with fail
          clear c10 c11 c00 c01
          go_loopw [3, 5] (fun s3 s5 wq => ∃ (kk p : Nat) (dk : Array Sv), s3 = .int .i64 (kk : Int) ∧ s5 = .int .i64 ((p : Int) + 1) ∧ m + 1 + (p + 1) ≤ N ∧ CompInv l.toArray (m + 1 + (p + 1)) kk dk ∧ Row wq g (encV dk.toList) ∧ Below base w wq) (fun _ s5 _ => N - (intOf s5).toNat)
          case atStart => exact ⟨m + 1, 0, l.toArray, by go_num, rfl, by omega, HI.out, HROW.out, HBN.out _⟩
          case round =>
            clear HI HROW HBN HX HY HALL
            obtain ⟨kk, p, dk, rfl, rfl, hp, hI, hrow, hbr⟩ := hrel
            generalize wr = wq at *
            have hds : dk.size = N := by rw [hI.size, List.size_toArray, HN.out]
            have hkl := hI.lt
            have hlk : dk.toList.length = N := by rw [Array.length_toList, hds]
            have hdk : ∀ j, j < N → dk.toList.getD j s0 = dk[j]! := fun j hj => by
              rw [getElem!_pos dk j (by omega), List.getD_eq_getElem?_getD, List.getElem?_eq_getElem (by omega)]
              simp
            have hel := encV_length dk.toList
            rw [hlk] at hel
            by_cases hq : m + 1 + (p + 1) < N
            · have c10 := hrow.cell (j := (m + 1) * 2 + (p + 1) * 2) (by omega)
              have c11 := hrow.cell (j := (m + 1) * 2 + (p + 1) * 2 + 1) (by omega)
              have c00 := hrow.cell (j := (m + 1) * 2 + p * 2) (by omega)
              have c01 := hrow.cell (j := (m + 1) * 2 + p * 2 + 1) (by omega)
              have o0 := hrow.cell (j := kk * 2) (by omega)
              have z0 := hrow.free (j := kk * 2) (by omega)
              have t10 := encV_get dk.toList (m + 1 + (p + 1)) (by omega)
              have t00 := encV_get dk.toList (m + 1 + p) (by omega)
              have tk := encV_get dk.toList kk (by omega)
              have hu := hI.high (m + 1 + (p + 1)) (by omega)
              have hv := hI.high (m + 1 + p) (by omega)
              rw [hdk _ (by omega), hu] at t10
              rw [hdk _ (by omega), hv] at t00
              rw [hdk _ (by omega)] at tk
              rw [show (m + 1 + (p + 1)) * 2 = (m + 1) * 2 + (p + 1) * 2 by omega] at t10
              rw [show (m + 1 + p) * 2 = (m + 1) * 2 + p * 2 by omega] at t00
              rw [t10.1] at c10
              rw [t10.2] at c11
              rw [t00.1] at c00
              rw [t00.2] at c01
              rw [tk.1] at o0
              have hlt3 : (p : Int) + 1 < ((N - (m + 1) : Nat) : Int) := by omega
              have hlt4 : (p : Int) < ((N - (m + 1) : Nat) : Int) := by omega
              have hlt5 : (kk : Int) < (N : Int) := by omega
              have wA2 : IntKind.i64.wrap ((p : Int) + 1 - 1) = (p : Int) := by rw [show (p : Int) + 1 - 1 = p by omega]; exact wrapi (by omega) (by omega)
              have wB2 : IntKind.i64.wrap (p : Int) = (p : Int) := wrapi (by omega) (by omega)
              have wC2 : IntKind.i64.wrap ((p : Int) + 1 + 1) = (p : Int) + 1 + 1 := wrapi (by omega) (by omega)
              have wD2 : IntKind.i64.wrap ((kk : Int) + 1) = (kk : Int) + 1 := wrapi (by omega) (by omega)
              have r0 : (0 : Int) ≤ (p : Int) + 1 := by omega
              have r1 : ((p : Int) + 1).toNat = p + 1 := by omega
              have hbn := fun q => hbr.trans (show Below base wq (wq.drewN q) from ⟨rfl, rfl, rfl, Nat.le_refl _, fun _ _ => rfl⟩)
              have hel2 : kk < dk.toList.length := by omega
              generalize hxe : l.toArray[m + 1 + (p + 1)]! = x at *
              generalize hye : l.toArray[m + 1 + p]! = y at *
              obtain ⟨ko, hko⟩ : ∃ ko, dk[kk]! = ko := ⟨_, rfl⟩
              rw [hko] at o0 tk
              have HXE := Go.Lib.hid hxe
              have HYE := Go.Lib.hid hye
              have HI := Go.Lib.hid hI
              have HROW := Go.Lib.hid hrow
              have HBN := Go.Lib.hid hbn
              clear hxe hye hI hrow hbn
              clear t10 t00 hu hv hdk hko hbr
              by_cases hxy : x = y
              · subst hxy
                have hkn : keeps l.toArray (m + 1 + (p + 1)) = false := keeps_neg (by omega) (by rw [HXE.out, show m + 1 + (p + 1) - 1 = m + 1 + p by omega, HYE.out])
                have hI2 := HI.out.skip hkn
                have HI2 := Go.Lib.hid hI2
                clear hI2
                clear hkn tk o0 z0
                go_wp2_with fail
                go_quiet (fail)
                go_wp2_with fail
                go_roundw
                case rel => exact ⟨kk, p + 1, dk, by go_num, by go_num, by omega, HI2.out, HROW.out, HBN.out _⟩
                case measure => simp [intOf]; omega
              · have hc := sv_ne' hxy
                have hkn : keeps l.toArray (m + 1 + (p + 1)) = true := keeps_pos (by rw [HXE.out, show m + 1 + (p + 1) - 1 = m + 1 + p by omega, HYE.out]; exact hxy)
                have hI2 := HI.out.keep (by rw [List.size_toArray, HN.out]; exact hq) hkn
                rw [HXE.out] at hI2
                have hr1 := fun q => Row.set (w := wq.drewN q) HROW.out (kk * 2) (.string (mk x.1))
                have o1 := fun q => (hr1 q).cell (j := kk * 2 + 1) (by rw [List.length_set]; omega)
                have z1 := fun q => (hr1 q).free (j := kk * 2 + 1) (by rw [List.length_set]; omega)
                simp only [List.getElem?_set_ne (show kk * 2 ≠ kk * 2 + 1 by omega), tk.2] at o1
                have hr2 := fun q => (hr1 q).set (kk * 2 + 1) (.int .i64 x.2)
                simp only [encV_set dk.toList kk x hel2] at hr2
                have hset : dk.toList.set kk x = (dk.setIfInBounds kk x).toList := by simp
                simp only [hset] at hr2
                have hb2 := fun q => ((HBN.out q).setCell (p := ⟨g, kk * 2, none⟩) hbg (.string (mk x.1))).setCell (p := ⟨g, kk * 2 + 1, none⟩) hbg (.int .i64 x.2)
                have HI2 := Go.Lib.hid hI2
                have HR2 := Go.Lib.hid hr2
                have HB2 := Go.Lib.hid hb2
                clear hI2 hr2 hb2
                clear hxy hkn hr1 hset tk
                rcases hc with e1 | ⟨e1, e2⟩
                all_goals
                  go_wp2_with fail
                  go_quiet (fail)
                  go_wp2_with fail
                  go_roundw
                  case rel => exact ⟨kk + 1, p + 1, _, by go_num, by go_num, by omega, HI2.out, HR2.out _, HB2.out _⟩
                  case measure => simp [intOf]; omega
            · have hend : m + 1 + (p + 1) = N := by omega
              have hcp : compactUpTo l.toArray N = dk.toList.take kk := by
                rw [← hend]
                refine List.ext_getElem? fun j => ?_
                by_cases hj : j < kk
                · rw [hI.low j hj, List.getElem?_take_of_lt hj, Array.getElem?_toList, Array.getElem?_eq_getElem (by omega), getElem!_pos dk j (by omega)]
                · rw [List.getElem?_eq_none (by rw [hI.len]; omega), List.getElem?_eq_none (by rw [List.length_take]; omega)]
              obtain ⟨i0, hi0, hz0⟩ : ∃ i0, Tryz.prog.info? 40 = some i0 ∧ i0.zero = some (.agg #[.string ⟨#[]⟩, .int .i64 0]) := by
                cases h : Tryz.prog.info? 40 with
                | none => have := infoSv; rw [h] at this; cases this
                | some i0 =>
                  have := infoSv
                  rw [h] at this
                  simp only [Option.map_some, Option.some.injEq, Prod.mk.injEq] at this
                  exact ⟨i0, rfl, this.1⟩
              have hcl : ∀ ty, (Builtin.clear_ #[28] ty #[.slice (some ⟨g, kk * 2, none⟩) (N - kk) (cap - kk)]).run Tryz.prog wq = .ok (.tuple #[]) (wq.setCells g (kk * 2) (Builtin.zeroCells (Value.agg #[.string ⟨#[]⟩, .int .i64 0]).cells (N - kk)).toList) := fun ty =>
                run_clear_rows wq _ 40 ty i0 _ 2 Tryz.underlying28 hi0 hz0 rfl (by decide) (by intro u hu; simp [Value.cells] at hu; rcases hu with rfl | rfl <;> rfl) g (kk * 2) (N - kk) (cap - kk) (by omega)
                  (fun j hj => by rw [hrow.cell (by omega), List.getElem?_eq_getElem (by omega)]; rfl) (fun j hj => hrow.free (by omega))
              generalize hZ : (Builtin.zeroCells (Value.agg #[.string ⟨#[]⟩, .int .i64 0]).cells (N - kk)).toList = Zs at *
              have hZl : Zs.length = (N - kk) * 2 := by rw [← hZ]; simp [Builtin.zeroCells, Value.cells]
              have hr9 := Row_pre (Row_pre (Row.setCells Zs (kk * 2) (encV dk.toList) wq hrow (by omega)))
              rw [encV_take, ← hcp] at hr9
              have hcl2 : (compactUpTo l.toArray N).length = kk := by rw [hcp, List.length_take]; omega
              have hs9 : Svs (wq.setCells g (kk * 2) Zs) (.slice (some ⟨g, 0, none⟩) kk cap) (compactUpTo l.toArray N) := by
                unfold Svs
                rw [hcl2]
                exact Row_slc2 hr9 (by rw [encV_length, hcl2]) (by omega) hcm
              have hb9 := below_setCells hbg Zs (kk * 2) w wq hbr
              have hq3 : ¬ (p : Int) + 1 < ((N - (m + 1) : Nat) : Int) := by omega
              have hk1 : ¬ cap = kk := by omega
              have hk2 : (kk : Int) ≤ (N : Int) := by omega
              have hk3 : (kk : Int) ≤ (cap : Int) := by omega
              have HS9 := Go.Lib.hid hs9
              have HB9 := Go.Lib.hid hb9
              clear hs9 hb9
              clear hr9 hcl2 hcp hZ hZl hrow hI hbr hend hdk
              go_wp2_with fail
              go_ret
              exact ⟨_, rfl, HS9.out, HB9.out⟩
        · have hc := sv_ne' hxy
          have hk : keeps l.toArray (m + 1) = true := keeps_pos (by rw [HX.out, Nat.add_sub_cancel, HY.out]; exact hxy)
          have HK := Go.Lib.hid hk
          clear hk
          clear hxy
          rcases hc with e1 | ⟨e1, e2⟩
          all_goals
            go_wp2_with fail
            go_quiet (fail)
            go_wp2_with fail
            go_roundw
            case rel => exact ⟨m + 1, by go_num, by omega, fun j hj => (if h : j < m + 1 then HALL.out j h else by rw [show j = m + 1 by omega]; exact HK.out), HROW.out, HBN.out _⟩
            case measure => simp [intOf]; omega
      · have hend : m + 1 = N := by omega
        rw [hend] at hall
        have hc : compactUpTo l.toArray N = l := by
          have h1 := compactUpTo_all l.toArray N hall
          have h := range_map_get l.toArray
          rw [List.size_toArray, List.toList_toArray, HN.out] at h
          rw [h1, h]
        have hs9 : Svs wr (.slice (some ⟨g, 0, none⟩) N cap) (compactUpTo l.toArray N) := by
          rw [hc]
          unfold Svs
          rw [HN.out]
          exact Row_slc2 hrow (by rw [HLEN.out]) hnc hcm
        have hq3 : ¬ (m : Int) + 1 < (N : Int) := by omega
        have HS9 := Go.Lib.hid hs9
        have HB9 := Go.Lib.hid hbr
        clear hs9 hbr
        clear hc hall hrow hend
        go_wp2_with fail
        go_ret
        exact ⟨_, rfl, HS9.out, HB9.out⟩
end Go.Proofs.YtgbmclgnbbhcbaaGreat

/- Pick: freshetalike.Servers: whether two lists of servers are the same; freshetlaw15.two. -/
namespace Go.Proofs.YtgbmclgnbbhcbaaGreat
open Go.RowKit Go.Sort Go.Lib
set_option maxRecDepth 100000
set_option linter.unusedVariables false
set_option linter.unusedSimpArgs false

theorem sv_ne {x y : Sv} (h : x ≠ y) : ((mk x.1).toList == (mk y.1).toList) = false ∨ (((mk x.1).toList == (mk y.1).toList) = true ∧ (x.2 == y.2) = false) := by
  by_cases h1 : x.1 = y.1
  · refine .inr ⟨beq_mk_true h1, ?_⟩
    rw [beq_eq_false_iff_ne]
    exact fun h2 => h (Prod.ext h1 h2)
  · exact .inl (beq_mk_false h1)
set_option maxHeartbeats 4000000 in
theorem sameSvs_any (x y : List Sv) (a1 a2 : Option Addr) (c1 c2 : Nat) (w : World) (hx : Svs w (.slice a1 x.length c1) x) (hy : Svs w (.slice a2 y.length c2) y) (hnx : x.length ≤ 1099511627776) :
    Calls Tryz.prog 16 #[.slice a1 x.length c1, .slice a2 y.length c2] w fun e w' => e = .returned (.bool (decide (x = y))) ∧ Below w.heap.size w w' := by
  have mixed : Tryz.prog.follows .mixedOrders = true := by kernel_rfl
  by_cases hl : x.length = y.length
  · have hst := fun (k : Nat) (hk : ∀ j, j < k → x.getD j s0 = y.getD j s0) (he : k = x.length) => (show x = y from List.ext_getElem hl fun j h1 h2 => by
      have := hk j (by omega)
      rwa [List.getD_eq_getElem?_getD, List.getD_eq_getElem?_getD, List.getElem?_eq_getElem h1, List.getElem?_eq_getElem h2] at this)
    have hne := fun (k : Nat) (hk : x.getD k s0 ≠ y.getD k s0) => (show decide (x = y) = false from decide_eq_false fun e => hk (by rw [e]))
    rw [← hl] at hy ⊢
    generalize hN : x.length = N at *
    generalize hr : decide (x = y) = r at *
    have HR := Go.Lib.hid hr
    have HB := Go.Lib.hid (Below.refl w.heap.size w)
    have HST := Go.Lib.hid hst
    have HNE := Go.Lib.hid hne
    have HX := Go.Lib.hid hx
    have HY := Go.Lib.hid hy
    have HN := Go.Lib.hid hN
    clear hst hne hx hy hN
    clear hr
    go_enter Tryz.func16, Tryz.ntmps16
    go_wp2_with fail
    go_loopw [5] (fun i wr => ∃ k : Nat, i = .int .i64 k ∧ k ≤ N ∧ (∀ j, j < k → x.getD j s0 = y.getD j s0) ∧ Below w.heap.size w wr) (fun i _ => N - (intOf i).toNat)
    case atStart => exact ⟨0, rfl, Nat.zero_le _, by omega, HB.out⟩
    case round =>
      clear HB
      obtain ⟨k, rfl, hk, hall, hbr⟩ := hrel
      by_cases hlt : k < N
      · have hx2 := HX.out.below hbr (Nat.le_refl _)
        have hy2 := HY.out.below hbr (Nat.le_refl _)
        obtain ⟨b, off, rfl, hbb, hcell⟩ := Svs.at hx2 (by rw [HN.out]; omega)
        obtain ⟨d0, d1⟩ := hcell k (by rw [HN.out]; exact hlt)
        obtain ⟨b', off', rfl, hbb', hcell'⟩ := Svs.at hy2 (by rw [← hl]; omega)
        obtain ⟨f0, f1⟩ := hcell' k (by rw [← hl]; exact hlt)
        have hne := HNE.out k
        have hmore : x.getD k s0 = y.getD k s0 → ∀ j, j < k + 1 → x.getD j s0 = y.getD j s0 := fun h j hj => by
          by_cases e : j = k
          · rw [e]; exact h
          · exact hall j (by omega)
        have wk : IntKind.i64.wrap ((k : Int) + 1) = (k : Int) + 1 := wrapi (by omega) (by omega)
        have hlt2 : (k : Int) < (N : Int) := by omega
        clear hcell hcell' hx2 hy2 hall
        generalize x.getD k s0 = u at *
        generalize y.getD k s0 = v at *
        have HB := Go.Lib.hid hbr
        clear hbr
        have hbn := fun q => HB.out.trans ((Below.refl wr.heap.size wr).mono HB.out.size) |>.trans (show Below w.heap.size wr (wr.drewN q) from ⟨rfl, rfl, rfl, Nat.le_refl _, fun _ _ => rfl⟩)
        have HBN := Go.Lib.hid hbn
        clear hbn
        by_cases huv : u = v
        · subst huv
          have hm2 := hmore rfl
          have HM2 := Go.Lib.hid hm2
          clear hm2
          clear hmore hne
          go_wp2_with fail
          go_quiet (fail)
          go_wp2_with fail
          go_roundw
          case rel => exact ⟨k + 1, by go_num, by omega, HM2.out, HBN.out _⟩
          case measure => simp [intOf]; omega
        · have hres := hne huv
          have hc := sv_ne huv
          have HRES := Go.Lib.hid hres
          clear hres
          clear hmore hne huv
          rcases hc with e1 | ⟨e1, e2⟩
          all_goals
            go_wp2_with fail
            go_quiet (fail)
            go_wp2_with fail
            go_ret
            exact ⟨ret_bool HRES.out.symm, HBN.out _⟩
      · have hke : k = N := by omega
        have hres := HST.out k hall hke
        have hlt2 : ¬ (k : Int) < (N : Int) := by omega
        have HB := Go.Lib.hid hbr
        have HRES := Go.Lib.hid hres
        clear hbr hres
        clear hke hall
        go_wp2_with fail
        go_ret
        exact ⟨ret_bool (by rw [← HR.out]; exact (decide_eq_true HRES.out).symm), HB.out⟩
  · have hr : decide (x = y) = false := decide_eq_false fun e => hl (by rw [e])
    have e1 : ((x.length : Int) != (y.length : Int)) = true := by simp only [bne_iff_ne]; omega
    rw [hr]
    clear hr hl
    generalize x.length = N at *
    generalize y.length = M at *
    go_enter Tryz.func16, Tryz.ntmps16
    go_wp2_with fail
    go_ret
    exact ⟨rfl, Below.refl _ _⟩
end Go.Proofs.YtgbmclgnbbhcbaaGreat

/- Pick: servers are sorted: slices.SortFunc at []api.Server with pick.Hints's closure. -/
namespace Go.Proofs.YtgbmclgnbbhcbaaGreat
open Go.RowKit Go.Sort Go.Lib
set_option maxRecDepth 100000
set_option linter.unusedVariables false
set_option linter.unusedSimpArgs false

theorem own_putv {w : World} {base e sz g n cap : Nat} {xs : List Value} (h : w.ownsRow base e sz (.slice (some ⟨g, 0, none⟩) n cap) n xs) (d : Array Value) (hd : d.size = n * sz) (k : Nat) (os : Array Obj) : (grow (putRow id (Sort.ahead w k) g 0 d) os).ownsRow base e sz (.slice (some ⟨g, 0, none⟩) n cap) n d.toList := by
  obtain ⟨h1, h2⟩ := h
  refine ⟨by rw [Array.length_toList, hd], ?_⟩
  rcases h2 with ⟨h2, _⟩ | ⟨g', cap', cur, hv, hb, hg, hn, hm, hs, ht⟩
  · cases h2
  · simp only [Value.slice.injEq, Option.some.injEq, Addr.mk.injEq] at hv
    obtain ⟨⟨rfl, _⟩, _, rfl⟩ := hv
    have hle : n * sz ≤ cap * sz := Nat.mul_le_mul_right _ hn
    refine .inr ⟨g, cap, putCells id 0 d cur, rfl, hb, put_heap hg d k 0 os, hn, hm, by unfold putCells; rw [Array.size_mapIdx]; exact hs, ?_⟩
    refine List.ext_getElem? fun i => ?_
    by_cases hi2 : i < n * sz
    · rw [List.getElem?_take_of_lt hi2, Array.getElem?_toList, Array.getElem?_toList]
      unfold putCells
      rw [Array.getElem?_mapIdx, Array.getElem?_eq_getElem (by omega), Array.getElem?_eq_getElem (by omega), Option.map_some, if_pos ⟨Nat.zero_le _, by omega⟩, Nat.sub_zero, getElem!_pos d i (by omega)]
      rfl
    · rw [List.getElem?_eq_none (by rw [List.length_take]; omega), List.getElem?_eq_none (by simp; omega)]
/-- elements with proofs -/
def sbL {α : Type} {P : α → Prop} : (l : List α) → (∀ x ∈ l, P x) → List { x // P x }
  | [], _ => []
  | x :: l, h => ⟨x, h x (List.mem_cons_self ..)⟩ :: sbL l fun y hy => h y (List.mem_cons_of_mem _ hy)
theorem sbL_val {α : Type} {P : α → Prop} : ∀ (l : List α) (h : ∀ x ∈ l, P x), (sbL l h).map (·.1) = l
  | [], _ => rfl
  | x :: l, h => by unfold sbL; rw [List.map_cons, sbL_val l]
theorem sbL_len {α : Type} {P : α → Prop} (l : List α) (h : ∀ x ∈ l, P x) : (sbL l h).length = l.length := by
  have := congrArg List.length (sbL_val l h)
  rwa [List.length_map] at this
theorem insL_sub {α : Type} [DecidableEq α] {P : α → Prop} {lt : α → α → Bool} (x : { x // P x }) : ∀ (l : List { x // P x }), (insL (fun x y : { x // P x } => lt x.1 y.1) x l).map (·.1) = insL lt x.1 (l.map (·.1))
  | [] => rfl
  | y :: l => by
    simp only [insL, List.map_cons]
    by_cases h : lt y.1 x.1 = true
    · rw [if_pos h, if_pos h, List.map_cons, insL_sub x l]
    · rw [if_neg h, if_neg h]
      by_cases h2 : y = x
      · rw [if_pos h2, if_pos (by rw [h2])]; rfl
      · rw [if_neg h2, if_neg (fun e => h2 (Subtype.ext e))]; rfl
theorem insAll_sub {α : Type} [DecidableEq α] {P : α → Prop} {lt : α → α → Bool} (l : List { x // P x }) : (insAll (fun x y : { x // P x } => lt x.1 y.1) l).map (·.1) = insAll lt (l.map (·.1)) := by
  have h : ∀ (l o : List { x // P x }), (l.foldl (fun o x => insL (fun x y : { x // P x } => lt x.1 y.1) x o) o).map (·.1) = (l.map (·.1)).foldl (fun o x => insL lt x o) (o.map (·.1)) := fun l => by
    induction l with
    | nil => intro o; rfl
    | cons x l ih => intro o; rw [List.foldl_cons, ih, insL_sub]; rfl
  exact h l []
abbrev SvP := { x : Sv // PS x }
instance : Inhabited SvP := ⟨⟨([0], 0), ⟨by decide +kernel, by decide +kernel⟩, by decide, by decide⟩⟩
def encW (x : SvP) : List Value := [.string (mk x.1.1), .int .i64 x.1.2]
theorem od_svp : Od (fun x y : SvP => ltS x.1 y.1) fun _ => True where
  irr x _ := od_servers.irr x.1 x.2
  tr x y z _ _ _ := od_servers.tr _ _ _ x.2 y.2 z.2
  tot x y _ _ h1 h2 := Subtype.ext (od_servers.tot _ _ x.2 y.2 h1 h2)
theorem lt_cmpS : (ltOf fun x y : SvP => cmpS x.1 y.1) = fun x y : SvP => ltS x.1 y.1 := by
  funext x y
  unfold ltOf
  exact cmpS_lt _ _
theorem flat_enc (d : Array SvP) : (flatK encW 2 d).toList = encV (d.toList.map (·.1)) := by
  refine List.ext_getElem? fun i => ?_
  have hl : (encV (d.toList.map (·.1))).length = d.size * 2 := by
    rw [encV_length, List.length_map]
    rfl
  by_cases hi : i < d.size * 2
  · have hsz : (flatK encW 2 d).size = d.size * 2 := by simp
    rw [Array.getElem?_toList, Array.getElem?_eq_getElem (by omega), ← getElem!_pos (flatK encW 2 d) i (by omega), get_flatK _ _ _ i hi]
    have hj : i / 2 < d.size := by omega
    have hg := encV_get (d.toList.map (·.1)) (i / 2) (by simpa using hj)
    have hd : (d.toList.map (·.1)).getD (i / 2) s0 = (d[i / 2]!).1 := by
      rw [getElem!_pos d (i / 2) hj, List.getD_eq_getElem?_getD, List.getElem?_map, Array.getElem?_toList, Array.getElem?_eq_getElem hj]
      rfl
    rw [hd] at hg
    rcases Nat.mod_two_eq_zero_or_one i with h | h
    · rw [h]
      have e : i = i / 2 * 2 := by omega
      conv => rhs; rw [e]
      rw [hg.1]
      rfl
    · rw [h]
      have e : i = i / 2 * 2 + 1 := by omega
      conv => rhs; rw [e]
      rw [hg.2]
      rfl
  · have h1 : (flatK encW 2 d).toList.length ≤ i := by rw [Array.length_toList, size_flatK]; omega
    have h2 : (encV (d.toList.map (·.1))).length ≤ i := by rw [hl]; omega
    rw [List.getElem?_eq_none h1, List.getElem?_eq_none h2]
theorem cmpLaysV (blk off size : Nat) (w : World) : CmpLays Tryz.prog 34 #[] encW 2 (fun x y : SvP => cmpS x.1 y.1) blk off size w := fun m os dk hs x y =>
  Go.Drw.calls_grow (hint1_any x.1 y.1 _ (by have := pn_len x.2.1; unfold maxLen; omega) (by have := pn_len y.2.1; unfold maxLen; omega))
theorem sortV_any {w : World} {base g cap : Nat} {l : List Sv} (hl : ∀ x ∈ l, PS x) (hown : w.ownsRow base 40 2 (.slice (some ⟨g, 0, none⟩) l.length cap) l.length (encV l)) (hn : l.length < 4611686018427387904) :
    Calls Tryz.prog 33 #[.slice (some ⟨g, 0, none⟩) l.length cap, .func (.func 34) #[] #[]] w fun e w' => e = .returned (.tuple #[]) ∧
      ∃ l' : List Sv, l'.length = l.length ∧ compactUpTo l'.toArray l'.length = insAll ltS l ∧ w'.ownsRow base 40 2 (.slice (some ⟨g, 0, none⟩) l.length cap) l.length (encV l') ∧ ∀ B w0, B ≤ g → B ≤ w.heap.size → Below B w0 w → Below B w0 w' := by
  obtain ⟨hr, hbg, hnc, hcm⟩ := own_row2 hown
  have hsz : (sbL l hl).toArray.size = l.length := by rw [List.size_toArray, sbL_len]
  have hfl : (flatK encW 2 (sbL l hl).toArray).toList = encV l := by rw [flat_enc, List.toList_toArray, sbL_val]
  have hH : HoldsK encW 2 w g 0 (sbL l hl).toArray := by
    unfold HoldsK
    refine holds_of (enc := id) ?_
    rw [List.map_id, hfl]
    exact hr
  have h := AnyQ.slices_SortFunc (α := SvP) Tryz.sortSv 2 Tryz.isAgg40 Tryz.sizeOf40 encW (fun _ => rfl) (fun x v hv => by simp [encW] at hv; rcases hv with rfl | rfl <;> rfl) (fun x y : SvP => cmpS x.1 y.1) (by rw [lt_cmpS]; exact swo_of od_svp) 34 #[] g 0 cap (sbL l hl).toArray w (enters_of Tryz.func34 (by kernel_rfl) rfl) (cmpLaysV _ _ _ _) hH hr.lt (by rw [hsz]; exact hn)
  rw [hsz] at h
  refine h.mono ?_
  rintro e w' ⟨rfl, d, n, os, hp, hs, rfl⟩
  rw [lt_cmpS] at hs
  have hds : d.size = l.length := by rw [hp.1, hsz]
  have hop := own_putv hown (flatK encW 2 d) (by simp [hds]) n os
  rw [flat_enc] at hop
  refine ⟨rfl, d.toList.map (·.1), by rw [List.length_map, Array.length_toList, hds], ?_, by unfold sortWorldK putRowK; exact hop, fun B w0 h1 h2 h3 => by unfold sortWorldK putRowK; exact below_put (enc := id) h3 h1 h2 _ n os⟩
  have hcm2 := compact_map (fun x : SvP => x.1) (fun a b h => Subtype.ext h) d
  have he : (d.toList.map (·.1)).toArray = d.map (·.1) := by rw [← Array.toList_map, Array.toArray_toList]
  rw [he, show (d.toList.map (·.1)).length = (d.map (·.1)).size by rw [List.length_map, Array.length_toList, Array.size_map], hcm2, sort_compact (P := fun _ => True) od_svp (d := (sbL l hl).toArray) (fun _ _ => trivial) (by rw [hsz]; exact hp) (by rw [hsz]; exact hs), insAll_sub, List.toList_toArray, sbL_val]
end Go.Proofs.YtgbmclgnbbhcbaaGreat

/- Pick: the contract of pick.Hints. -/
namespace Go.Proofs.YtgbmclgnbbhcbaaGreat
open Go.RowKit Go.Sort Go.Lib
set_option maxRecDepth 100000
set_option linter.unusedVariables false
set_option linter.unusedSimpArgs false

theorem hintL_len (l : List Sv) : (hintL l).length ≤ l.length := List.length_filterMap_le _ _
def okH (s : Sv) : Bool := Nm.valid s.1 && decide (0 ≤ s.2) && decide (s.2 ≤ 4294967295)
theorem hintL_take {l : List Sv} {k : Nat} (h : k < l.length) : hintL (l.take (k + 1)) = hintL (l.take k) ++ (if okH (l.getD k s0) then [(Nm.foldN (l.getD k s0).1, (l.getD k s0).2)] else []) := by
  unfold hintL
  rw [List.take_succ_eq_append_getElem h, List.filterMap_append, List.getD_eq_getElem?_getD, List.getElem?_eq_getElem h]
  congr 1
  simp only [Option.getD_some, List.filterMap_cons, List.filterMap_nil]
  unfold okH
  split
  · rename_i h1
    split at h1
    · cases h1
    · rename_i h2
      rw [if_neg h2]
  · rename_i x h1
    split at h1
    · rename_i h2
      rw [if_pos h2]
      simp only [Option.some.injEq] at h1
      rw [h1]
    · cases h1
theorem sortCV_any {w w0 : World} {base : Nat} {v : Value} {l : List Sv} (hl : ∀ x ∈ l, PS x) (hown : w.ownsRow base 40 2 v l.length (encV l)) (hn : l.length ≤ 100000) (hb : Below w0.heap.size w0 w) (h0 : w0.heap.size ≤ base) (hbase : base ≤ w.heap.size) :
    Calls Tryz.prog 33 #[v, .func (.func 34) #[] #[]] w fun e w' => e = .returned (.tuple #[]) ∧
      Calls Tryz.prog 38 #[v] w' (fun e w2 => ∃ v2, e = .returned v2 ∧ Svs w2 v2 (insAll ltS l) ∧ Below w0.heap.size w0 w2) := by
  by_cases hz : l.length = 0
  · have hnil := List.eq_nil_of_length_eq_zero hz
    subst hnil
    obtain ⟨a2, c2, rfl⟩ : ∃ a2 c2, v = .slice a2 0 c2 := by
      obtain ⟨a, c, h, _⟩ := (SlC.of_owns hown).slice
      exact ⟨a, c, h⟩
    refine (AnyF.slices_SortFunc_none Tryz.sortSv a2 c2 _ w).mono ?_
    rintro e w' ⟨rfl, rfl⟩
    refine ⟨rfl, (compactV_any [] hown (by simp) hbase).mono ?_⟩
    rintro e w2 ⟨v2, rfl, hs, hb2⟩
    exact ⟨v2, rfl, hs, hb.trans (hb2.mono h0)⟩
  · obtain ⟨g, cap, rfl⟩ : ∃ g cap, v = .slice (some ⟨g, 0, none⟩) l.length cap := by
      rcases hown.2 with ⟨_, h⟩ | ⟨g, cap, cur, rfl, _⟩
      · exact absurd h hz
      · exact ⟨_, _, rfl⟩
    obtain ⟨hr, hbg, hnc, hcm⟩ := own_row2 hown
    refine (sortV_any hl hown (by omega)).mono ?_
    rintro e w' ⟨rfl, l', hl', hcp, hown', hbw⟩
    have hb2 := hbw _ _ (Nat.le_trans h0 hbg) hb.size hb
    have hb3 := (hbw base w hbg hbase (Below.refl _ _)).size
    refine ⟨rfl, ?_⟩
    rw [← hl'] at hown' ⊢
    refine (compactV_any l' hown' (by omega) (Nat.le_trans hbase hb3)).mono ?_
    rintro e w2 ⟨v2, rfl, hs, hb4⟩
    rw [hcp] at hs
    exact ⟨v2, rfl, hs, hb2.trans (hb4.mono h0)⟩
set_option maxHeartbeats 8000000 in
theorem Hints_any (l : List Sv) (a : Option Addr) (c : Nat) (w : World) (hl : Svs w (.slice a l.length c) l) (hn : l.length ≤ 100000) (hnm : ∀ s ∈ l, s.1.length ≤ maxLen) :
    Calls Tryz.prog 20 #[.slice a l.length c] w (RetSvs w (hintsN l)) := by
  have mixed : Tryz.prog.follows .mixedOrders = true := by kernel_rfl
  generalize hN : l.length = N at *
  have HB := Go.Lib.hid (Below.refl w.heap.size w)
  have HL := Go.Lib.hid hl
  have HNM := Go.Lib.hid hnm
  have HN := Go.Lib.hid hN
  clear hl hnm hN
  go_enter Tryz.func20, Tryz.ntmps20
  go_wp2_with fail
  go_loopw [2, 7] (fun v i wr => ∃ k : Nat, i = .int .i64 k ∧ k ≤ N ∧ wr.ownsRow w.heap.size 40 2 v (hintL (l.take k)).length (encV (hintL (l.take k))) ∧ Below w.heap.size w wr) (fun _ i _ => N - (intOf i).toNat)
  case atStart => exact ⟨0, rfl, Nat.zero_le _, World.ownsRow_nil _ _ _ _, HB.out⟩
  case round =>
    clear HB
    obtain ⟨k, rfl, hk, hown, hbr⟩ := hrel
    have hws := hbr.size
    have hll := hintL_len (l.take k)
    rw [List.length_take] at hll
    by_cases hlt : k < N
    · have hl2 := HL.out.below hbr (Nat.le_refl _)
      obtain ⟨b, off, rfl, hbb, hcell⟩ := Svs.at hl2 (by rw [HN.out]; omega)
      obtain ⟨d0, d1⟩ := hcell k (by rw [HN.out]; exact hlt)
      have hmem : l.getD k s0 ∈ l := by rw [List.getD_eq_getElem?_getD, List.getElem?_eq_getElem (by rw [HN.out]; exact hlt)]; exact List.getElem_mem _
      have hnl := HNM.out _ hmem
      have hstep := hintL_take (l := l) (k := k) (by rw [HN.out]; exact hlt)
      have wk : IntKind.i64.wrap ((k : Int) + 1) = (k : Int) + 1 := wrapi (by omega) (by omega)
      have hlt2 : (k : Int) < (N : Int) := by omega
      clear hcell hl2 hmem
      generalize l.getD k s0 = s at *
      obtain ⟨sn, sa⟩ := s
      simp only at d0 d1 hnl hstep
      generalize hintL (l.take k) = L at *
      obtain ⟨Y, hY⟩ : ∃ Y, wr.alloc (.cells #[.string (mk sn), .int .i64 sa] 40) = Y := ⟨_, rfl⟩
      have gY : Y.heap[wr.heap.size]? = some (.cells (svC (sn, sa)) 40 (0, 0)) := by rw [← hY]; exact World.alloc_heap_new _ _
      have hbY : Below wr.heap.size wr Y := by rw [← hY]; exact (Below.refl _ wr).alloc (Nat.le_refl _) _
      have q0 : Y.cell? ⟨wr.heap.size, 0, none⟩ = some (.string (mk sn)) := row_cell gY 0 _ rfl
      have q1 : Y.cell? ⟨wr.heap.size, 1, none⟩ = some (.int .i64 sa) := row_cell gY 1 _ rfl
      have hva := valid_any (mk sn) Y (by rw [size_mk]; exact hnl)
      rw [bl_mk] at hva
      have hfo := fun W => Fold_any (mk sn) W (by rw [size_mk]; exact hnl)
      simp only [bl_mk] at hfo
      have hlt3 : ∀ g, u2.ownBlock = some g → g < wr.heap.size := fun g hg => (hown.lt g hg).2
      have hownY := owns_below hown hbY
      have hbwY := hbr.trans (hbY.mono hws)
      have hok : okH (sn, sa) = (Nm.valid sn && decide (0 ≤ sa) && decide (sa ≤ 4294967295)) := rfl
      generalize Nm.valid sn = va at *
      generalize Nm.foldN sn = fn at *
      have HSTEP := Go.Lib.hid hstep
      have HVA := Go.Lib.hid hva
      have HFO := Go.Lib.hid hfo
      have HOY := Go.Lib.hid hownY
      have HBWY := Go.Lib.hid hbwY
      have HOK := Go.Lib.hid hok
      have GY := Go.Lib.hid gY
      have HLT3 := Go.Lib.hid hlt3
      clear hstep hva hfo hownY hbwY hok gY hlt3
      clear hown hbr hbY
      by_cases hgood : va = true ∧ 0 ≤ sa ∧ sa ≤ 4294967295
      · obtain ⟨rfl, h1, h2⟩ := hgood
        have hs := HSTEP.out
        rw [HOK.out, decide_eq_true h1, decide_eq_true h2] at hs
        simp only [Bool.and_self, if_true] at hs
        have HS := Go.Lib.hid hs
        clear hs
        go_wp2_with fail
        refine HVA.out.mono ?_; rintro e _ ⟨rfl, rfl⟩
        go_wp2_with fail
        have hsz5 : L.length ≤ 100000 := by omega
        have gD : Y.drew.heap[wr.heap.size]? = some (.cells (svC (sn, sa)) 40 (0, 0)) := GY.out
        have D0 : ∀ z : Subtype (fun W : World => W.heap[wr.heap.size]? = some (.cells (svC (sn, sa)) 40 (0, 0))), z.1.cell? ⟨wr.heap.size, 0, none⟩ = some (.string (mk sn)) := fun z => row_cell z.2 0 _ rfl
        have D1 : ∀ z : Subtype (fun W : World => W.heap[wr.heap.size]? = some (.cells (svC (sn, sa)) 40 (0, 0))), z.1.cell? ⟨wr.heap.size, 1, none⟩ = some (.int .i64 sa) := fun z => row_cell z.2 1 _ rfl
        have hne : Nonempty (Subtype (fun W : World => W.heap[wr.heap.size]? = some (.cells (svC (sn, sa)) 40 (0, 0)))) := ⟨⟨_, GY.out⟩⟩
        have GD := Go.Lib.hid gD
        clear gD
        clear q0 q1
        refine Go.Mix.wp_region_mix (Es := [3, 7, 8]) (fun W : World => W.heap[wr.heap.size]? = some (.cells (svC (sn, sa)) 40 (0, 0))) mixed (by kernel_rfl) GD.out (fun _ => ?_)
        iterate 3 (refine Go.Mix.mix_step rfl (fun K hK => ?_); have HKK := Go.Lib.hid hK; clear hK; go_simp; refine HKK.out _ _ ?_; clear HKK K)
        refine Go.Mix.mix_eff rfl (fun K hK => ?_)
        have HKK := Go.Lib.hid hK
        clear hK
        go_simp
        refine (HFO.out _).mono ?_; rintro e W1 ⟨rfl, hx1⟩
        have g1 := (hx1.block _ (Array.getElem?_eq_some_iff.1 GY.out).1).trans GY.out
        have hown1 := owns_below (w := Y.drew) HOY.out hx1
        have hb1 : Below w.heap.size w W1 := HBWY.out.drew.trans (hx1.mono HBWY.out.size)
        have G1 := Go.Lib.hid g1
        have HO1 := Go.Lib.hid hown1
        have HB1 := Go.Lib.hid hb1
        clear g1 hown1 hb1
        clear hx1
        go_simp
        refine HKK.out _ _ G1.out ?_
        clear HKK K
        iterate 3 (refine Go.Mix.mix_step rfl (fun K hK => ?_); have HKK := Go.Lib.hid hK; clear hK; go_simp; refine HKK.out _ _ ?_; clear HKK K)
        refine Go.Mix.mix_eff rfl (fun K hK => ?_)
        have HKK := Go.Lib.hid hK
        clear hK
        go_simp
        have g2 : (W1.alloc (.cells #[.string (mk fn), .int .i64 sa] 40)).heap[wr.heap.size]? = some (.cells (svC (sn, sa)) 40 (0, 0)) := (Below.heap_alloc _ _ _ (Array.getElem?_eq_some_iff.1 G1.out).1).trans G1.out
        refine HKK.out _ _ g2 ?_
        clear HKK K
        have hown2 := HO1.out.alloc (.cells #[.string (mk fn), .int .i64 sa] 40)
        have hb2 := HB1.out.alloc HB1.out.size (.cells #[.string (mk fn), .int .i64 sa] 40)
        have hslc := slc_new W1 2 1 40 [.string (mk fn), .int .i64 sa] rfl (by decide)
        have hones := one_sv (fn, sa)
        have G2 := Go.Lib.hid g2
        have HO2 := Go.Lib.hid hown2
        have HB2 := Go.Lib.hid hb2
        have HSLC := Go.Lib.hid hslc
        have HONES := Go.Lib.hid hones
        clear g2 hown2 hb2 hslc hones
        refine mix_app eiSv (.tmp 24) (.tmp 31) rfl rfl rfl w.heap.size rfl rfl HO2.out HSLC.out HONES.out (by unfold maxLen; omega) (by omega) HB2.out.size ?_
        intro v5 W5 hown5 hg5
        have g5 : W5.heap[wr.heap.size]? = some (.cells (svC (sn, sa)) 40 (0, 0)) := (hg5.block _ (Array.getElem?_eq_some_iff.1 G2.out).1 (fun e => Nat.lt_irrefl _ (HLT3.out _ e.symm))).trans G2.out
        have hb5 := below_app HB2.out HO2.out hg5 (Nat.le_refl _) HB2.out.size
        refine ⟨g5, ?_⟩
        have HO5 := Go.Lib.hid hown5
        have HB5 := Go.Lib.hid hb5
        clear hown5 hb5
        clear hg5 g5
        iterate 1 (refine Go.Mix.mix_step rfl (fun K hK => ?_); have HKK := Go.Lib.hid hK; clear hK; go_simp; refine HKK.out _ _ ?_; clear HKK K)
        refine Go.Mix.mix_nil ?_
        go_wp2_with fail
        go_roundw
        case rel => exact ⟨k + 1, by go_num, by omega, by rw [HS.out, List.length_append, encV_snoc]; exact HO5.out, HB5.out⟩
        case measure => simp [intOf]; omega
      · have hs := HSTEP.out
        have hf : okH (sn, sa) = false := by
          rw [HOK.out]
          cases va with
          | false => rfl
          | true =>
            by_cases h1 : 0 ≤ sa
            · rw [decide_eq_true h1, decide_eq_false (fun h2 => hgood ⟨rfl, h1, h2⟩)]; rfl
            · rw [decide_eq_false h1]; rfl
        rw [hf] at hs
        simp only [Bool.false_eq_true, if_false, List.append_nil] at hs
        have hcs : va = false ∨ (va = true ∧ ¬ 0 ≤ sa) ∨ (va = true ∧ 0 ≤ sa ∧ ¬ sa ≤ 4294967295) := by
          cases va with
          | false => exact .inl rfl
          | true =>
            by_cases h1 : 0 ≤ sa
            · exact .inr (.inr ⟨rfl, h1, fun h2 => hgood ⟨rfl, h1, h2⟩⟩)
            · exact .inr (.inl ⟨rfl, h1⟩)
        have HS := Go.Lib.hid hs
        clear hs
        clear hgood hf
        rcases hcs with rfl | ⟨rfl, e1⟩ | ⟨rfl, e1, e2⟩
        all_goals
          go_wp2_with fail
          refine HVA.out.mono ?_; rintro e _ ⟨rfl, rfl⟩
          go_wp2_with fail
          go_roundw
          case rel => exact ⟨k + 1, by go_num, by omega, by rw [HS.out]; exact HOY.out, HBWY.out⟩
          case measure => simp [intOf]; omega
    · have hke : k = N := by omega
      have hall : l.take k = l := by rw [hke, ← HN.out, List.take_length]
      rw [hall] at hown
      have hlt2 : ¬ (k : Int) < (N : Int) := by omega
      have hsc := sortCV_any (w0 := w) (hintL_ps l) hown (by have := hintL_len l; rw [HN.out] at this; omega) hbr (Nat.le_refl _) hws
      have htn : insAll ltS (hintL l) = hintsN l := rfl
      rw [htn] at hsc
      have HSC := Go.Lib.hid hsc
      clear hsc
      clear hall hown hbr htn hke hll
      go_wp2_with fail
      refine HSC.out.mono ?_; rintro e Z ⟨rfl, hcp⟩
      have HCP := Go.Lib.hid hcp
      clear hcp
      go_wp2_with fail
      refine HCP.out.mono ?_; rintro e Z2 ⟨v2, rfl, hs2, hz2⟩
      have HS2 := Go.Lib.hid hs2
      have HZ2 := Go.Lib.hid hz2
      clear hs2 hz2
      go_wp2_with fail
      go_ret
      exact ⟨_, rfl, HS2.out, HZ2.out⟩
end Go.Proofs.YtgbmclgnbbhcbaaGreat

