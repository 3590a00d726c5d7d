/- The contract of match.groups: records by their keys. -/
import Derived.Test.YtcamopppeanipaaMgA
import Derived.Test.YtcamopppeanipaaOrdR
import Derived.Test.YtcamopppeanipaaApp2
namespace Go.Proofs.Ytcamopppeanipaa
open Go.RowKit Go.Shelf Go.Sq
set_option linter.unusedVariables false

/-- one record put to its group -/
def keyP (r : Rc.RR) : Gr → Bool := fun g => (g.name == Nm.foldN r.name) && (g.ty == r.ty)
def addTo (r : Rc.RR) (g : Gr) : Gr := if g.l.any (fun x => Rc.sameRR x r) then g else { g with l := g.l ++ [r] }
def addG (gs : List Gr) (r : Rc.RR) : List Gr :=
  if r.cl = 1 then (if idx (keyP r) gs < 0 then gs ++ [⟨Nm.foldN r.name, r.ty, [r]⟩] else gs.set (idx (keyP r) gs).toNat (addTo r (gs.getD (idx (keyP r) gs).toNat g0))) else gs
def groupsN (l : List Rc.RR) : List Gr := l.foldl addG []
theorem groupsN_snoc (l : List Rc.RR) (r : Rc.RR) : groupsN (l ++ [r]) = addG (groupsN l) r := by simp [groupsN]

theorem infoGr : (Try.prog.info? 71).map (fun i => (i.zero, i.size, i.bytes)) = some (some (.agg #[.string ⟨#[]⟩, .int .i64 0, .slice none 0 0]), 3, 48) := by kernel_rfl
theorem eiGr : EI Try.prog 68 71 3 48 := ei_of Try.underlying68 infoGr rfl (by decide)
theorem infoRR : (Try.prog.info? 49).map (fun i => (i.zero, i.size, i.bytes)) = some (some (.agg #[.string ⟨#[]⟩, .int .i64 0, .int .i64 0, .int .i64 0, .string ⟨#[]⟩]), 5, 56) := by kernel_rfl
theorem eiRR : EI Try.prog 25 49 5 56 := ei_of Try.underlying25 infoRR rfl (by decide)

/-- nothing that was there is changed -/
def GB (w w' : World) : Prop := Below w.heap.size w w'
theorem GB.trans {A B C : World} (h : GB A B) (k : GB B C) : GB A C := Below.trans h (Below.mono k (Below.size h))
theorem GB.refl (A : World) : GB A A := Below.refl _ _
theorem GB.size {A B : World} (h : GB A B) : A.heap.size ≤ B.heap.size := Below.size h
theorem GB.cell {W : World} {p : Addr} {v : Value} (h : W.cell? p = some v) (hp : p.block < W.heap.size) (w3 : Subtype (GB W.drew)) : w3.1.cell? p = some v := (Below.cell w3.2 (p := p) hp).trans h
theorem GB.heap {A B : World} (h : GB A B) {k : Nat} {o : Obj} (hk : A.heap[k]? = some o) : B.heap[k]? = some o := (Below.block h k (Array.getElem?_eq_some_iff.1 hk).1).trans hk

theorem rows_apart {w : World} {b1 b2 e1 e2 s1 s2 n1 n2 : Nat} {v1 v2 : Value} {x1 x2 : List Value} (h1 : w.ownsRow b1 e1 s1 v1 n1 x1) (h2 : w.ownsRow b2 e2 s2 v2 n2 x2) (he : e1 ≠ e2) : v1.ownBlock = none ∨ v1.ownBlock ≠ v2.ownBlock := by
  rcases h1.2 with ⟨rfl, _⟩ | ⟨g, cap, cur, rfl, _, hg, _⟩
  · exact .inl (by simp [Value.ownBlock])
  · right
    rcases h2.2 with ⟨rfl, _⟩ | ⟨g2, cap2, cur2, rfl, _, hg2, _⟩
    · simp [Value.ownBlock]
    · intro e
      simp only [Value.ownBlock, Option.some.injEq] at e
      subst e
      rw [hg] at hg2
      simp only [Option.some.injEq, Obj.cells.injEq] at hg2
      exact he hg2.2.1
theorem getD_snoc_lt {α : Type} (l : List α) (x d : α) {i : Nat} (h : i < l.length) : (l ++ [x]).getD i d = l.getD i d := by
  rw [List.getD_eq_getElem?_getD, List.getElem?_append_left h, ← List.getD_eq_getElem?_getD]
theorem getD_snoc_eq {α : Type} (l : List α) (x d : α) : (l ++ [x]).getD l.length d = x := by simp

theorem one_grp (n : List UInt8) (t : Int) : ∀ u ∈ [Value.string (mk n), .int .i64 t, .slice none 0 0], u.oneCell' = true := by
  intro u hu
  simp at hu
  rcases hu with rfl | rfl | rfl <;> rfl

/-- a new group, without records yet -/
theorem ownsG_push {W w' : World} {base : Nat} {v v' : Value} {gs : List Gr} {vs : List Value} (h : OwnsG W base v gs vs) (n : List UInt8) (t : Int) (tmp : Obj)
    (hown : w'.ownsRow base 71 3 v' (gs.length + 1) (encG gs vs ++ [.string (mk n), .int .i64 t, nilV])) (hg : (W.alloc tmp).grownBy w' v.ownBlock) :
    OwnsG w' base v' (gs ++ [⟨n, t, []⟩]) (vs ++ [nilV]) := by
  refine ⟨by simp [h.len], ?_, fun i hi => ?_, fun i j hi hj hij => ?_⟩
  · rw [List.length_append, encG_snoc h.len]; exact hown
  · rw [List.length_append, List.length_singleton] at hi
    rcases Nat.lt_or_ge i gs.length with h1 | h1
    · rw [getD_snoc_lt _ _ _ h1, getD_snoc_lt _ _ _ (by rw [h.len]; exact h1)]
      exact ((h.each i h1).alloc tmp).kept hg (rows_apart (h.each i h1) h.row (by decide))
    · obtain rfl : i = gs.length := by omega
      rw [getD_snoc_eq, ← h.len, getD_snoc_eq]
      exact World.ownsRow_nil _ _ _ _
  · rw [List.length_append, List.length_singleton] at hi hj
    rcases Nat.lt_or_ge i gs.length with h1 | h1
    · rcases Nat.lt_or_ge j gs.length with h2 | h2
      · rw [getD_snoc_lt _ _ _ (by rw [h.len]; exact h1), getD_snoc_lt _ _ _ (by rw [h.len]; exact h2)]
        exact h.apart i j h1 h2 hij
      · obtain rfl : j = gs.length := by omega
        rw [getD_snoc_lt _ _ _ (by rw [h.len]; exact h1), ← h.len, getD_snoc_eq]
        cases hb : (vs.getD i nilV).ownBlock with
        | none => exact .inl rfl
        | some g => exact .inr (by simp [nilV, Value.ownBlock])
    · obtain rfl : i = gs.length := by omega
      rw [← h.len, getD_snoc_eq]
      exact .inl (by simp [nilV, Value.ownBlock])

/-- a record put to a group's list -/
theorem getD_set_eq' {α : Type} (l : List α) (d x : α) {q : Nat} (h : q < l.length) : (l.set q x).getD q d = x := by simp [List.getD_eq_getElem?_getD, h]
theorem getD_set_ne' {α : Type} (l : List α) (d x : α) {q i : Nat} (h : i ≠ q) : (l.set q x).getD i d = l.getD i d := by simp [List.getD_eq_getElem?_getD, Ne.symm h]
theorem encG_set : ∀ (gs : List Gr) (vs : List Value) (q : Nat) (v : Value) (g' : Gr), vs.length = gs.length → q < gs.length → g'.name = (gs.getD q g0).name → g'.ty = (gs.getD q g0).ty →
    (encG gs vs).set (q * 3 + 2) v = encG (gs.set q g') (vs.set q v)
  | [], _, _, _, _, _, h, _, _ => by simp at h
  | _ :: _, [], _, _, _, h, _, _, _ => by simp at h
  | g :: gs, u :: vs, 0, v, g', _, _, h1, h2 => by
    have e : encG (g :: gs) (u :: vs) = [.string (mk g.name), .int .i64 g.ty, u] ++ encG gs vs := rfl
    have e2 : encG (g' :: gs) (v :: vs) = [.string (mk g'.name), .int .i64 g'.ty, v] ++ encG gs vs := rfl
    simp only [List.getD_cons_zero] at h1 h2
    rw [List.set_cons_zero, List.set_cons_zero, e, e2, h1, h2]
    rfl
  | g :: gs, u :: vs, q + 1, v, g', hl, hq, h1, h2 => by
    have ih := encG_set gs vs q v g' (by simpa using hl) (by simpa using hq) (by simpa using h1) (by simpa using h2)
    have e : encG (g :: gs) (u :: vs) = .string (mk g.name) :: .int .i64 g.ty :: u :: encG gs vs := rfl
    have e2 : encG (g :: gs.set q g') (u :: vs.set q v) = .string (mk g.name) :: .int .i64 g.ty :: u :: encG (gs.set q g') (vs.set q v) := rfl
    rw [List.set_cons_succ, List.set_cons_succ, e, e2, show (q + 1) * 3 + 2 = q * 3 + 2 + 1 + 1 + 1 by omega, List.set_cons_succ, List.set_cons_succ, List.set_cons_succ, ih]

theorem ownsG_put {W w' : World} {base gb n c q : Nat} {gs : List Gr} {vs : List Value} (h : OwnsG W base (.slice (some ⟨gb, 0, none⟩) n c) gs vs) (hq : q < gs.length) (r : Rc.RR) (tmp : Obj) {v' : Value}
    (hown : w'.ownsRow base 49 5 v' ((gs.getD q g0).l.length + 1) (encR (gs.getD q g0).l ++ [.string (mk r.name), .int .i64 r.ty, .int .i64 r.cl, .int .i64 r.ttl, .string (mk r.data)]))
    (hg : (W.alloc tmp).grownBy w' (vs.getD q nilV).ownBlock) (hsn : SameOrNew (W.alloc tmp).heap.size (vs.getD q nilV) v') :
    OwnsG (w'.setCell ⟨gb, q * 3 + 2, none⟩ v') base (.slice (some ⟨gb, 0, none⟩) n c) (gs.set q ⟨(gs.getD q g0).name, (gs.getD q g0).ty, (gs.getD q g0).l ++ [r]⟩) (vs.set q v') := by
  have hn : n = gs.length := ((SlC.of_owns h.row).cap).1
  subst hn
  have hrow := (h.row.alloc tmp).kept hg (rows_apart h.row (h.each q hq) (by decide))
  obtain ⟨s1, s2⟩ := hrow.stored (q * 3 + 2) v'
  have hlt : ∀ j, j < gs.length → ∀ g, (vs.getD j nilV).ownBlock = some g → g < (W.alloc tmp).heap.size := fun j hj g hg' => (((h.each j hj).alloc tmp).lt g hg').2
  refine ⟨by simp [h.len], ?_, fun i hi => ?_, fun i j hi hj hij => ?_⟩
  · rw [List.length_set, ← encG_set gs vs q v' ⟨(gs.getD q g0).name, (gs.getD q g0).ty, (gs.getD q g0).l ++ [r]⟩ h.len hq rfl rfl]
    exact s1
  · rw [List.length_set] at hi
    by_cases hiq : i = q
    · subst hiq
      rw [getD_set_eq' _ _ _ hi, getD_set_eq' _ _ _ (by rw [h.len]; exact hi)]
      simp only
      rw [List.length_append, encR_snoc]
      exact hown.kept s2 (rows_apart hown hrow (by decide))
    · rw [getD_set_ne' _ _ _ hiq, getD_set_ne' _ _ _ hiq]
      have hi2 := ((h.each i hi).alloc tmp).kept hg (h.apart i q hi hq hiq)
      exact hi2.kept s2 (rows_apart hi2 hrow (by decide))
  · rw [List.length_set] at hi hj
    by_cases hiq : i = q
    · subst hiq
      have hjq : j ≠ i := fun e => hij e.symm
      rw [getD_set_eq' _ _ _ (by rw [h.len]; exact hi), getD_set_ne' _ _ _ hjq]
      rcases hsn with hs | ⟨g, hg1, hg2⟩
      · rw [hs]; exact h.apart i j hi hj hij
      · right
        rw [hg1]
        intro e
        have := hlt j hj g e.symm
        omega
    · by_cases hjq : j = q
      · subst hjq
        rw [getD_set_ne' _ _ _ hiq, getD_set_eq' _ _ _ (by rw [h.len]; exact hj)]
        rcases hsn with hs | ⟨g, hg1, hg2⟩
        · rw [hs]; exact h.apart i j hi hj hij
        · cases hb : (vs.getD i nilV).ownBlock with
          | none => exact .inl rfl
          | some g3 =>
            right
            rw [hg1]
            intro e
            simp only [Option.some.injEq] at e
            have := hlt i hi g3 hb
            omega
      · rw [getD_set_ne' _ _ _ hiq, getD_set_ne' _ _ _ hjq]
        exact h.apart i j hi hj hij

theorem heap_kept {W W' : World} {k : Nat} {cs : Array Value} {T : TypeId} {fr : Nat × Nat} (h : W.heap[k]? = some (.cells cs T fr)) {base e sz n : Nat} {v : Value} {xs : List Value} (hown : W.ownsRow base e sz v n xs) (hT : T ≠ e) (hg : W.grownBy W' v.ownBlock) : W'.heap[k]? = some (.cells cs T fr) := by
  refine (hg.block k (Array.getElem?_eq_some_iff.1 h).1 ?_).trans h
  rcases hown.2 with ⟨rfl, _⟩ | ⟨g, cap, cur, rfl, _, hgh, _⟩
  · simp [Value.ownBlock]
  · intro e'
    simp only [Value.ownBlock, Option.some.injEq] at e'
    subst e'
    rw [h] at hgh
    simp only [Option.some.injEq, Obj.cells.injEq] at hgh
    exact hT hgh.2.1
theorem heap_old {W : World} {k : Nat} {o : Obj} (h : W.heap[k]? = some o) (o' : Obj) : (W.alloc o').heap[k]? = some o := (Below.heap_alloc _ _ _ (Array.getElem?_eq_some_iff.1 h).1).trans h

theorem new_cells (W : World) (cs : List Value) (T : TypeId) : ∀ j u, cs[j]? = some u → (W.alloc (.cells cs.toArray T)).cell? ((⟨W.heap.size, 0, none⟩ : Addr).add j) = some u := fun j u h => by
  rw [Addr.add_lit, World.cell?_alloc_at (hn := rfl)]
  simpa using h
theorem getD_mem' {α : Type} {l : List α} {q : Nat} {d : α} (h : q < l.length) : l.getD q d ∈ l := by
  rw [List.getD_eq_getElem?_getD, List.getElem?_eq_getElem h]
  simp

/-- the class of region 10: the list's place, and the record -/
def CG (g j : Nat) (v : Value) (rb : Nat) (r : Rc.RR) (w : World) : Prop :=
  w.cell? ⟨g, j, none⟩ = some v ∧ w.cell? ⟨rb, 0, none⟩ = some (.string (mk r.name)) ∧ w.cell? ⟨rb, 1, none⟩ = some (.int .i64 r.ty) ∧ w.cell? ⟨rb, 2, none⟩ = some (.int .i64 r.cl) ∧
    w.cell? ⟨rb, 3, none⟩ = some (.int .i64 r.ttl) ∧ w.cell? ⟨rb, 4, none⟩ = some (.string (mk r.data))
theorem CG.vq {g j : Nat} {v : Value} {rb : Nat} {r : Rc.RR} (w3 : Subtype (CG g j v rb r)) : w3.1.cell? ⟨g, j, none⟩ = some v := w3.2.1
theorem CG.r0 {g j : Nat} {v : Value} {rb : Nat} {r : Rc.RR} (w3 : Subtype (CG g j v rb r)) : w3.1.cell? ⟨rb, 0, none⟩ = some (.string (mk r.name)) := w3.2.2.1
theorem CG.r1 {g j : Nat} {v : Value} {rb : Nat} {r : Rc.RR} (w3 : Subtype (CG g j v rb r)) : w3.1.cell? ⟨rb, 1, none⟩ = some (.int .i64 r.ty) := w3.2.2.2.1
theorem CG.r2 {g j : Nat} {v : Value} {rb : Nat} {r : Rc.RR} (w3 : Subtype (CG g j v rb r)) : w3.1.cell? ⟨rb, 2, none⟩ = some (.int .i64 r.cl) := w3.2.2.2.2.1
theorem CG.r3 {g j : Nat} {v : Value} {rb : Nat} {r : Rc.RR} (w3 : Subtype (CG g j v rb r)) : w3.1.cell? ⟨rb, 3, none⟩ = some (.int .i64 r.ttl) := w3.2.2.2.2.2.1
theorem CG.r4 {g j : Nat} {v : Value} {rb : Nat} {r : Rc.RR} (w3 : Subtype (CG g j v rb r)) : w3.1.cell? ⟨rb, 4, none⟩ = some (.string (mk r.data)) := w3.2.2.2.2.2.2
theorem CG.keep {g j : Nat} {v : Value} {rb : Nat} {r : Rc.RR} {W W' : World} (h : CG g j v rb r W) (hk : ∀ p v, W.cell? p = some v → p.block = g ∨ p.block = rb → W'.cell? p = some v) : CG g j v rb r W' :=
  ⟨hk _ _ h.1 (.inl rfl), hk _ _ h.2.1 (.inr rfl), hk _ _ h.2.2.1 (.inr rfl), hk _ _ h.2.2.2.1 (.inr rfl), hk _ _ h.2.2.2.2.1 (.inr rfl), hk _ _ h.2.2.2.2.2 (.inr rfl)⟩
theorem CG.alloc {g j : Nat} {v : Value} {rb : Nat} {r : Rc.RR} {W : World} (h : CG g j v rb r W) (o : Obj) : CG g j v rb r (W.alloc o) :=
  h.keep fun p _ hp _ => (((Below.refl W.heap.size W).alloc (Nat.le_refl _) o).cell (p := p) (World.block_lt_of_cell? _ _ hp)).trans hp

/-- what region 5 leaves -/
def F5 (B : Nat) (i : Nat) (v : Value) (w : World) : Prop := i = 6 → ∃ kb, v = .pointer (some ⟨kb, 0, none⟩) ∧ B ≤ kb ∧ w.heap[kb]? = some (.cells #[.string ⟨#[]⟩, .int .i64 0] 45 (0, 0))
def S5 (n : List UInt8) (i : Nat) (v : Value) : Prop := (i = 2 → v = .string (mk n)) ∧ (i = 6 → ∃ kb, v = .pointer (some ⟨kb, 0, none⟩))

/-- what the loop has laid by -/
def GrI (w : World) (l : List Rc.RR) (k : Nat) (v : Value) (wr : World) : Prop :=
  ∃ vs, OwnsG wr w.heap.size v (groupsN (l.take k)) vs ∧ (∀ g ∈ groupsN (l.take k), g.l.length ≤ k ∧ ∀ x ∈ g.l, RROk x) ∧ (groupsN (l.take k)).length ≤ k ∧ Below w.heap.size w wr

set_option maxRecDepth 100000 in
set_option maxHeartbeats 4000000 in
theorem groups_any (a : Option Addr) (cap : Nat) (l : List Rc.RR) (w : World) (hst : RRs w (.slice a l.length cap) l) (hn : l.length ≤ 1000000) (hok : ∀ r ∈ l, RROk r) :
    Calls Try.prog 39 #[.slice a l.length cap] w fun e w' => ∃ v vs, e = .returned v ∧ OwnsG w' w.heap.size v (groupsN l) vs ∧ Below w.heap.size w w' := by
  have HB := Go.Lib.hid (Below.refl w.heap.size w)
  have HST := Go.Lib.hid hst
  have HOK := Go.Lib.hid hok
  clear hst hok
  generalize hN : l.length = N at *
  have HN := Go.Lib.hid hN
  clear hN
  go_enter Try.func39, Try.ntmps39
  go_wp2_with fail
  go_loopw [2, 9] (fun v i wr => ∃ k : Nat, i = .int .i64 k ∧ k ≤ N ∧ GrI w l k v wr) (fun _ i _ => N - (intOf i).toNat)
  case atStart => exact ⟨0, rfl, by omega, [], OwnsG.nil _ _, by simp [groupsN], by simp [groupsN], HB.out⟩
  case round =>
    obtain ⟨k, rfl, hk, vs, hog, hgl, hgn, hbr⟩ := hrel
    clear HB
    have hbz := hbr.size
    obtain ⟨a2, c2, hv2, _, _⟩ := (SlC.of_owns hog.row).slice
    subst hv2
    by_cases hlt : k < N
    · have hst := HST.out.below hbr (Nat.le_refl _)
      rw [← HN.out] at hst
      obtain ⟨b, off, rfl, hbw, hcell⟩ := RRs.at hst (by rw [HN.out]; omega)
      obtain ⟨e0, e1, e2, e3, e4⟩ := hcell k (by rw [HN.out]; exact hlt)
      have hmem : l.getD k r0 ∈ l := by
        rw [List.getD_eq_getElem?_getD, List.getElem?_eq_getElem (by rw [HN.out]; exact hlt)]
        simp
      have hrok := HOK.out _ hmem
      have hsn : l.take (k + 1) = l.take k ++ [l.getD k r0] := by
        rw [List.take_succ_eq_append_getElem (by rw [HN.out]; exact hlt)]
        simp [HN.out, hlt]
      have hgs : groupsN (l.take (k + 1)) = addG (groupsN (l.take k)) (l.getD k r0) := by rw [hsn, groupsN_snoc]
      have HGS := Go.Lib.hid hgs
      have HOG := Go.Lib.hid hog
      have HGL := Go.Lib.hid hgl
      have HB := Go.Lib.hid hbr
      have HROK := Go.Lib.hid hrok
      clear hgs hog hgl hbr hrok
      clear hcell hst hmem hsn
      generalize l.getD k r0 = r at *
      generalize hgg : groupsN (l.take k) = gs at *
      have HGG := Go.Lib.hid hgg
      clear hgg
      by_cases hcl : r.cl = 1
      · have q1 : (r.cl != 1) = false := by simp [hcl]
        obtain ⟨rn, rty, rcl, rttl, rd⟩ := r
        simp only at hcl
        subst hcl
        have hrb := World.alloc_heap_new wr (.cells #[.string (mk rn), .int .i64 rty, .int .i64 1, .int .i64 rttl, .string (mk rd)] 49)
        have hWB : GB wr (wr.alloc (.cells #[.string (mk rn), .int .i64 rty, .int .i64 1, .int .i64 rttl, .string (mk rd)] 49)) := (Below.refl _ _).alloc (Nat.le_refl _) _
        have hWs : (wr.alloc (.cells #[.string (mk rn), .int .i64 rty, .int .i64 1, .int .i64 rttl, .string (mk rd)] 49)).heap.size = wr.heap.size + 1 := by simp
        simp only at e0 e1 e2 e3 e4
        go_wp2_with fail
        generalize wr.alloc (.cells #[.string (mk rn), .int .i64 rty, .int .i64 1, .int .i64 rttl, .string (mk rd)] 49) = W at *
        have hg := cell_of_heap hrb
        have c0 := GB.cell (W := W) (show W.cell? ⟨wr.heap.size, 0, none⟩ = some (.string (mk rn)) from hg 0) (by show wr.heap.size < _; omega)
        have c1 := GB.cell (W := W) (show W.cell? ⟨wr.heap.size, 1, none⟩ = some (.int .i64 rty) from hg 1) (by show wr.heap.size < _; omega)
        have hne : Nonempty (Subtype (GB W.drew)) := ⟨⟨W.drew, GB.refl _⟩⟩
        have hfo := fun w => Fold_any (mk rn) w (by rw [size_mk]; exact HROK.out.1)
        rw [bl_mk] at hfo
        have HFO := Go.Lib.hid hfo
        have HRB := Go.Lib.hid hrb
        have HWB := Go.Lib.hid hWB
        have HWS := Go.Lib.hid hWs
        clear hfo hrb hWB hWs
        clear hg
        refine Go.Mix.wp_region_mixR [2, 6] 7 GB (F5 W.heap.size) (S5 (Nm.foldN rn)) mixed (by kernel_rfl) GB.trans GB.refl (fun i v w w' h hg hi => ?_) (fun i => ?_) ?_
        · obtain ⟨kb, h1, h2, h3⟩ := h hi
          exact ⟨kb, h1, h2, hg.heap h3⟩
        · by_cases h2 : i = 2
          · exact ⟨.string (mk (Nm.foldN rn)), fun _ => rfl, fun h => by omega⟩
          · exact ⟨.pointer (some ⟨0, 0, none⟩), fun h => absurd h h2, fun _ => ⟨0, rfl⟩⟩
        iterate 2 (refine Go.Mix.mixR_step rfl (fun K hK => ?_); have HKK := Go.Lib.hid hK; clear hK; go_simp; refine HKK.out _ ?_; clear HKK K)
        refine Go.Mix.mixR_eff rfl rfl (fun w7 hw7 => ?_) (fun v2 hv2 => ?_)
        · go_simp
          show Calls _ _ _ _ _
          refine (HFO.out _).mono ?_; rintro e w8 ⟨rfl, hx⟩
          exact ⟨hx, ⟨fun _ => rfl, (fun h => by cases h)⟩, (fun h => by cases h)⟩
        obtain rfl := hv2.1 rfl
        clear hv2
        iterate 3 (refine Go.Mix.mixR_step rfl (fun K hK => ?_); have HKK := Go.Lib.hid hK; clear hK; go_simp; refine HKK.out _ ?_; clear HKK K)
        refine Go.Mix.mixR_eff rfl rfl (fun w7 hw7 => ?_) (fun v6 hv6 => ?_)
        · go_simp
          exact ⟨(Below.refl _ _).alloc (Nat.le_refl _) _, ⟨(fun h => by cases h), fun _ => ⟨_, rfl⟩⟩, fun _ => ⟨_, rfl, hw7.size, World.alloc_heap_new _ _⟩⟩
        obtain ⟨kb, rfl⟩ := hv6.2 rfl
        clear hv6
        refine Go.Mix.mixR_last rfl (fun w9 hg9 hΦ K hK => ?_)
        obtain ⟨kb', hk1, hk2, hk3⟩ := hΦ.2 rfl
        simp only [Value.pointer.injEq, Option.some.injEq, Addr.mk.injEq, and_true] at hk1
        subst hk1
        clear hΦ
        have d0 : w9.cell? ⟨kb, 0, none⟩ = some (.string ⟨#[]⟩) := cell_of_heap hk3 0
        have d1 : w9.cell? ⟨kb, 1, none⟩ = some (.int .i64 0) := cell_of_heap hk3 1
        have d2 : w9.frozen? ⟨kb, 0, none⟩ = false := by simp [World.frozen?, hk3]
        have d3 : w9.frozen? ⟨kb, 1, none⟩ = false := by simp [World.frozen?, hk3]
        have HK3 := Go.Lib.hid hk3
        have HKK := Go.Lib.hid hK
        have HG9 := Go.Lib.hid hg9
        clear hk3 hK hg9
        go_simp
        refine HKK.out _ _ ?_
        clear HKK K
        have k0 : ((w9.setCell ⟨kb, 0, none⟩ (.string (mk (Nm.foldN rn)))).setCell ⟨kb, 1, none⟩ (.int .i64 rty)).cell? ⟨kb, 0, none⟩ = some (.string (mk (Nm.foldN rn))) := by
          refine (World.cell?_setCell_other _ _ _ _ (by simp)).trans ?_
          exact World.cell?_setCell_same _ _ _ d0
        have k1 : ((w9.setCell ⟨kb, 0, none⟩ (.string (mk (Nm.foldN rn)))).setCell ⟨kb, 1, none⟩ (.int .i64 rty)).cell? ⟨kb, 1, none⟩ = some (.int .i64 rty) := by
          exact World.cell?_setCell_same _ _ _ (u := .int .i64 0) ((World.cell?_setCell_other _ _ _ _ (by simp)).trans d1)
        have hB10 : GB W ((w9.setCell ⟨kb, 0, none⟩ (.string (mk (Nm.foldN rn)))).setCell ⟨kb, 1, none⟩ (.int .i64 rty)) :=
          (Below.setCell (p := ⟨kb, 0, none⟩) (Below.trans (Below.drew (Below.refl W.heap.size W)) HG9.out) hk2 _).setCell (p := ⟨kb, 1, none⟩) hk2 _
        have hkb : kb < ((w9.setCell ⟨kb, 0, none⟩ (.string (mk (Nm.foldN rn)))).setCell ⟨kb, 1, none⟩ (.int .i64 rty)).heap.size := by
          simp
          exact (Array.getElem?_eq_some_iff.1 HK3.out).1
        clear d0 d1 d2 d3 HK3 HG9
        generalize (w9.setCell ⟨kb, 0, none⟩ (.string (mk (Nm.foldN rn)))).setCell ⟨kb, 1, none⟩ (.int .i64 rty) = X at *
        have hOX := (HOG.out.below HWB.out).below hB10
        have hBX := (HB.out.trans (Below.mono HWB.out HB.out.size)).trans (Below.mono hB10 (Nat.le_trans HB.out.size HWB.out.size))
        have hrX : X.heap[wr.heap.size]? = some (.cells #[.string (mk rn), .int .i64 rty, .int .i64 1, .int .i64 rttl, .string (mk rd)] 49 (0, 0)) := hB10.heap HRB.out
        have hsX := hB10.size
        have hix := idxG_any kb (Nm.foldN rn) rty w.heap.size _ _ _ gs vs X hOX (by omega) k0 k1 hkb
        have hkp : (fun g : Gr => (g.name == Nm.foldN rn) && (g.ty == rty)) = keyP ⟨rn, rty, 1, rttl, rd⟩ := rfl
        rw [hkp] at hix
        have hil := idx_lt (keyP ⟨rn, rty, 1, rttl, rd⟩) gs
        have hgs2 := HGS.out
        unfold addG at hgs2
        rw [if_pos rfl] at hgs2
        generalize idx (keyP ⟨rn, rty, 1, rttl, rd⟩) gs = ix at *
        have HOX := Go.Lib.hid hOX
        have HBX := Go.Lib.hid hBX
        have HRX := Go.Lib.hid hrX
        have HIX := Go.Lib.hid hix
        have HGS2 := Go.Lib.hid hgs2
        have HKP := Go.Lib.hid hkp
        clear hOX hBX hrX hix hgs2 hkp
        clear hB10 HWB HRB HB
        by_cases hneg : ix < 0
        · go_wp2_with fail
          refine HIX.out.mono ?_; rintro e X2 ⟨rfl, hb2⟩
          have z0 := (hb2.cell (p := ⟨kb, 0, none⟩) hkb).trans k0
          have z1 := (hb2.cell (p := ⟨kb, 1, none⟩) hkb).trans k1
          have hO2 := HOX.out.below hb2
          have hb3 := HBX.out.trans (Below.mono hb2 HBX.out.size)
          have hz3 := hb3.size
          have hr2 := (hb2.block _ (Array.getElem?_eq_some_iff.1 HRX.out).1).trans HRX.out
          have hone := one_grp (Nm.foldN rn) rty
          have hO2len := hO2.len
          have HBB := Go.Lib.hid hb2
          have HB2 := Go.Lib.hid hb3
          have HO2 := Go.Lib.hid hO2
          have HR2 := Go.Lib.hid hr2
          have HONE := Go.Lib.hid hone
          clear hb2 hb3 hO2 hr2 hone
          clear k0 k1 HIX HOX HBX HRX
          have hgl0 : (gs.length : Int) < ((gs.length + 1 : Nat) : Int) := by omega
          have hgl9 : (gs.length : Int) < (gs.length : Int) + 1 := by omega
          go_wp2_with (at_builtin; refine wpList_app eiGr (.tmp 29) (.tmp 32) rfl rfl w.heap.size rfl rfl (HO2.out.row.alloc _) (slc_new _ 3 1 71 [.string (mk (Nm.foldN rn)), .int .i64 rty, .slice none 0 0] rfl (by decide)) HONE.out ?h2 ?h3 ?h4 ?h5; rotate_right; intro v3 X3 hown3 hg3; obtain ⟨a3, c3, rfl, _, _⟩ := (SlC.of_owns hown3).slice; have hO3 := ownsG_push HO2.out _ _ _ hown3 hg3; obtain ⟨hmm, g3, cur3, rfl, hb3g, hh3, y0, y1, y2⟩ := ownsG_at hO3 (k := gs.length) (by simp); rw [← hO2len, getD_snoc_eq, hO2len] at y2; unfold nilV at y2; clear hmm y0 y1; have HG3 := Go.Lib.hid hg3; have HO3 := Go.Lib.hid hO3; have HOWN3 := Go.Lib.hid hown3; have HH3 := Go.Lib.hid hh3; clear hg3 hO3 hown3 hh3)
          case h2 => unfold maxLen; omega
          case h3 => omega
          case h4 => simp; omega
          obtain ⟨gs1, hgs1⟩ : ∃ gs1, gs1 = gs ++ [⟨Nm.foldN rn, rty, []⟩] := ⟨_, rfl⟩
          obtain ⟨vs1, hvs1⟩ : ∃ vs1, vs1 = vs ++ [nilV] := ⟨_, rfl⟩
          rw [← hgs1, ← hvs1] at HO3
          have hq : gs.length < gs1.length := by rw [hgs1]; simp
          have hgq : gs1.getD gs.length g0 = ⟨Nm.foldN rn, rty, []⟩ := by rw [hgs1, getD_snoc_eq]
          have hv1 : vs1.getD gs.length nilV = .slice none 0 0 := by rw [hvs1, ← hO2len, getD_snoc_eq]; rfl
          have hres : groupsN (l.take (k + 1)) = gs1.set gs.length ⟨(gs1.getD gs.length g0).name, (gs1.getD gs.length g0).ty, (gs1.getD gs.length g0).l ++ [⟨rn, rty, 1, rttl, rd⟩]⟩ := by
            rw [HGS2.out, if_pos hneg, hgq, hgs1]
            simp
          have hgl1 : ∀ g ∈ gs1, g.l.length ≤ k ∧ ∀ x ∈ g.l, RROk x := fun g hg => by
            rw [hgs1] at hg
            rcases List.mem_append.1 hg with h | h
            · exact HGL.out g h
            · simp at h; subst h; exact ⟨Nat.zero_le _, by simp⟩
          have hb3 : Below w.heap.size w X3 := below_app (HB2.out.alloc hz3 _) (HO2.out.row.alloc _) HG3.out (Nat.le_refl _) (by simp; omega)
          have hr3 : X3.heap[wr.heap.size]? = some (.cells #[.string (mk rn), .int .i64 rty, .int .i64 1, .int .i64 rttl, .string (mk rd)] 49 (0, 0)) :=
            heap_kept (heap_old HR2.out _) (HO2.out.row.alloc _) (by decide) HG3.out
          have hhas := hasR_any 46 #[.pointer (some ⟨wr.heap.size, 0, none⟩)] (fun x => Rc.sameRR x ⟨rn, rty, 1, rttl, rd⟩) none 0 [] X3 (SlC.nil _ _) (by simp) (enters_of Try.func46 (by kernel_rfl) rfl) (fun W r hr => by simp at hr)
          simp only [List.length_nil, List.any_nil] at hhas
          obtain ⟨lq, hlq⟩ : ∃ lq : List Rc.RR, lq = [] := ⟨_, rfl⟩
          have HHAS := Go.Lib.hid hhas
          have HRES := Go.Lib.hid hres
          have HGL1 := Go.Lib.hid hgl1
          have HB3 := Go.Lib.hid hb3
          have HR3 := Go.Lib.hid hr3
          have HGS1 := Go.Lib.hid hgs1
          have HVS1 := Go.Lib.hid hvs1
          have HGQ := Go.Lib.hid hgq
          have HV1 := Go.Lib.hid hv1
          clear hhas hres hgl1 hb3 hr3 hgs1 hvs1 hgq hv1
          clear HG3 HOWN3 HH3 HO2 HB2 HR2 HBB z0 z1
          refine HHAS.out.mono ?_; rintro e X4 ⟨rfl, hb4⟩
          have ho4 := HO3.out.below hb4
          have y4 := (hb4.cell (p := ⟨g3, gs.length * 3 + 2, none⟩) (World.block_lt_of_cell? _ _ y2)).trans y2
          have hr4 := (hb4.block _ (Array.getElem?_eq_some_iff.1 HR3.out).1).trans HR3.out
          have hb5 := HB3.out.trans (Below.mono hb4 HB3.out.size)
          have HO4 := Go.Lib.hid ho4
          have HR4 := Go.Lib.hid hr4
          have HB4 := Go.Lib.hid hb5
          have HB44 := Go.Lib.hid hb4
          clear ho4 hr4 hb5 hb4
          rw [show Value.slice none 0 0 = .slice none lq.length 0 by rw [hlq]; rfl] at y4
          obtain ⟨aq, haq⟩ : ∃ aq : Option Addr, aq = none := ⟨_, rfl⟩
          obtain ⟨cq, hcq⟩ : ∃ cq : Nat, cq = 0 := ⟨_, rfl⟩
          rw [← haq, ← hcq] at y4
          have hlq2 : (gs1.getD gs.length g0).l = lq := by rw [HGQ.out, hlq]
          have hV : vs1.getD gs.length nilV = .slice aq lq.length cq := by rw [HV1.out, haq, hcq, hlq]; rfl
          have hap : some g3 ≠ (Value.slice aq lq.length cq).ownBlock ∧ some wr.heap.size ≠ (Value.slice aq lq.length cq).ownBlock := by rw [haq]; simp [Value.ownBlock]
          have hln1 : gs1.length = gs.length + 1 := by rw [HGS1.out, List.length_append]; rfl
          have hlen1 : gs1.length ≤ k + 1 := by rw [HGS1.out, List.length_append]; simp; omega
          have HLQ := Go.Lib.hid hlq
          have HAQ := Go.Lib.hid haq
          have HCQ := Go.Lib.hid hcq
          have HLQ2 := Go.Lib.hid hlq2
          have HV := Go.Lib.hid hV
          have HAP := Go.Lib.hid hap
          have HLEN1 := Go.Lib.hid hlen1
          have HLN1 := Go.Lib.hid hln1
          clear hlq haq hcq hlq2 hV hap hlen1 hln1
          clear y2 HO3 HR3 HB3 HHAS
          -- TAIL A
          -- the record is put to its group's list
          have hz4 := HB4.out.size
          have hr4 := HR4.out
          have cR := cell_of_heap hr4
          have hC0 : CG g3 (gs.length * 3 + 2) (.slice aq lq.length cq) wr.heap.size ⟨rn, rty, 1, rttl, rd⟩ X4 := ⟨y4, cR 0, cR 1, cR 2, cR 3, cR 4⟩
          have f2 := fun w3 => CG.vq (g := g3) (j := gs.length * 3 + 2) (v := .slice aq lq.length cq) (rb := wr.heap.size) (r := ⟨rn, rty, 1, rttl, rd⟩) w3
          have r0' := fun w3 => CG.r0 (g := g3) (j := gs.length * 3 + 2) (v := .slice aq lq.length cq) (rb := wr.heap.size) (r := ⟨rn, rty, 1, rttl, rd⟩) w3
          have r1' := fun w3 => CG.r1 (g := g3) (j := gs.length * 3 + 2) (v := .slice aq lq.length cq) (rb := wr.heap.size) (r := ⟨rn, rty, 1, rttl, rd⟩) w3
          have r2' := fun w3 => CG.r2 (g := g3) (j := gs.length * 3 + 2) (v := .slice aq lq.length cq) (rb := wr.heap.size) (r := ⟨rn, rty, 1, rttl, rd⟩) w3
          have r3' := fun w3 => CG.r3 (g := g3) (j := gs.length * 3 + 2) (v := .slice aq lq.length cq) (rb := wr.heap.size) (r := ⟨rn, rty, 1, rttl, rd⟩) w3
          have r4' := fun w3 => CG.r4 (g := g3) (j := gs.length * 3 + 2) (v := .slice aq lq.length cq) (rb := wr.heap.size) (r := ⟨rn, rty, 1, rttl, rd⟩) w3
          have hne4 : Nonempty (Subtype (CG g3 (gs.length * 3 + 2) (.slice aq lq.length cq) wr.heap.size ⟨rn, rty, 1, rttl, rd⟩)) := ⟨⟨X4, hC0⟩⟩
          have HC0 := Go.Lib.hid hC0
          clear hC0 cR hr4
          go_wp2_with fail
          refine Go.Mix.wp_region_mixT (Es := [8, 9]) 12 (CG g3 (gs.length * 3 + 2) (.slice aq lq.length cq) wr.heap.size ⟨rn, rty, 1, rttl, rd⟩) mixed (by kernel_rfl) HC0.out ?_
          iterate 8 (refine Go.Mix.mixT_step rfl (fun K hK => ?_); have HKK := Go.Lib.hid hK; clear hK; go_simp; refine HKK.out _ _ ?_; clear HKK K)
          refine Go.Mix.mixT_eff rfl (fun K hK => ?_)
          have HKK := Go.Lib.hid hK
          clear hK
          go_simp
          refine HKK.out _ _ (HC0.out.alloc _) ?_
          clear HKK K
          have hwq := (HO4.out.each gs.length hq).alloc (.cells #[.string (mk rn), .int .i64 rty, .int .i64 1, .int .i64 rttl, .string (mk rd)] 49)
          rw [HV.out, HLQ2.out] at hwq
          have hrow4 := HO4.out.row.alloc (.cells #[.string (mk rn), .int .i64 rty, .int .i64 1, .int .i64 rttl, .string (mk rd)] 49)
          have hnc := new_cells X4 [.string (mk rn), .int .i64 rty, .int .i64 1, .int .i64 rttl, .string (mk rd)] 49
          have hone5 := one_rr ⟨rn, rty, 1, rttl, rd⟩
          have hlqk : lq.length ≤ k := by rw [← HLQ2.out]; exact (HGL1.out _ (getD_mem' hq)).1
          have HWQ := Go.Lib.hid hwq
          have HROW4 := Go.Lib.hid hrow4
          have HNC := Go.Lib.hid hnc
          have HONE5 := Go.Lib.hid hone5
          clear hwq hrow4 hnc hone5
          refine mixT_app1 eiRR (.tmp 48) (.tmp 50) rfl rfl rfl w.heap.size (v := .slice aq lq.length cq) (n := lq.length) (xs := encR lq) (ad := ⟨X4.heap.size, 0, none⟩) (c := 1) rfl rfl HWQ.out (news := [.string (mk rn), .int .i64 rty, .int .i64 1, .int .i64 rttl, .string (mk rd)]) rfl HNC.out HONE5.out (by unfold maxLen; omega) (by omega) (by simp; omega) (fun v5 X5 hown5 hg5 hsn5 => ?_)
          obtain ⟨g5, c5, rfl⟩ := ownsRow_succ hown5
          have hg6 : (X4.alloc (.cells #[.string (mk rn), .int .i64 rty, .int .i64 1, .int .i64 rttl, .string (mk rd)] 49)).grownBy X5 (Value.slice aq lq.length cq).ownBlock := ⟨hg5.os, hg5.tape, hg5.output, hg5.size, hg5.block⟩
          have hrow5 := HROW4.out.kept hg6 (rows_apart HROW4.out HWQ.out (by decide))
          have hc5 := (HC0.out.alloc (.cells #[.string (mk rn), .int .i64 rty, .int .i64 1, .int .i64 rttl, .string (mk rd)] 49)).keep (W' := X5) (fun p v hp hb => hg5.cell hp (by rcases hb with h | h <;> rw [h]; exact HAP.out.1; exact HAP.out.2))
          refine ⟨hc5, ?_⟩
          have y5 := hc5.1
          have y6 := (show X5.ownsRow w.heap.size 71 3 (.slice (some ⟨g3, 0, none⟩) (gs.length + 1) c3) (gs.length + 1) (encG gs1 vs1) from HLN1.out ▸ hrow5).frozenAt (gs.length * 3 + 2)
          have hb6 : Below w.heap.size w X5 := below_app ((HB4.out.alloc hz4 _).drew) HWQ.out hg5 (Nat.le_refl _) (by simp; omega)
          have HG5 := Go.Lib.hid hg6
          have HOWN5 := Go.Lib.hid hown5
          have HSN5 := Go.Lib.hid hsn5
          have HB6 := Go.Lib.hid hb6
          clear hrow5 hc5 hg5 hg6 hown5 hsn5 hb6 f2 r0' r1' r2' r3' r4'
          have hne5 : Nonempty (Subtype (CG g3 (gs.length * 3 + 2) (.slice aq lq.length cq) wr.heap.size ⟨rn, rty, 1, rttl, rd⟩)) := hne4
          iterate 2 (refine Go.Mix.mixT_step rfl (fun K hK => ?_); have HKK := Go.Lib.hid hK; clear hK; go_simp; refine HKK.out _ _ ?_; clear HKK K)
          refine Go.Mix.mixT_last rfl (fun K hK => ?_)
          have HKK := Go.Lib.hid hK
          clear hK
          go_simp
          refine HKK.out _ _ ?_
          clear HKK K
          have hput : OwnsG (X5.setCell ⟨g3, gs.length * 3 + 2, none⟩ (.slice (some ⟨g5, 0, none⟩) (lq.length + 1) c5)) w.heap.size (.slice (some ⟨g3, 0, none⟩) (gs.length + 1) c3) (gs1.set gs.length ⟨(gs1.getD gs.length g0).name, (gs1.getD gs.length g0).ty, (gs1.getD gs.length g0).l ++ [⟨rn, rty, 1, rttl, rd⟩]⟩) (vs1.set gs.length (.slice (some ⟨g5, 0, none⟩) (lq.length + 1) c5)) :=
            ownsG_put HO4.out hq ⟨rn, rty, 1, rttl, rd⟩ (.cells #[.string (mk rn), .int .i64 rty, .int .i64 1, .int .i64 rttl, .string (mk rd)] 49) (by rw [HLQ2.out]; exact HOWN5.out) (by rw [HV.out]; exact HG5.out) (by rw [HV.out]; exact HSN5.out)
          have hb7 := HB6.out.setCell (p := ⟨g3, gs.length * 3 + 2, none⟩) hb3g (.slice (some ⟨g5, 0, none⟩) (lq.length + 1) c5)
          rw [← HRES.out] at hput
          have HPUT := Go.Lib.hid hput
          have HB7 := Go.Lib.hid hb7
          clear hput hb7 y5 y6
          go_wp2_with fail
          go_roundw
          case rel =>
            refine ⟨k + 1, by go_num, by omega, _, HPUT.out, fun g hg => ?_, by rw [HRES.out, List.length_set]; exact HLEN1.out, HB7.out⟩
            rw [HRES.out] at hg
            rcases List.mem_or_eq_of_mem_set hg with h | h
            · exact ⟨Nat.le_succ_of_le (HGL1.out g h).1, (HGL1.out g h).2⟩
            · subst h
              have hm := HGL1.out _ (getD_mem' (d := g0) hq)
              refine ⟨by simp only [List.length_append, List.length_singleton]; exact Nat.succ_le_succ hm.1, fun x hx => ?_⟩
              rcases List.mem_append.1 hx with h | h
              · exact hm.2 x h
              · simp at h; rw [h]; exact HROK.out
          case measure => simp [intOf]; omega
          -- END TAIL
        · obtain ⟨q, rfl⟩ : ∃ q : Nat, ix = (q : Int) := ⟨ix.toNat, by omega⟩
          have hq : q < gs.length := by have := hil; omega
          go_wp2_with fail
          refine HIX.out.mono ?_; rintro e X2 ⟨rfl, hb2⟩
          have hO2 := HOX.out.below hb2
          have hb3 := HBX.out.trans (Below.mono hb2 HBX.out.size)
          have hr2 := (hb2.block _ (Array.getElem?_eq_some_iff.1 HRX.out).1).trans HRX.out
          obtain ⟨hmm, g3, cur3, rfl, hb3g, hh3, y0, y1, y2⟩ := ownsG_at hO2 (k := q) hq
          have hw2 := hO2.each q hq
          obtain ⟨aq, cq, hvq, _, _⟩ := (SlC.of_owns hw2).slice
          obtain ⟨lq, hlq⟩ : ∃ lq, lq = (gs.getD q g0).l := ⟨_, rfl⟩
          rw [← hlq] at hvq hw2
          rw [hvq] at y2 hw2
          have hms : q < gs.length ∧ gs.getD q g0 ∈ gs := ⟨hq, getD_mem' hq⟩
          have hgm := HGL.out _ hms.2
          rw [← hlq] at hgm
          have hrn : RROk ⟨rn, rty, 1, rttl, rd⟩ := HROK.out
          have hcR := cell_of_heap hr2
          have hat : RRAt X2 wr.heap.size 0 ⟨rn, rty, 1, rttl, rd⟩ := ⟨hcR 0, hcR 1, hcR 2, hcR 3, hcR 4⟩
          have hlt2 : wr.heap.size < X2.heap.size := (Array.getElem?_eq_some_iff.1 hr2).1
          have hhas := hasR_any 46 #[.pointer (some ⟨wr.heap.size, 0, none⟩)] (fun x => Rc.sameRR x ⟨rn, rty, 1, rttl, rd⟩) aq cq lq X2 (SlC.of_owns hw2) (by have := hgm.1; omega) (enters_of Try.func46 (by kernel_rfl) rfl) (fun W r hr hb => g2_any r ⟨rn, rty, 1, rttl, rd⟩ wr.heap.size W (hgm.2 r hr) hrn (hat.below hb hlt2) (Nat.lt_of_lt_of_le hlt2 hb.size))
          have hres0 := HGS2.out
          rw [if_neg (show ¬ ((q : Int) < 0) by omega), Int.toNat_natCast] at hres0
          unfold addTo at hres0
          rw [← hlq] at hres0
          have hqi : (q : Int) < (gs.length : Int) := by omega
          have HBB := Go.Lib.hid hb2
          have HB2 := Go.Lib.hid hb3
          have HO2 := Go.Lib.hid hO2
          have HR2 := Go.Lib.hid hr2
          have HHAS := Go.Lib.hid hhas
          have HRES0 := Go.Lib.hid hres0
          have HLQ := Go.Lib.hid hlq
          have HW2 := Go.Lib.hid hw2
          have HVQ := Go.Lib.hid hvq
          have HH3 := Go.Lib.hid hh3
          have HGM := Go.Lib.hid hgm
          clear hb2 hb3 hO2 hr2 hhas hres0 hlq hw2 hvq hh3 hgm
          clear hrn hcR hat hlt2 hms k0 k1 HIX HOX HBX HRX hmm y0 y1
          generalize hany : (lq.any fun x => Rc.sameRR x ⟨rn, rty, 1, rttl, rd⟩) = bb at *
          go_wp2_with fail
          refine HHAS.out.mono ?_; rintro e X4 ⟨rfl, hb4⟩
          cases bb with
          | true =>
            have hres : groupsN (l.take (k + 1)) = gs := by
              rw [HRES0.out]
              simp [List.getD_eq_getElem?_getD, hq]
            have ho4 := HO2.out.below hb4
            have hb5 := HB2.out.trans (Below.mono hb4 HB2.out.size)
            have HRES := Go.Lib.hid hres
            have HANY := Go.Lib.hid hany
            have HO4 := Go.Lib.hid ho4
            have HB4 := Go.Lib.hid hb5
            clear hres hany ho4 hb5
            clear hb4
            go_wp2_with fail
            go_roundw
            case rel => exact ⟨k + 1, by go_num, by omega, vs, by rw [HRES.out]; exact HO4.out, by rw [HRES.out]; exact fun g hg => ⟨Nat.le_succ_of_le (HGL.out g hg).1, (HGL.out g hg).2⟩, by rw [HRES.out]; omega, HB4.out⟩
            case measure => simp [intOf]; omega
          | false =>
            have hres : groupsN (l.take (k + 1)) = gs.set q ⟨(gs.getD q g0).name, (gs.getD q g0).ty, (gs.getD q g0).l ++ [⟨rn, rty, 1, rttl, rd⟩]⟩ := by
              rw [HRES0.out, ← HLQ.out]
              simp
            have ho4 := HO2.out.below hb4
            have y4 := (hb4.cell (p := ⟨g3, q * 3 + 2, none⟩) (World.block_lt_of_cell? _ _ y2)).trans y2
            have hr4 := (hb4.block _ (Array.getElem?_eq_some_iff.1 HR2.out).1).trans HR2.out
            have hb5 := HB2.out.trans (Below.mono hb4 HB2.out.size)
            have hlq2 : (gs.getD q g0).l = lq := HLQ.out.symm
            have hgl1 : ∀ g ∈ gs, g.l.length ≤ k ∧ ∀ x ∈ g.l, RROk x := HGL.out
            have hlen1 : gs.length ≤ k + 1 := by omega
            have hln1 : gs.length = gs.length := rfl
            have hap : some g3 ≠ (Value.slice aq lq.length cq).ownBlock ∧ some wr.heap.size ≠ (Value.slice aq lq.length cq).ownBlock := by
              refine ⟨?_, ?_⟩
              · have h := rows_apart HO2.out.row HW2.out (by decide)
                rcases h with h | h
                · simp [Value.ownBlock] at h
                · exact h
              · intro e
                have := ((HOG.out.each q hq).lt wr.heap.size (by rw [HVQ.out]; exact e.symm)).2
                omega
            have HRES := Go.Lib.hid hres
            have HO4 := Go.Lib.hid ho4
            have HR4 := Go.Lib.hid hr4
            have HB4 := Go.Lib.hid hb5
            have HB44 := Go.Lib.hid hb4
            have HLQ2 := Go.Lib.hid hlq2
            have HGL1 := Go.Lib.hid hgl1
            have HLEN1 := Go.Lib.hid hlen1
            have HLN1 := Go.Lib.hid hln1
            have HAP := Go.Lib.hid hap
            have HANY := Go.Lib.hid hany
            clear hres ho4 hr4 hb5 hb4 hlq2 hgl1 hlen1 hln1 hap hany
            have HV := HVQ
            clear y2
            -- TAIL B
            -- the record is put to its group's list
            have hz4 := HB4.out.size
            have hr4 := HR4.out
            have cR := cell_of_heap hr4
            have hC0 : CG g3 (q * 3 + 2) (.slice aq lq.length cq) wr.heap.size ⟨rn, rty, 1, rttl, rd⟩ X4 := ⟨y4, cR 0, cR 1, cR 2, cR 3, cR 4⟩
            have f2 := fun w3 => CG.vq (g := g3) (j := q * 3 + 2) (v := .slice aq lq.length cq) (rb := wr.heap.size) (r := ⟨rn, rty, 1, rttl, rd⟩) w3
            have r0' := fun w3 => CG.r0 (g := g3) (j := q * 3 + 2) (v := .slice aq lq.length cq) (rb := wr.heap.size) (r := ⟨rn, rty, 1, rttl, rd⟩) w3
            have r1' := fun w3 => CG.r1 (g := g3) (j := q * 3 + 2) (v := .slice aq lq.length cq) (rb := wr.heap.size) (r := ⟨rn, rty, 1, rttl, rd⟩) w3
            have r2' := fun w3 => CG.r2 (g := g3) (j := q * 3 + 2) (v := .slice aq lq.length cq) (rb := wr.heap.size) (r := ⟨rn, rty, 1, rttl, rd⟩) w3
            have r3' := fun w3 => CG.r3 (g := g3) (j := q * 3 + 2) (v := .slice aq lq.length cq) (rb := wr.heap.size) (r := ⟨rn, rty, 1, rttl, rd⟩) w3
            have r4' := fun w3 => CG.r4 (g := g3) (j := q * 3 + 2) (v := .slice aq lq.length cq) (rb := wr.heap.size) (r := ⟨rn, rty, 1, rttl, rd⟩) w3
            have hne4 : Nonempty (Subtype (CG g3 (q * 3 + 2) (.slice aq lq.length cq) wr.heap.size ⟨rn, rty, 1, rttl, rd⟩)) := ⟨⟨X4, hC0⟩⟩
            have HC0 := Go.Lib.hid hC0
            clear hC0 cR hr4
            go_wp2_with fail
            refine Go.Mix.wp_region_mixT (Es := [8, 9]) 12 (CG g3 (q * 3 + 2) (.slice aq lq.length cq) wr.heap.size ⟨rn, rty, 1, rttl, rd⟩) mixed (by kernel_rfl) HC0.out ?_
            iterate 8 (refine Go.Mix.mixT_step rfl (fun K hK => ?_); have HKK := Go.Lib.hid hK; clear hK; go_simp; refine HKK.out _ _ ?_; clear HKK K)
            refine Go.Mix.mixT_eff rfl (fun K hK => ?_)
            have HKK := Go.Lib.hid hK
            clear hK
            go_simp
            refine HKK.out _ _ (HC0.out.alloc _) ?_
            clear HKK K
            have hwq := (HO4.out.each q hq).alloc (.cells #[.string (mk rn), .int .i64 rty, .int .i64 1, .int .i64 rttl, .string (mk rd)] 49)
            rw [HV.out, HLQ2.out] at hwq
            have hrow4 := HO4.out.row.alloc (.cells #[.string (mk rn), .int .i64 rty, .int .i64 1, .int .i64 rttl, .string (mk rd)] 49)
            have hnc := new_cells X4 [.string (mk rn), .int .i64 rty, .int .i64 1, .int .i64 rttl, .string (mk rd)] 49
            have hone5 := one_rr ⟨rn, rty, 1, rttl, rd⟩
            have hlqk : lq.length ≤ k := by rw [← HLQ2.out]; exact (HGL1.out _ (getD_mem' hq)).1
            have HWQ := Go.Lib.hid hwq
            have HROW4 := Go.Lib.hid hrow4
            have HNC := Go.Lib.hid hnc
            have HONE5 := Go.Lib.hid hone5
            clear hwq hrow4 hnc hone5
            refine mixT_app1 eiRR (.tmp 48) (.tmp 50) rfl rfl rfl w.heap.size (v := .slice aq lq.length cq) (n := lq.length) (xs := encR lq) (ad := ⟨X4.heap.size, 0, none⟩) (c := 1) rfl rfl HWQ.out (news := [.string (mk rn), .int .i64 rty, .int .i64 1, .int .i64 rttl, .string (mk rd)]) rfl HNC.out HONE5.out (by unfold maxLen; omega) (by omega) (by simp; omega) (fun v5 X5 hown5 hg5 hsn5 => ?_)
            obtain ⟨g5, c5, rfl⟩ := ownsRow_succ hown5
            have hg6 : (X4.alloc (.cells #[.string (mk rn), .int .i64 rty, .int .i64 1, .int .i64 rttl, .string (mk rd)] 49)).grownBy X5 (Value.slice aq lq.length cq).ownBlock := ⟨hg5.os, hg5.tape, hg5.output, hg5.size, hg5.block⟩
            have hrow5 := HROW4.out.kept hg6 (rows_apart HROW4.out HWQ.out (by decide))
            have hc5 := (HC0.out.alloc (.cells #[.string (mk rn), .int .i64 rty, .int .i64 1, .int .i64 rttl, .string (mk rd)] 49)).keep (W' := X5) (fun p v hp hb => hg5.cell hp (by rcases hb with h | h <;> rw [h]; exact HAP.out.1; exact HAP.out.2))
            refine ⟨hc5, ?_⟩
            have y5 := hc5.1
            have y6 := (show X5.ownsRow w.heap.size 71 3 (.slice (some ⟨g3, 0, none⟩) gs.length c2) gs.length (encG gs vs) from hrow5).frozenAt (q * 3 + 2)
            have hb6 : Below w.heap.size w X5 := below_app ((HB4.out.alloc hz4 _).drew) HWQ.out hg5 (Nat.le_refl _) (by simp; omega)
            have HG5 := Go.Lib.hid hg6
            have HOWN5 := Go.Lib.hid hown5
            have HSN5 := Go.Lib.hid hsn5
            have HB6 := Go.Lib.hid hb6
            clear hrow5 hc5 hg5 hg6 hown5 hsn5 hb6 f2 r0' r1' r2' r3' r4'
            have hne5 : Nonempty (Subtype (CG g3 (q * 3 + 2) (.slice aq lq.length cq) wr.heap.size ⟨rn, rty, 1, rttl, rd⟩)) := hne4
            iterate 2 (refine Go.Mix.mixT_step rfl (fun K hK => ?_); have HKK := Go.Lib.hid hK; clear hK; go_simp; refine HKK.out _ _ ?_; clear HKK K)
            refine Go.Mix.mixT_last rfl (fun K hK => ?_)
            have HKK := Go.Lib.hid hK
            clear hK
            go_simp
            refine HKK.out _ _ ?_
            clear HKK K
            have hput : OwnsG (X5.setCell ⟨g3, q * 3 + 2, none⟩ (.slice (some ⟨g5, 0, none⟩) (lq.length + 1) c5)) w.heap.size (.slice (some ⟨g3, 0, none⟩) gs.length c2) (gs.set q ⟨(gs.getD q g0).name, (gs.getD q g0).ty, (gs.getD q g0).l ++ [⟨rn, rty, 1, rttl, rd⟩]⟩) (vs.set q (.slice (some ⟨g5, 0, none⟩) (lq.length + 1) c5)) :=
              ownsG_put HO4.out hq ⟨rn, rty, 1, rttl, rd⟩ (.cells #[.string (mk rn), .int .i64 rty, .int .i64 1, .int .i64 rttl, .string (mk rd)] 49) (by rw [HLQ2.out]; exact HOWN5.out) (by rw [HV.out]; exact HG5.out) (by rw [HV.out]; exact HSN5.out)
            have hb7 := HB6.out.setCell (p := ⟨g3, q * 3 + 2, none⟩) hb3g (.slice (some ⟨g5, 0, none⟩) (lq.length + 1) c5)
            rw [← HRES.out] at hput
            have HPUT := Go.Lib.hid hput
            have HB7 := Go.Lib.hid hb7
            clear hput hb7 y5 y6
            go_wp2_with fail
            go_roundw
            case rel =>
              refine ⟨k + 1, by go_num, by omega, _, HPUT.out, fun g hg => ?_, by rw [HRES.out, List.length_set]; exact HLEN1.out, HB7.out⟩
              rw [HRES.out] at hg
              rcases List.mem_or_eq_of_mem_set hg with h | h
              · exact ⟨Nat.le_succ_of_le (HGL1.out g h).1, (HGL1.out g h).2⟩
              · subst h
                have hm := HGL1.out _ (getD_mem' (d := g0) hq)
                refine ⟨by simp only [List.length_append, List.length_singleton]; exact Nat.succ_le_succ hm.1, fun x hx => ?_⟩
                rcases List.mem_append.1 hx with h | h
                · exact hm.2 x h
                · simp at h; rw [h]; exact HROK.out
            case measure => simp [intOf]; omega
            -- END TAIL
      · have q1 : (r.cl != 1) = true := by simp [hcl]
        have hres : Hid (groupsN (l.take (k + 1)) = gs) := Go.Lib.hid (by rw [HGS.out]; unfold addG; rw [if_neg hcl])
        clear hcl
        go_wp2_with fail
        go_roundw
        case rel => exact ⟨k + 1, by go_num, by omega, vs, by rw [hres.out]; exact OwnsG.below HOG.out ((Below.refl _ _).alloc (Nat.le_refl _) _), by rw [hres.out]; exact fun g hg => ⟨Nat.le_succ_of_le (HGL.out g hg).1, (HGL.out g hg).2⟩, by rw [hres.out]; omega, HB.out.alloc hbz _⟩
        case measure => simp [intOf]; omega
    · obtain rfl : k = N := by omega
      have hall : l.take k = l := by rw [← HN.out, List.take_length]
      have HOG := Go.Lib.hid hog
      have HB := Go.Lib.hid hbr
      have HALL := Go.Lib.hid hall
      clear hog hbr hall
      go_wp2_with fail
      go_ret
      refine ⟨_, vs, rfl, ?_, HB.out⟩
      have h := HOG.out
      rw [HALL.out] at h
      have he := HALL.out
      simp only [he] at h ⊢
      exact h
end Go.Proofs.Ytcamopppeanipaa

