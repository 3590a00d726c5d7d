/- Flight: the table's Of, Add, Drop. -/
import Derived.Test.YtblbphnmflbepaaFlI
import Derived.Test.YtblbphnmflbepaaOrdT
namespace Go.Proofs.Ytblbphnmflbepaa
open Go.RowKit Go.Lib
set_option linter.unusedVariables false

/-- a block's nine cells -/
structure SnBox (w : World) (b o : Nat) (s : Sn) : Prop where
  e0 : w.cell? ⟨b, o, none⟩ = some (.int .i64 s.job)
  e1 : w.cell? ⟨b, o + 1, none⟩ = some (.int .i64 s.id)
  e2 : w.cell? ⟨b, o + 2, none⟩ = some (.int .i64 s.port)
  e3 : w.cell? ⟨b, o + 3, none⟩ = some (.string (Go.Proofs.Ytblbphnmflbepaa.mk s.sn))
  e4 : w.cell? ⟨b, o + 4, none⟩ = some (.int .i64 s.sa)
  e5 : w.cell? ⟨b, o + 5, none⟩ = some (.string (Go.Proofs.Ytblbphnmflbepaa.mk s.qn))
  e6 : w.cell? ⟨b, o + 6, none⟩ = some (.int .i64 s.qt)
  e7 : w.cell? ⟨b, o + 7, none⟩ = some (.int .i64 s.qc)
  e8 : w.cell? ⟨b, o + 8, none⟩ = some (.string (Go.Proofs.Ytblbphnmflbepaa.mk s.zone))
structure SnBlk (w : World) (b : Nat) (s : Sn) : Prop where
  e0 : w.cell? ⟨b, 0, none⟩ = some (.int .i64 s.job)
  e1 : w.cell? ⟨b, 1, none⟩ = some (.int .i64 s.id)
  e2 : w.cell? ⟨b, 2, none⟩ = some (.int .i64 s.port)
  e3 : w.cell? ⟨b, 3, none⟩ = some (.string (Go.Proofs.Ytblbphnmflbepaa.mk s.sn))
  e4 : w.cell? ⟨b, 4, none⟩ = some (.int .i64 s.sa)
  e5 : w.cell? ⟨b, 5, none⟩ = some (.string (Go.Proofs.Ytblbphnmflbepaa.mk s.qn))
  e6 : w.cell? ⟨b, 6, none⟩ = some (.int .i64 s.qt)
  e7 : w.cell? ⟨b, 7, none⟩ = some (.int .i64 s.qc)
  e8 : w.cell? ⟨b, 8, none⟩ = some (.string (Go.Proofs.Ytblbphnmflbepaa.mk s.zone))
theorem SnAt.box {w : World} {b o : Nat} {s : Sn} (h : SnAt w b o s) : SnBox w b o s := ⟨h 0 (by decide), h 1 (by decide), h 2 (by decide), h 3 (by decide), h 4 (by decide), h 5 (by decide), h 6 (by decide), h 7 (by decide), h 8 (by decide)⟩
theorem SnBlk.of_heap {w : World} {b : Nat} {s : Sn} {T : TypeId} {fr : Nat × Nat} (h : w.heap[b]? = some (.cells #[.int .i64 s.job, .int .i64 s.id, .int .i64 s.port, .string (Go.Proofs.Ytblbphnmflbepaa.mk s.sn), .int .i64 s.sa, .string (Go.Proofs.Ytblbphnmflbepaa.mk s.qn), .int .i64 s.qt, .int .i64 s.qc, .string (Go.Proofs.Ytblbphnmflbepaa.mk s.zone)] T fr)) : SnBlk w b s := ⟨by simp [World.cell?, h], by simp [World.cell?, h], by simp [World.cell?, h], by simp [World.cell?, h], by simp [World.cell?, h], by simp [World.cell?, h], by simp [World.cell?, h], by simp [World.cell?, h], by simp [World.cell?, h]⟩
abbrev snA (s : Sn) : Array Value := #[.int .i64 s.job, .int .i64 s.id, .int .i64 s.port, .string (mk s.sn), .int .i64 s.sa, .string (mk s.qn), .int .i64 s.qt, .int .i64 s.qc, .string (mk s.zone)]
theorem snA_list (s : Sn) : (snA s).toList = snC s := rfl
theorem snA_one (s : Sn) : ∀ v ∈ (snA s).toList, v.oneCell' = true := by
  have e : encN [s] = (snA s).toList := by simp [encN, snC]
  rw [← e]
  exact encN_one [s]
/-- what an act of a table wants: the list's slice, and what was sent in its box -/
structure InT (b : Nat) (v : Value) (rb : Nat) (s : Sn) (w : World) : Prop where
  vc : w.cell? ⟨b, 1, none⟩ = some v
  bx : SnBlk w rb s
theorem inT_r0 {b : Nat} {v : Value} {rb : Nat} {s : Sn} (w3 : Subtype (InT b v rb s)) : w3.1.cell? ⟨rb, 0, none⟩ = some (.int .i64 s.job) := w3.2.bx.e0
theorem inT_r1 {b : Nat} {v : Value} {rb : Nat} {s : Sn} (w3 : Subtype (InT b v rb s)) : w3.1.cell? ⟨rb, 1, none⟩ = some (.int .i64 s.id) := w3.2.bx.e1
theorem inT_r2 {b : Nat} {v : Value} {rb : Nat} {s : Sn} (w3 : Subtype (InT b v rb s)) : w3.1.cell? ⟨rb, 2, none⟩ = some (.int .i64 s.port) := w3.2.bx.e2
theorem inT_r3 {b : Nat} {v : Value} {rb : Nat} {s : Sn} (w3 : Subtype (InT b v rb s)) : w3.1.cell? ⟨rb, 3, none⟩ = some (.string (mk s.sn)) := w3.2.bx.e3
theorem inT_r4 {b : Nat} {v : Value} {rb : Nat} {s : Sn} (w3 : Subtype (InT b v rb s)) : w3.1.cell? ⟨rb, 4, none⟩ = some (.int .i64 s.sa) := w3.2.bx.e4
theorem inT_r5 {b : Nat} {v : Value} {rb : Nat} {s : Sn} (w3 : Subtype (InT b v rb s)) : w3.1.cell? ⟨rb, 5, none⟩ = some (.string (mk s.qn)) := w3.2.bx.e5
theorem inT_r6 {b : Nat} {v : Value} {rb : Nat} {s : Sn} (w3 : Subtype (InT b v rb s)) : w3.1.cell? ⟨rb, 6, none⟩ = some (.int .i64 s.qt) := w3.2.bx.e6
theorem inT_r7 {b : Nat} {v : Value} {rb : Nat} {s : Sn} (w3 : Subtype (InT b v rb s)) : w3.1.cell? ⟨rb, 7, none⟩ = some (.int .i64 s.qc) := w3.2.bx.e7
theorem inT_r8 {b : Nat} {v : Value} {rb : Nat} {s : Sn} (w3 : Subtype (InT b v rb s)) : w3.1.cell? ⟨rb, 8, none⟩ = some (.string (mk s.zone)) := w3.2.bx.e8
theorem inT_v1 {b : Nat} {v : Value} {rb : Nat} {s : Sn} (w3 : Subtype (InT b v rb s)) : w3.1.cell? ⟨b, 1, none⟩ = some v := w3.2.vc

/-- a struct's cells put into a row -/
theorem mixT_store_cells {P : Program} {w : World} {ops : Array Oper} {o : Oper} {a : Act} {Es : List Nat} {C : World → Prop} {Q : Act → World → Prop} {k tl : Nat} (ty : TypeId) (x y : Operand)
    (hk : (k == tl) = true) (hgd : Region.wanted o (yielded ops a.tmps) = true) (ho : o.op = .store ty x y) (b off : Nat) (cells : Array Value) (hx : a.eval x = .pointer (some ⟨b, off, none⟩)) (hy : a.eval y = .agg cells)
    (hi : (P.info? ty).map (·.size) = some cells.size) (hc : ∀ j, j < cells.size → (w.cell? ⟨b, off + j, none⟩).isSome = true) (hf : ∀ j, j < cells.size → w.frozen? ⟨b, off + j, none⟩ = false)
    (h1 : ∀ v ∈ cells.toList, v.oneCell' = true) (h : Q (a.put o.dst undef) (w.setCells b off cells.toList)) :
    Go.Mix.MixT P ops (fun k => Es.contains k) C Q tl k [o] a w :=
  Go.Mix.mixT_last hk fun K hK => by
    rw [if_pos hgd]
    have hst := run_storeCells_cells (P := P) b off cells.toList 0 w (by simpa using hc) (by simpa using hf) h1
    have hrun : (storeVar ty ⟨b, off, none⟩ (.agg cells)).run P w = .ok () (w.setCells b off cells.toList) := by
      cases hq : P.info? ty with
      | none => simp [hq] at hi
      | some i =>
        have hs : cells.size = i.size := by simp [hq] at hi; omega
        simp only [Nat.add_zero] at hst
        simp [storeVar, sizeOf, typeInfo, hq, Value.cells, hs, hst]
    unfold Oper.wp execOp
    simp only [ho, hx, hy, Instr.storeAt, Instr.sureAddr, Sem.run_bind, Sem.run_pure, Result.andThen_ok, hrun]
    exact hK _ _ h
/-- what was sent in a variable of its own, and a second one in a slot -/
theorem ret_sn {fn : Func} {p q : Tmp} {a : Act} {W : World} {R : Ending → World → Prop} {s : Sn} {y : Value} {g : Nat} (hr : fn.results = #[.cell p 36, .tmp q]) (hp : a.tmps.getD p undef = .pointer (some ⟨g, 0, none⟩)) (hq : a.tmps.getD q undef = y) (hd : a.defers = [])
    (hg : W.heap[g]? = some (.cells (snA s) 36 (0, 0))) (h : R (.returned (.tuple #[snV s, y])) W) : bodyPost Try.prog fn R Exit.ret a W := by
  obtain ⟨fs, hu⟩ : ∃ fs, Try.prog.underlying 36 = some (.struct fs) := ⟨_, Try.underlying36⟩
  refine bodyPost_ret (v := .tuple #[snV s, y]) ?_ hd h
  have hp' : a.tmps[p]?.getD undef = .pointer (some ⟨g, 0, none⟩) := by simpa using hp
  have hq' : a.tmps[q]?.getD undef = y := by simpa using hq
  simp [results, hr, hp', hq', asAddr, run_loadVar_row W g _ 36 (snA s) (0, 0) _ hg hu rfl sn_size]
theorem setCells_full {T : TypeId} {fr : Nat × Nat} {g : Nat} : ∀ (vs : List Value) (i : Nat) (w : World) (cur : Array Value), w.heap[g]? = some (.cells cur T fr) → cur.size = i + vs.length →
    w.setCells g i vs = w.setRow g (cur.toList.take i ++ vs).toArray
  | [], i, w, cur, h, hs => by
    rw [List.append_nil, List.take_of_length_le (by simp at hs ⊢; omega)]
    show w = _
    rw [show cur.toList.toArray = cur from rfl, setRow_self w g cur T fr h]
  | v :: r, i, w, cur, h, hs => by
    have e : w.setCell ⟨g, i, none⟩ v = w.setRow g (cur.setIfInBounds i v) := setCell_eq_setRow w g i cur T fr v h
    rw [World.setCells, e, setCells_full r (i + 1) _ _ (setRow_heap w g cur _ T fr h) (by simp at hs ⊢; omega), setRow_setRow]
    congr 2
    have hi : i < cur.toList.length := by simp at hs ⊢; omega
    rw [Array.toList_setIfInBounds, List.take_succ_eq_append_getElem (by simpa using hi), List.take_set_of_le (Nat.le_refl _)]
    simp
theorem box_set {w : World} {g : Nat} {s s1 : Sn} (hg : w.heap[g]? = some (.cells (snA s1) 36 (0, 0))) : w.setCells g 0 (snC s) = w.setRow g (snA s) := by
  have := setCells_full (snC s) 0 w (snA s1) hg rfl
  rw [this]; rfl
theorem heap_row {w : World} {g : Nat} {old cs : Array Value} {T : TypeId} {fr : Nat × Nat} (hg : w.heap[g]? = some (.cells old T fr)) : (w.setRow g cs).heap[g]? = some (.cells cs T fr) := setRow_heap w g old cs T fr hg
theorem below_row {B : Nat} {w w' : World} {g : Nat} (h : Below B w w') (hg : B ≤ g) (cs : Array Value) : Below B w (w'.setRow g cs) :=
  ⟨h.os, h.tape, h.output, by rw [setRow_size]; exact h.size, fun k hk => by rw [setRow_other _ _ _ _ (by omega)]; exact h.block k hk⟩
theorem ret_sn2 {fn : Func} {p q : Tmp} {a : Act} {w : World} {R : Ending → World → Prop} {s s1 : Sn} {y : Value} {g : Nat} (hr : fn.results = #[.cell p 36, .tmp q]) (hp : a.tmps.getD p undef = .pointer (some ⟨g, 0, none⟩)) (hq : a.tmps.getD q undef = y) (hd : a.defers = [])
    (hg : w.heap[g]? = some (.cells (snA s1) 36 (0, 0))) (h : R (.returned (.tuple #[snV s, y])) (w.setRow g (snA s))) : bodyPost Try.prog fn R Exit.ret a (w.setCells g 0 (snC s)) := by
  rw [box_set hg]
  exact ret_sn hr hp hq hd (heap_row hg) h
theorem posN_lt {l : List Sn} {t : Int} (h : hasN l t = true) : posN l t < l.length := (of_decide_eq_true h).1
theorem getD_job {l : List Sn} {t : Int} (h : hasN l t = true) : (l.getD (posN l t) s0).job = t := (of_decide_eq_true h).2
set_option maxHeartbeats 1000000 in
theorem Of_any (base b : Nat) (most : Int) (l : List Sn) (t : Int) (w : World) (hT : IsTab base b most l w) (hup : JobsUp l) (hn : l.length ≤ 1099511627776) :
    Calls Try.prog 17 #[.pointer (some ⟨b, 0, none⟩), .int .i64 t] w fun e w' =>
      e = .returned (.tuple #[snV (ofN l t).1, .bool (ofN l t).2]) ∧ Below w.heap.size w w' := by
  have hc := fun W h => place_any base b most l t W (hT.below h) hup hn
  have hT0 := hT
  obtain ⟨hbb, v, hb, ho⟩ := hT
  have hs := SlC.of_owns ho
  obtain ⟨a, cap, rfl, hnc, hcm⟩ := hs.slice
  cases hh : hasN l t with
  | false =>
    have hr : Hid (ofN l t = (s0, false)) := Go.Lib.hid (by unfold ofN; rw [hh]; rfl)
    rw [hh] at hc
    have HC := Go.Lib.hid hc
    clear hc
    clear hs hb ho hup hT0
    go_enter Try.func17, Try.ntmps17
    go_wp2_with fail
    refine (HC.out _ ((Below.refl _ w).alloc (Nat.le_refl _) _)).mono ?_; rintro e wb ⟨rfl, hx⟩
    have hb2 := ((Below.refl w.heap.size w).alloc (Nat.le_refl _) (.cells (snA s0) 36)).trans (hx.mono (by simp))
    have hbox : wb.heap[w.heap.size]? = some (.cells (snA s0) 36 (0, 0)) := (hx.block _ (by simp)).trans (heap_alloc_new _ _)
    have hfr : ∀ i, wb.frozen? ⟨w.heap.size, i, none⟩ = false := frozen_row hbox
    obtain ⟨b0, b1, b2, b3, b4, b5, b6, b7, b8⟩ := SnBlk.of_heap hbox
    have HX := Go.Lib.hid hx
    have HB2 := Go.Lib.hid hb2
    have HBX := Go.Lib.hid hbox
    clear hx hb2 hbox
    go_wp2_with fail
    refine ret_sn2 (w := wb) (s := s0) (s1 := s0) (g := w.heap.size) (y := .bool false) rfl rfl rfl rfl HBX.out ⟨by rw [hr.out], below_row HB2.out (Nat.le_refl _) _⟩
  | true =>
    obtain ⟨k, hk⟩ : ∃ k, k = posN l t := ⟨_, rfl⟩
    have hkl : k < l.length := by rw [hk]; exact posN_lt hh
    have hr : Hid (ofN l t = (l.getD k s0, true)) := Go.Lib.hid (by unfold ofN; rw [hh, hk]; rfl)
    rw [hh, ← hk] at hc
    obtain ⟨g, off, rfl, hgw, hcell⟩ := Sns.at (hs : Sns w (.slice a l.length cap) l) (by omega)
    have hat := hcell k hkl
    generalize hS : l.getD k s0 = s at *
    have hgl : g < w.heap.size := hgw
    have HC := Go.Lib.hid hc
    have HAT := Go.Lib.hid hat
    clear hc hat
    clear hs hup hT0 hcell ho hk
    go_enter Try.func17, Try.ntmps17
    go_wp2_with fail
    refine (HC.out _ ((Below.refl _ w).alloc (Nat.le_refl _) _)).mono ?_; rintro e wb ⟨rfl, hx⟩
    have hb2 := ((Below.refl w.heap.size w).alloc (Nat.le_refl _) (.cells (snA s0) 36)).trans (hx.mono (by simp))
    have hbox : wb.heap[w.heap.size]? = some (.cells (snA s0) 36 (0, 0)) := (hx.block _ (by simp)).trans (heap_alloc_new _ _)
    have hat2 : SnAt wb g (off + k * 9) s := fun i hi => (hb2.cell (p := ⟨g, off + k * 9 + i, none⟩) hgl).trans (HAT.out i hi)
    have hbl := (Array.getElem?_eq_some_iff.1 hb).1
    have c1 : wb.cell? ⟨b, 1, none⟩ = some (.slice (some ⟨g, off, none⟩) l.length cap) := (hb2.cell (p := ⟨b, 1, none⟩) hbl).trans (by simp [World.cell?, hb])
    obtain ⟨e0, e1, e2, e3, e4, e5, e6, e7, e8⟩ := hat2.box
    have hfr : ∀ i, wb.frozen? ⟨w.heap.size, i, none⟩ = false := frozen_row hbox
    obtain ⟨b0, b1, b2, b3, b4, b5, b6, b7, b8⟩ := SnBlk.of_heap hbox
    have HX := Go.Lib.hid hx
    have HB2 := Go.Lib.hid hb2
    have HBX := Go.Lib.hid hbox
    clear hx hb2 hbox
    clear hat2
    go_wp2_with fail
    refine ret_sn2 (w := wb) (s := s) (s1 := s0) (g := w.heap.size) (y := .bool true) rfl rfl rfl rfl HBX.out ⟨by rw [hr.out], below_row HB2.out (Nat.le_refl _) _⟩
/-- a row that is owned, one element set -/
theorem owns_set {w : World} {base g n cap k : Nat} {l : List Sn} {s : Sn} (ho : w.ownsRow base 36 9 (.slice (some ⟨g, 0, none⟩) n cap) n (encN l)) (hl : l.length = n) (hk : k < n) :
    (w.setCells g (k * 9) (snC s)).ownsRow base 36 9 (.slice (some ⟨g, 0, none⟩) n cap) n (encN (l.set k s)) ∧ w.grownBy (w.setCells g (k * 9) (snC s)) (some g) := by
  rcases ho.2 with ⟨h, _⟩ | ⟨g', cap', cur, hv, hbg, hg, hnc, hcm, hcz, htk⟩
  · cases h
  · simp only [Value.slice.injEq, Option.some.injEq, Addr.mk.injEq, and_true, true_and] at hv
    obtain ⟨rfl, rfl⟩ := hv
    obtain ⟨c2, h2, hz2, hgr⟩ := setCells_row (snC s) (k * 9) w cur hg
    have hsz : n * 9 ≤ cap * 9 := Nat.mul_le_mul_right _ hnc
    have hsp : ∀ j, j < n * 9 → (w.cell? ⟨g, j, none⟩).isSome = true := fun j hj => by
      rw [cell_row hg, Array.getElem?_eq_getElem (by omega)]; rfl
    refine ⟨owns_of_cells h2 hbg hnc hcm (by rw [hz2, hcz]) (by rw [encN_length, List.length_set, hl]) ?_, hgr⟩
    intro j hj
    have hset : l.set k s = l.take k ++ [s] ++ l.drop (k + 1) := by
      rw [List.set_eq_take_append_cons_drop, if_pos (by omega)]; simp
    have htl : (encN (l.take k)).length = k * 9 := by rw [encN_length, List.length_take]; omega
    have hone : encN [s] = snC s := by simp [encN]
    have hsl : (snC s).length = 9 := rfl
    have hold : ∀ j, j < n * 9 → w.cell? ⟨g, j, none⟩ = (encN l)[j]? := fun j hj => by
      rw [cell_row hg, ← htk, List.getElem?_take, if_pos hj]; simp
    rw [hset, encN_append, encN_append, hone]
    by_cases h1 : j < k * 9
    · rw [World.cell?_setCells_out g _ _ _ ⟨g, j, none⟩ (fun _ _ => .inl h1), hold j hj, List.append_assoc, List.getElem?_append_left (by omega), encN_take, List.getElem?_take, if_pos h1]
    · by_cases h3 : j < k * 9 + 9
      · have := World.cell?_setCells_in g (snC s) (k * 9) w (fun t ht => hsp _ (by rw [hsl] at ht; omega)) (j - k * 9) (by rw [hsl]; omega)
        rw [show k * 9 + (j - k * 9) = j by omega] at this
        rw [this, List.append_assoc, List.getElem?_append_right (by omega), htl, List.getElem?_append_left (by rw [hsl]; omega), List.getElem?_eq_getElem (by rw [hsl]; omega)]
      · rw [World.cell?_setCells_out g _ _ _ ⟨g, j, none⟩ (fun _ _ => .inr (by rw [hsl]; show _ ≤ j; omega)), hold j hj, List.getElem?_append_right (by rw [List.length_append, htl, hsl]; omega), List.length_append, htl, hsl, encN_drop, List.getElem?_drop, show (k + 1) * 9 + (j - (k * 9 + 9)) = j by omega]

set_option maxHeartbeats 4000000 in
set_option maxRecDepth 100000 in
theorem Add_any (base b : Nat) (most : Int) (l : List Sn) (s : Sn) (w : World) (hT : IsTab base b most l w) (hup : JobsUp l) (hn : l.length ≤ 274877906944) (hbase : base ≤ w.heap.size) :
    Calls Try.prog 10 #[.pointer (some ⟨b, 0, none⟩), snV s] w fun e w' =>
      e = .returned (.int .i64 (addN most l s).2) ∧ IsTab base b most (addN most l s).1 w' ∧ Below base w w' ∧ KeepsT b w w' := by
  have mixed : Try.prog.follows .mixedOrders = true := by kernel_rfl
  have hc := fun W h => place_any base b most l s.job W (hT.below h) hup (by omega)
  obtain ⟨hbb, v, hb, ho⟩ := hT
  obtain ⟨a, cap, rfl, hnc, hcm⟩ := (SlC.of_owns ho).slice
  have hbl := (Array.getElem?_eq_some_iff.1 hb).1
  obtain ⟨k, hk⟩ : ∃ k, k = posN l s.job := ⟨_, rfl⟩
  have hkl : k ≤ l.length := by rw [hk]; exact pos_le _ _
  have hb1 : Below w.heap.size w (w.alloc (.cells (snA s) 36)) := (Below.refl _ w).alloc (Nat.le_refl _) _
  rw [← hk] at hc
  cases hh : hasN l s.job with
  | true =>
    have hr : Hid (addN most l s = (l.set k s, 0)) := Go.Lib.hid (by unfold addN; rw [hh, hk]; rfl)
    have hkl2 : k < l.length := by rw [hk]; exact posN_lt hh
    rw [hh] at hc
    rcases ho.2 with ⟨h, h0⟩ | ⟨g, cap', cur, hv, hbg, hg, _, _, hcz, htk⟩
    · omega
    simp only [Value.slice.injEq, true_and] at hv
    obtain ⟨rfl, rfl⟩ := hv
    have hgb : g ≠ b := fun e => by rw [e, hb] at hg; simp only [Option.some.injEq, Obj.cells.injEq] at hg; exact absurd hg.2.1 tab_ne
    have hgl := (Array.getElem?_eq_some_iff.1 hg).1
    have HC := Go.Lib.hid hc
    have HO := Go.Lib.hid ho
    have HB := Go.Lib.hid hb
    have HG := Go.Lib.hid hg
    clear hc ho hb hg
    clear hup hk hh
    go_enter Try.func10, Try.ntmps10
    go_wp2_with fail
    refine (HC.out _ ((Below.refl _ w).alloc (Nat.le_refl _) _)).mono ?_; rintro e wb ⟨rfl, hx⟩
    have hb2 : Below w.heap.size w wb := hb1.trans (hx.mono (by simp))
    have hbox : wb.heap[w.heap.size]? = some (.cells (snA s) 36 (0, 0)) := (hx.block _ (by simp)).trans (heap_alloc_new _ _)
    have hb3 : wb.heap[b]? = _ := (hb2.block b hbl).trans HB.out
    have ho3 := owns_below HO.out hb2
    have hg3 : wb.heap[g]? = _ := (hb2.block g hgl).trans HG.out
    have hIn : InT b (.slice (some ⟨g, 0, none⟩) l.length cap) w.heap.size s wb.drew := ⟨by show wb.cell? _ = _; simp [World.cell?, hb3], SnBlk.of_heap (w := wb.drew) hbox⟩
    have c0 := fun w3 => inT_r0 (b := b) (v := .slice (some ⟨g, 0, none⟩) l.length cap) (rb := w.heap.size) (s := s) w3
    have c1 := fun w3 => inT_r1 (b := b) (v := .slice (some ⟨g, 0, none⟩) l.length cap) (rb := w.heap.size) (s := s) w3
    have c2 := fun w3 => inT_r2 (b := b) (v := .slice (some ⟨g, 0, none⟩) l.length cap) (rb := w.heap.size) (s := s) w3
    have c3 := fun w3 => inT_r3 (b := b) (v := .slice (some ⟨g, 0, none⟩) l.length cap) (rb := w.heap.size) (s := s) w3
    have c4 := fun w3 => inT_r4 (b := b) (v := .slice (some ⟨g, 0, none⟩) l.length cap) (rb := w.heap.size) (s := s) w3
    have c5 := fun w3 => inT_r5 (b := b) (v := .slice (some ⟨g, 0, none⟩) l.length cap) (rb := w.heap.size) (s := s) w3
    have c6 := fun w3 => inT_r6 (b := b) (v := .slice (some ⟨g, 0, none⟩) l.length cap) (rb := w.heap.size) (s := s) w3
    have c7 := fun w3 => inT_r7 (b := b) (v := .slice (some ⟨g, 0, none⟩) l.length cap) (rb := w.heap.size) (s := s) w3
    have c8 := fun w3 => inT_r8 (b := b) (v := .slice (some ⟨g, 0, none⟩) l.length cap) (rb := w.heap.size) (s := s) w3
    have cv := fun w3 => inT_v1 (b := b) (v := .slice (some ⟨g, 0, none⟩) l.length cap) (rb := w.heap.size) (s := s) w3
    have hne : Nonempty (Subtype (InT b (.slice (some ⟨g, 0, none⟩) l.length cap) w.heap.size s)) := ⟨⟨_, hIn⟩⟩
    have hset := owns_set (s := s) (show wb.drew.ownsRow base 36 9 (.slice (some ⟨g, 0, none⟩) l.length cap) l.length (encN l) from ho3) rfl hkl2
    have hsp : ∀ j, j < (snA s).size → (wb.drew.cell? ⟨g, k * 9 + j, none⟩).isSome = true := fun j hj => by
      have : (snA s).size = 9 := rfl
      have h2 : (k + 1) * 9 ≤ cap * 9 := Nat.mul_le_mul_right _ (by omega)
      show (wb.cell? _).isSome = true
      rw [cell_row hg3, Array.getElem?_eq_getElem (by omega)]; rfl
    have hfz : ∀ j, j < (snA s).size → wb.drew.frozen? ⟨g, k * 9 + j, none⟩ = false := fun j hj => by
      show wb.frozen? _ = false
      exact frozen_row hg3 _
    have HB2 := Go.Lib.hid hb2
    have HBX := Go.Lib.hid hbox
    have HB3 := Go.Lib.hid hb3
    have HO3 := Go.Lib.hid ho3
    have HG3 := Go.Lib.hid hg3
    have HSET := Go.Lib.hid hset
    have HSP := Go.Lib.hid hsp
    have HFZ := Go.Lib.hid hfz
    have HIN := Go.Lib.hid hIn
    clear hb2 hbox hb3 ho3 hg3 hset hsp hfz hIn
    clear hx
    go_wp2_with fail
    refine Go.Mix.wp_region_mixT (Es := []) 7 (InT b (.slice (some ⟨g, 0, none⟩) l.length cap) w.heap.size s) mixed (by kernel_rfl) HIN.out ?_
    iterate 7 (refine Go.Mix.mixT_step rfl (fun K hK => ?_); have HKK := Go.Lib.hid hK; clear hK; go_simp; refine HKK.out _ _ ?_; clear HKK K)
    refine mixT_store_cells 36 (.tmp 35) (.tmp 34) rfl rfl rfl g (k * 9) (snA s) rfl rfl sn_size HSP.out HFZ.out (snA_one s) ?_
    clear c0 c1 c2 c3 c4 c5 c6 c7 c8 cv hne
    go_wp2_with fail
    go_ret
    rw [hr.out]
    refine ⟨rfl, ⟨hbb, _, ?_, by rw [List.length_set]; exact HSET.out.1⟩, ?_, ?_⟩
    · show (wb.drew.setCells g (k * 9) (snC s)).heap[b]? = _
      rw [HSET.out.2.block b (by show b < wb.heap.size; have := HB2.out.size; omega) (fun e => hgb (by simpa using e.symm))]
      exact HB3.out
    · exact ((HB2.out.mono hbase).drew).grown HSET.out.2 (by have := HB2.out.size; show base ≤ wb.heap.size; omega) (fun k hk => by simp only [Option.some.injEq] at hk; omega)
    · exact KeepsT.act0 (v := .slice (some ⟨g, 0, none⟩) l.length cap) hbl HB2.out.drew (show wb.drew.heap[b]? = _ from HB3.out) HSET.out.2 (fun e => hgb (by simpa [Value.ownBlock] using e))
  | false =>
    by_cases hm : most ≤ (l.length : Int)
    · have hr : Hid (addN most l s = (l, 4)) := Go.Lib.hid (by unfold addN; rw [hh, if_pos hm]; rfl)
      have hT0 : IsTab base b most l w := ⟨hbb, _, hb, ho⟩
      rw [hh] at hc
      have HC := Go.Lib.hid hc
      have HO := Go.Lib.hid ho
      have HB := Go.Lib.hid hb
      have HT0 := Go.Lib.hid hT0
      clear hc ho hb hT0
      clear hup hk hh
      go_enter Try.func10, Try.ntmps10
      go_wp2_with fail
      refine (HC.out _ ((Below.refl _ w).alloc (Nat.le_refl _) _)).mono ?_; rintro e wb ⟨rfl, hx⟩
      have hb2 : Below w.heap.size w wb := hb1.trans (hx.mono (by simp))
      have hb3 : wb.heap[b]? = _ := (hb2.block b hbl).trans HB.out
      have x0 : wb.cell? ⟨b, 0, none⟩ = some (.int .i64 most) := by simp [World.cell?, hb3]
      have x1 : wb.cell? ⟨b, 1, none⟩ = some (.slice a l.length cap) := by simp [World.cell?, hb3]
      have HB2 := Go.Lib.hid hb2
      clear hb2
      clear hx hb3
      go_wp2_with fail
      go_quiet (fail)
      go_wp2_with fail
      go_ret
      rw [hr.out]
      exact ⟨rfl, HT0.out.below (below_drewN HB2.out _), below_drewN (HB2.out.mono hbase) _, KeepsT.below hbl (below_drewN HB2.out _)⟩
    · have hr : Hid (addN most l s = (l.take k ++ [s] ++ l.drop k, 0)) := Go.Lib.hid (by unfold addN; rw [hh, if_neg hm, hk]; rfl)
      have hgb : (Value.slice a l.length cap).ownBlock ≠ some b := own_ne ho hb tab_ne
      have hvne : (Value.slice a l.length cap).ownBlock ≠ some (w.heap.size + 1) := by
        rcases ho.2 with ⟨h, _⟩ | ⟨g, _, _, h, _, hg, _⟩
        · rw [h]; exact fun e => by cases e
        · rw [h]
          have := (Array.getElem?_eq_some_iff.1 hg).1
          simp only [Value.ownBlock, ne_eq, Option.some.injEq]
          omega
      rw [hh] at hc
      have HC := Go.Lib.hid hc
      have HO := Go.Lib.hid ho
      have HB := Go.Lib.hid hb
      have HGB := Go.Lib.hid hgb
      clear hc ho hb hgb
      clear hup hk hh
      go_enter Try.func10, Try.ntmps10
      go_wp2_with fail
      refine (HC.out _ ((Below.refl _ w).alloc (Nat.le_refl _) _)).mono ?_; rintro e wb ⟨rfl, hx⟩
      have hb2 : Below w.heap.size w wb := hb1.trans (hx.mono (by simp))
      have hwz : w.heap.size < wb.heap.size := by have := hx.size; simp at this; omega
      have hbox : wb.heap[w.heap.size]? = some (.cells (snA s) 36 (0, 0)) := (hx.block _ (by simp)).trans (heap_alloc_new _ _)
      have hb3 : wb.heap[b]? = _ := (hb2.block b hbl).trans HB.out
      have ho3 := owns_below HO.out hb2
      have x0 : wb.cell? ⟨b, 0, none⟩ = some (.int .i64 most) := by simp [World.cell?, hb3]
      have x1 : wb.cell? ⟨b, 1, none⟩ = some (.slice a l.length cap) := by simp [World.cell?, hb3]
      have hvn : (Value.slice a l.length cap).ownBlock ≠ some wb.heap.size := by
        rcases ho3.2 with ⟨h, _⟩ | ⟨g, _, _, h, _, hg, _⟩
        · rw [h]; exact fun e => by cases e
        · rw [h]
          have := (Array.getElem?_eq_some_iff.1 hg).1
          simp only [Value.ownBlock, ne_eq, Option.some.injEq]
          omega
      have hgz : (Value.slice a l.length cap).ownBlock ≠ some w.heap.size := by
        rcases HO.out.2 with ⟨h, _⟩ | ⟨g, _, _, h, _, hg, _⟩
        · rw [h]; exact fun e => by cases e
        · rw [h]
          have := (Array.getElem?_eq_some_iff.1 hg).1
          simp only [Value.ownBlock, ne_eq, Option.some.injEq]
          omega
      have HB2 := Go.Lib.hid hb2
      have HBX := Go.Lib.hid hbox
      have HB3 := Go.Lib.hid hb3
      have HO3 := Go.Lib.hid ho3
      have HVN := Go.Lib.hid hvn
      have HGZ := Go.Lib.hid hgz
      clear hb2 hbox hb3 ho3 hvn hgz
      clear hx hvne
      go_wp2_with fail
      go_quiet (fail)
      have hInX : InT b (.slice a l.length cap) w.heap.size s (wb.drewN nq).drew := ⟨x1, SnBlk.of_heap (w := (wb.drewN nq).drew) HBX.out⟩
      have hbX : (wb.drewN nq).drew.heap[b]? = some (.cells #[.int .i64 most, .slice a l.length cap] 74 (0, 0)) := HB3.out
      have hoX : (wb.drewN nq).drew.ownsRow base 36 9 (.slice a l.length cap) l.length (encN l) := HO3.out
      have hbelX : Below w.heap.size w (wb.drewN nq).drew := (below_drewN HB2.out nq).drew
      have hXs : (wb.drewN nq).drew.heap.size = wb.heap.size := rfl
      have hHX : (wb.drewN nq).drew.heap[w.heap.size]? = some (.cells (snA s) 36 (0, 0)) := HBX.out
      have HINX := Go.Lib.hid hInX
      have HBX2 := Go.Lib.hid hbX
      have HOX := Go.Lib.hid hoX
      have HBELX := Go.Lib.hid hbelX
      have HHX := Go.Lib.hid hHX
      have HXS := Go.Lib.hid hXs
      clear hInX hbX hoX hbelX hHX hXs
      go_wp2_with fail
      refine Go.Mix.wp_region_mixT (Es := [7, 8]) 11 (InT b (.slice a l.length cap) w.heap.size s) mixed (by kernel_rfl) HINX.out ?_
      generalize (wb.drewN nq).drew = X at *
      clear x0 x1
      have c0 := fun w3 => inT_r0 (b := b) (v := .slice a l.length cap) (rb := w.heap.size) (s := s) w3
      have c1 := fun w3 => inT_r1 (b := b) (v := .slice a l.length cap) (rb := w.heap.size) (s := s) w3
      have c2 := fun w3 => inT_r2 (b := b) (v := .slice a l.length cap) (rb := w.heap.size) (s := s) w3
      have c3 := fun w3 => inT_r3 (b := b) (v := .slice a l.length cap) (rb := w.heap.size) (s := s) w3
      have c4 := fun w3 => inT_r4 (b := b) (v := .slice a l.length cap) (rb := w.heap.size) (s := s) w3
      have c5 := fun w3 => inT_r5 (b := b) (v := .slice a l.length cap) (rb := w.heap.size) (s := s) w3
      have c6 := fun w3 => inT_r6 (b := b) (v := .slice a l.length cap) (rb := w.heap.size) (s := s) w3
      have c7 := fun w3 => inT_r7 (b := b) (v := .slice a l.length cap) (rb := w.heap.size) (s := s) w3
      have c8 := fun w3 => inT_r8 (b := b) (v := .slice a l.length cap) (rb := w.heap.size) (s := s) w3
      have cv := fun w3 => inT_v1 (b := b) (v := .slice a l.length cap) (rb := w.heap.size) (s := s) w3
      have hne : Nonempty (Subtype (InT b (.slice a l.length cap) w.heap.size s)) := ⟨⟨_, HINX.out⟩⟩
      iterate 7 (refine Go.Mix.mixT_step rfl (fun K hK => ?_); have HKK := Go.Lib.hid hK; clear hK; go_simp; refine HKK.out _ _ ?_; clear HKK K)
      refine Go.Mix.mixT_eff rfl (fun K hK => ?_)
      have HKK := Go.Lib.hid hK
      clear hK
      go_simp
      have hnew : (X.alloc (.cells (snA s) 36)).heap[X.heap.size]? = some (.cells (snA s) 36 (0, 0)) := heap_alloc_new _ _
      have hby : Below X.heap.size X (X.alloc (.cells (snA s) 36)) := (Below.refl _ X).alloc (Nat.le_refl _) _
      have hX1 := (hby.block b (Array.getElem?_eq_some_iff.1 HBX2.out).1).trans HBX2.out
      have hX2 := (hby.block w.heap.size (Array.getElem?_eq_some_iff.1 HHX.out).1).trans HHX.out
      refine HKK.out _ _ ⟨by simp [World.cell?, hX1], SnBlk.of_heap hX2⟩ ?_
      clear HKK K
      have hins := insert_any base l.length k X.heap.size 0 1 (.slice a l.length cap) (encN l) (snC s) (X.alloc (.cells (snA s) 36)) (snA s) 36 (by have := HBELX.out.size; simp; omega) (owns_below HOX.out hby) hkl hn (encN_one l) rfl (fun v hv => snA_one s v hv)
        hnew (fun j v hv => by rw [Nat.zero_add, cell_row hnew, ← hv, ← snA_list]; simp) (by have := HVN.out; rw [← HXS.out] at this; exact this)
      have hown0 := owns_below HOX.out hby
      have HINS := Go.Lib.hid hins
      have HBY := Go.Lib.hid hby
      have HX1 := Go.Lib.hid hX1
      have HX2 := Go.Lib.hid hX2
      have HOWN0 := Go.Lib.hid hown0
      clear hins hby hX1 hX2 hown0
      clear hnew
      refine Go.Mix.mixT_eff rfl (fun K hK => ?_)
      have HKK := Go.Lib.hid hK
      clear hK
      go_simp
      refine HINS.out.mono ?_; rintro e wi ⟨v', rfl, hoi, hgi, hvi⟩
      obtain ⟨a', cap', rfl, _, _⟩ := (SlC.of_owns hoi).slice
      have hzi := hgi.size
      have i1 : wi.heap[b]? = _ := (hgi.block b (Array.getElem?_eq_some_iff.1 HX1.out).1 (fun e => HGB.out e.symm)).trans HX1.out
      have i2 : wi.heap[w.heap.size]? = _ := (hgi.block _ (Array.getElem?_eq_some_iff.1 HX2.out).1 (fun e => HGZ.out e.symm)).trans HX2.out
      have hIni : InT b (.slice a l.length cap) w.heap.size s wi := ⟨by simp [World.cell?, i1], SnBlk.of_heap i2⟩
      go_simp
      refine HKK.out _ _ hIni ?_
      clear HKK K
      have y1 : wi.cell? ⟨b, 1, none⟩ = some (.slice a l.length cap) := hIni.vc
      have y2 : wi.frozen? ⟨b, 1, none⟩ = false := by simp [World.frozen?, i1]
      have hset : wi.setCell ⟨b, 1, none⟩ (.slice a' (l.length + 1) cap') = wi.setRow b #[.int .i64 most, .slice a' (l.length + 1) cap'] := setCell_eq_setRow wi b 1 _ _ (0, 0) _ i1
      have hft : (wi.setCell ⟨b, 1, none⟩ (.slice a' (l.length + 1) cap')).heap[b]? = some (.cells #[.int .i64 most, .slice a' (l.length + 1) cap'] 74 (0, 0)) := by rw [hset]; exact heap_row i1
      have hvb : (Value.slice a' (l.length + 1) cap').ownBlock ≠ some b := own_ne hoi i1 tab_ne
      have hown : (wi.setCell ⟨b, 1, none⟩ (.slice a' (l.length + 1) cap')).ownsRow base 36 9 (.slice a' (l.length + 1) cap') (l.length + 1) (encN (l.take k ++ [s] ++ l.drop k)) := by
        rw [encN_append, encN_append, encN_take, encN_drop, show encN [s] = snC s by simp [encN]]
        refine World.ownsRow.kept hoi (w' := wi.setCell ⟨b, 1, none⟩ (.slice a' (l.length + 1) cap')) (row := some b) ⟨rfl, rfl, rfl, by rw [hset, setRow_size]; exact Nat.le_refl _, fun k hk hne => by rw [hset, setRow_other _ _ _ _ (fun e => hne (by rw [e]))]⟩ ?_
        first | exact .inr (fun e => hvb e) | exact hvb | exact fun e => hvb e.symm
      have hbw : Below w.heap.size w (X.alloc (.cells (snA s) 36)) := HBELX.out.trans (HBY.out.mono HBELX.out.size)
      have hbelow : Below base w (wi.setCell ⟨b, 1, none⟩ (.slice a' (l.length + 1) cap')) := ((hbw.mono hbase).grown hgi (by have := hbw.size; omega) (fun k hk => by
        rcases HO.out.2 with ⟨h, _⟩ | ⟨g, _, _, h, hbg, _⟩
        · rw [h] at hk; cases hk
        · rw [h] at hk; simp only [Value.ownBlock, Option.some.injEq] at hk; omega)).setCell (p := ⟨b, 1, none⟩) hbb _
      have hkeep : KeepsT b w (wi.setCell ⟨b, 1, none⟩ (.slice a' (l.length + 1) cap')) := KeepsT.act hbl hbw HX1.out hgi HGB.out (hvi.imp id fun e g hg => by
        have := HBELX.out.size
        rw [e] at hg
        simp only [Option.some.injEq, World.size_alloc] at hg
        omega)
      have HFT := Go.Lib.hid hft
      have HOWN := Go.Lib.hid hown
      have HBEL := Go.Lib.hid hbelow
      have HKEEP := Go.Lib.hid hkeep
      have HINI := Go.Lib.hid hIni
      clear hft hown hbelow hkeep hIni
      clear hset hoi hgi hvb hvi i1 i2
      iterate 2 (refine Go.Mix.mixT_step rfl (fun K hK => ?_); have HKK := Go.Lib.hid hK; clear hK; go_simp; refine HKK.out _ _ ?_; clear HKK K)
      refine Go.Mix.mixT_last rfl (fun K hK => ?_)
      have HKK := Go.Lib.hid hK
      clear hK
      go_simp
      refine HKK.out _ _ ?_
      clear HKK K c0 c1 c2 c3 c4 c5 c6 c7 c8 cv hne
      go_wp2_with fail
      go_ret
      rw [hr.out]
      refine ⟨rfl, ⟨hbb, _, HFT.out, ?_⟩, HBEL.out, HKEEP.out⟩
      have hlen : (l.take k ++ [s] ++ l.drop k).length = l.length + 1 := by simp; omega
      rw [hlen]; exact HOWN.out
end Go.Proofs.Ytblbphnmflbepaa

