/- Flight: the reference's table: what it holds; Of, Drop. -/
import Derived.Test.YtblbphnmflbepaaFlP
namespace Go.Proofs.Ytblbphnmflbepaa
open Go.RowKit Go.Lib
set_option linter.unusedVariables false

theorem rs_size : (Try.prog.info? 46).map (·.size) = some 9 := by kernel_rfl
theorem ret_rs {fn : Func} {p q : Tmp} {a : Act} {W : World} {R : Ending → World → Prop} {s : Sn} {y : Value} {g : Nat} (hr : fn.results = #[.cell p 46, .tmp q]) (hp : a.tmps.getD p undef = .pointer (some ⟨g, 0, none⟩)) (hq : a.tmps.getD q undef = y) (hd : a.defers = [])
    (hg : W.heap[g]? = some (.cells (snA s) 46 (0, 0))) (h : R (.returned (.tuple #[snV s, y])) W) : bodyPost Try.prog fn R Exit.ret a W := by
  obtain ⟨fs, hu⟩ : ∃ fs, Try.prog.underlying 46 = some (.struct fs) := ⟨_, Try.underlying46⟩
  refine bodyPost_ret (v := .tuple #[snV s, y]) ?_ hd h
  have hp' : a.tmps[p]?.getD undef = .pointer (some ⟨g, 0, none⟩) := by simpa using hp
  have hq' : a.tmps[q]?.getD undef = y := by simpa using hq
  simp [results, hr, hp', hq', asAddr, run_loadVar_row W g _ 46 (snA s) (0, 0) _ hg hu rfl rs_size]
theorem box_setR {w : World} {g : Nat} {s s1 : Sn} {T : TypeId} (hg : w.heap[g]? = some (.cells (snA s1) T (0, 0))) : w.setCells g 0 (snC s) = w.setRow g (snA s) := by
  have := setCells_full (snC s) 0 w (snA s1) hg rfl
  rw [this]; rfl
theorem ret_rs2 {fn : Func} {p q : Tmp} {a : Act} {w : World} {R : Ending → World → Prop} {s s1 : Sn} {y : Value} {g : Nat} (hr : fn.results = #[.cell p 46, .tmp q]) (hp : a.tmps.getD p undef = .pointer (some ⟨g, 0, none⟩)) (hq : a.tmps.getD q undef = y) (hd : a.defers = [])
    (hg : w.heap[g]? = some (.cells (snA s1) 46 (0, 0))) (h : R (.returned (.tuple #[snV s, y])) (w.setRow g (snA s))) : bodyPost Try.prog fn R Exit.ret a (w.setCells g 0 (snC s)) := by
  rw [box_setR hg]
  exact ret_rs hr hp hq hd (heap_row hg) h
theorem rs_info : (Try.prog.info? 46).map (fun i => (i.zero, i.size, i.bytes)) = some (some (.agg (snA s0)), 9, 96) := by kernel_rfl
theorem eiRS : EI Try.prog 28 46 9 96 := ei_of Try.underlying28 rs_info rfl (by decide)

/-- the reference's table: its own block c, its row in memory from base on -/
def IsRef (base c : Nat) (most : Int) (l : List Sn) (w : World) : Prop :=
  base ≤ c ∧ ∃ v, w.heap[c]? = some (.cells #[.int .i64 most, v] 30 (0, 0)) ∧ w.ownsRow base 46 9 v l.length (encN l)
/-- all but one block lies as it lay -/
def KeepsC (c : Nat) (w w' : World) : Prop := w.heap.size ≤ w'.heap.size ∧ ∀ k, k < w.heap.size → k ≠ c → w'.heap[k]? = w.heap[k]?
theorem KeepsC.below {c : Nat} {w w' : World} (h : Below w.heap.size w w') : KeepsC c w w' := ⟨h.size, fun k hk _ => h.block k hk⟩
theorem IsRef.below {base c : Nat} {most : Int} {l : List Sn} {w w' : World} (h : IsRef base c most l w) (hb : Below w.heap.size w w') : IsRef base c most l w' := by
  obtain ⟨h0, v, h1, h2⟩ := h
  exact ⟨h0, v, by rw [hb.block c (Array.getElem?_eq_some_iff.1 h1).1]; exact h1, owns_below h2 hb⟩
theorem IsRef.lt {base c : Nat} {most : Int} {l : List Sn} {w : World} (h : IsRef base c most l w) : c < w.heap.size := by
  obtain ⟨_, v, h1, _⟩ := h
  exact (Array.getElem?_eq_some_iff.1 h1).1
/-- the reference's table keeps through the other's acts, and the other way round -/
theorem IsRef.keeps {base c b : Nat} {most m2 : Int} {l l2 : List Sn} {w w' : World} (h : IsRef base c most l w) (hk : KeepsT b w w') (hT : IsTab base b m2 l2 w) (hne : c ≠ b) : IsRef base c most l w' := by
  obtain ⟨h0, v, h1, h2⟩ := h
  refine ⟨h0, v, hk.ty hT hne (by decide) h1, ?_⟩
  refine ⟨h2.1, ?_⟩
  rcases h2.2 with h3 | ⟨g, cap, cur, e1, e2, e3, e4⟩
  · exact .inl h3
  · refine .inr ⟨g, cap, cur, e1, e2, hk.ty hT (fun e => ?_) (by decide) e3, e4⟩
    obtain ⟨_, v2, t1, _⟩ := hT
    rw [e, t1] at e3
    simp only [Option.some.injEq, Obj.cells.injEq] at e3
    exact absurd e3.2.1 (by decide)
theorem IsTab.keepsC {base b c : Nat} {most : Int} {l : List Sn} {w w' : World} (h : IsTab base b most l w) (hk : KeepsC c w w') (hne : b ≠ c) {cs : Array Value} {T : TypeId} {fr : Nat × Nat} (hc : w.heap[c]? = some (.cells cs T fr)) (hT : T ≠ 36) : IsTab base b most l w' := by
  obtain ⟨h0, v, h1, h2⟩ := h
  refine ⟨h0, v, by rw [hk.2 b (Array.getElem?_eq_some_iff.1 h1).1 hne]; exact h1, ?_⟩
  have hv := own_ne h2 hc hT
  refine ⟨h2.1, ?_⟩
  rcases h2.2 with h3 | ⟨g, cap, cur, e1, e2, e3, e4⟩
  · exact .inl h3
  · refine .inr ⟨g, cap, cur, e1, e2, ?_, e4⟩
    rw [hk.2 g (Array.getElem?_eq_some_iff.1 e3).1 (fun e => hv (by rw [e1, e]; rfl))]; exact e3

theorem srch_hit {l : List Sn} {t : Int} {k : Nat} (hup : JobsUp l) (hk : k < l.length) (hj : jobAt l k = t) : posN l t = k ∧ hasN l t = true := by
  have hp : k = posN l t := pos_eq l t k ⟨Nat.le_of_lt hk, fun a ha => by rw [← hj]; exact hup a k ha hk, fun b hb hb2 => by
    rcases Nat.lt_or_ge k b with h | h
    · rw [← hj]; exact Int.le_of_lt (hup k b h hb2)
    · obtain rfl : k = b := by omega
      rw [hj]; exact Int.le_refl _⟩
  refine ⟨hp.symm, ?_⟩
  unfold hasN
  rw [← hp]
  exact decide_eq_true ⟨hk, hj⟩
theorem srch_miss {l : List Sn} {t : Int} (h : ∀ a, a < l.length → jobAt l a ≠ t) : hasN l t = false := by
  unfold hasN
  exact decide_eq_false fun ⟨h1, h2⟩ => h _ h1 h2
theorem jobAt_eq (l : List Sn) (k : Nat) : jobAt l k = (l.getD k s0).job := rfl

set_option maxHeartbeats 2000000 in
set_option maxRecDepth 100000 in
theorem refOf_any (base c : Nat) (most : Int) (l : List Sn) (t : Int) (w : World) (hR : IsRef base c most l w) (hup : JobsUp l) (hn : l.length ≤ 1099511627776) :
    Calls Try.prog 18 #[.pointer (some ⟨c, 0, none⟩), .int .i64 t] w fun e w' =>
      e = .returned (.tuple #[snV (ofN l t).1, .bool (ofN l t).2]) ∧ Below w.heap.size w w' := by
  have hRl := hR.lt
  obtain ⟨hcb, v, hc, ho⟩ := hR
  obtain ⟨X, hX⟩ : ∃ X, w.alloc (.cells #[.int .i64 0, .int .i64 0, .int .i64 0, .string ⟨#[]⟩, .int .i64 0, .string ⟨#[]⟩, .int .i64 0, .int .i64 0, .string ⟨#[]⟩] 46) = X := ⟨_, rfl⟩
  have hwX : Below w.heap.size w X := by rw [← hX]; exact (Below.refl _ _).alloc (Nat.le_refl _) _
  have hbox : X.heap[w.heap.size]? = some (.cells (snA s0) 46 (0, 0)) := by rw [← hX]; exact heap_alloc_new _ _
  have hs := (SlC.of_owns (owns_below ho hwX))
  obtain ⟨a, cap, rfl, hnc, hcm⟩ := hs.slice
  have hcX : X.heap[c]? = _ := (hwX.block c hRl).trans hc
  have c1 : X.cell? ⟨c, 1, none⟩ = some (.slice a l.length cap) := by simp [World.cell?, hcX]
  generalize hN : l.length = N at *
  have HS := Go.Lib.hid hs
  have HN := Go.Lib.hid hN
  have HUP := Go.Lib.hid hup
  have HWX := Go.Lib.hid hwX
  have HBOX := Go.Lib.hid hbox
  clear hs hN hup hwX hbox
  clear ho hc hcX
  go_enter Try.func18, Try.ntmps18
  go_wp2_with fail
  clear hX
  go_loopw [6] (fun i wr => ∃ k : Nat, i = .int .i64 k ∧ k ≤ N ∧ (∀ a, a < k → jobAt l a ≠ t) ∧ wr = X) (fun i _ => N - (RowKit.intOf i).toNat)
  case atStart => exact ⟨0, rfl, Nat.zero_le _, fun a h => by omega, rfl⟩
  case round =>
    obtain ⟨k, rfl, hk, hno, rfl⟩ := hrel
    have HNO := Go.Lib.hid hno
    clear hno
    by_cases hlt : k < N
    · obtain ⟨g, off, rfl, hgw, hcell⟩ := Sns.at (by unfold Sns; rw [HN.out]; exact HS.out : Sns wr (.slice a N cap) l) (by rw [HN.out]; omega)
      have hat := hcell k (by rw [HN.out]; exact hlt)
      have hje := jobAt_eq l k
      generalize hss : l.getD k s0 = s at *
      obtain ⟨e0, e1, e2, e3, e4, e5, e6, e7, e8⟩ := hat.box
      have HJE := Go.Lib.hid hje
      have HSS := Go.Lib.hid hss
      clear hje hss
      clear hcell hat
      by_cases hj : s.job = t
      · have hj1 : (s.job == t) = true := beq_iff_eq.2 hj
        obtain ⟨hp, hh⟩ := srch_hit HUP.out (by rw [HN.out]; exact hlt) (HJE.out.trans hj)
        have hr : Hid (ofN l t = (s, true)) := Go.Lib.hid (by unfold ofN; rw [hh, hp]; simp only [if_true]; rw [HSS.out])
        have hfr : ∀ i, wr.frozen? ⟨w.heap.size, i, none⟩ = false := frozen_row HBOX.out
        obtain ⟨b0, b1, b2, b3, b4, b5, b6, b7, b8⟩ := SnBlk.of_heap HBOX.out
        clear hj hp hh
        go_wp2_with fail
        refine ret_rs2 (w := wr) (s := s) (s1 := s0) (g := w.heap.size) (y := .bool true) rfl rfl rfl rfl HBOX.out ⟨by rw [hr.out], below_row HWX.out (Nat.le_refl _) _⟩
      · have hj1 : (s.job == t) = false := beq_eq_false_iff_ne.2 hj
        clear hj
        go_wp2_with fail
        go_roundw
        case rel =>
          refine ⟨k + 1, by go_num, by omega, fun a ha => ?_, trivial⟩
          rcases Nat.lt_or_ge a k with h | h
          · exact HNO.out a h
          · obtain rfl : a = k := by omega
            rw [HJE.out]; exact beq_eq_false_iff_ne.1 hj1
        case measure => simp [RowKit.intOf]; omega
    · obtain rfl : k = N := by omega
      have hr : Hid (ofN l t = (s0, false)) := Go.Lib.hid (by unfold ofN; rw [srch_miss (fun a ha => HNO.out a (by rw [← HN.out]; exact ha))]; rfl)
      have hfr : ∀ i, wr.frozen? ⟨w.heap.size, i, none⟩ = false := frozen_row HBOX.out
      obtain ⟨b0, b1, b2, b3, b4, b5, b6, b7, b8⟩ := SnBlk.of_heap HBOX.out
      go_wp2_with fail
      refine ret_rs2 (w := wr) (s := s0) (s1 := s0) (g := w.heap.size) (y := .bool false) rfl rfl rfl rfl HBOX.out ⟨by rw [hr.out], below_row HWX.out (Nat.le_refl _) _⟩
/-- append, of a slice that can be read, in a region whose last operation stores -/
theorem mixT_app {P : Program} {t e sz bytes : Nat} (ei : EI P t e sz bytes) {w : World} {ops : Array Oper} {rest : List Oper} {o : Oper} {a : Act} {Es : List Nat} {C : World → Prop} {Q : Act → World → Prop} {k tl : Nat} (s x : Operand)
    (hk : (Es.contains k && !(k == tl)) = true) (hgd : Region.wanted o (yielded ops a.tmps) = true)
    (ho : o.op = .call { callee := .builtin .append, args := #[s, x], argTypes := #[t, t] }) (base : Nat) {v src : Value} {n m : Nat} {xs news : List Value} (hs : a.eval s = v) (hx : a.eval x = src)
    (hown : w.ownsRow base e sz v n xs) (hsrc : SlC w sz src m news) (h1 : ∀ u ∈ news, u.oneCell' = true) (h63 : n + m ≤ maxLen) (hbytes : (n + m) * bytes ≤ 140737488355328) (hbase : base ≤ w.heap.size)
    (h : ∀ v' w', w'.ownsRow base e sz v' (n + m) (xs ++ news) → w.grownBy w' v.ownBlock → C w' ∧ Go.Mix.MixT P ops (fun k => Es.contains k) C Q tl (k + 1) rest (a.put o.dst v') w') :
    Go.Mix.MixT P ops (fun k => Es.contains k) C Q tl k (o :: rest) a w :=
  Go.Mix.mixT_eff hk fun K hK => by
    rw [if_pos hgd]
    exact wp_app ei s x ho base hs hx hown hsrc h1 h63 hbytes hbase fun v' w' h2 h3 => hK _ _ (h v' w' h2 h3).1 (h v' w' h2 h3).2
set_option maxHeartbeats 4000000 in
set_option maxRecDepth 100000 in
theorem refDrop_any (base c : Nat) (most : Int) (l : List Sn) (t : Int) (w : World) (hR : IsRef base c most l w) (hup : JobsUp l) (hn : l.length ≤ 100000) (hbase : base ≤ w.heap.size) :
    Calls Try.prog 14 #[.pointer (some ⟨c, 0, none⟩), .int .i64 t] w fun e w' =>
      e = .returned (.tuple #[snV (dropN l t).2.1, .int .i64 (dropN l t).2.2]) ∧ IsRef base c most (dropN l t).1 w' ∧ Below base w w' ∧ KeepsC c w w' := by
  have mixed : Try.prog.follows .mixedOrders = true := by kernel_rfl
  have hRl := hR.lt
  have hR0 := hR
  obtain ⟨hcb, v, hc, ho⟩ := hR
  obtain ⟨X, hX⟩ : ∃ X, w.alloc (.cells #[.int .i64 0, .int .i64 0, .int .i64 0, .string ⟨#[]⟩, .int .i64 0, .string ⟨#[]⟩, .int .i64 0, .int .i64 0, .string ⟨#[]⟩] 46) = X := ⟨_, rfl⟩
  have hwX : Below w.heap.size w X := by rw [← hX]; exact (Below.refl _ _).alloc (Nat.le_refl _) _
  have hbox : X.heap[w.heap.size]? = some (.cells (snA s0) 46 (0, 0)) := by rw [← hX]; exact heap_alloc_new _ _
  have hoX := owns_below ho hwX
  have hs := SlC.of_owns hoX
  obtain ⟨a, cap, rfl, hnc, hcm⟩ := hs.slice
  have hcX : X.heap[c]? = some (.cells #[.int .i64 most, .slice a l.length cap] 30 (0, 0)) := (hwX.block c hRl).trans hc
  have c1 : X.cell? ⟨c, 1, none⟩ = some (.slice a l.length cap) := by simp [World.cell?, hcX]
  generalize hN : l.length = N at *
  have HS := Go.Lib.hid hs
  have HN := Go.Lib.hid hN
  have HUP := Go.Lib.hid hup
  have HWX := Go.Lib.hid hwX
  have HBOX := Go.Lib.hid hbox
  have HOX := Go.Lib.hid hoX
  have HCX := Go.Lib.hid hcX
  have HR0 := Go.Lib.hid hR0
  clear hs hN hup hwX hbox hoX hcX hR0
  clear ho hc
  go_enter Try.func14, Try.ntmps14
  go_wp2_with fail
  clear hX
  go_loopw [6] (fun i wr => ∃ k : Nat, i = .int .i64 k ∧ k ≤ N ∧ (∀ a, a < k → jobAt l a ≠ t) ∧ wr = X) (fun i _ => N - (RowKit.intOf i).toNat)
  case atStart => exact ⟨0, rfl, Nat.zero_le _, fun a h => by omega, rfl⟩
  case round =>
    obtain ⟨k, rfl, hk, hno, rfl⟩ := hrel
    have HNO := Go.Lib.hid hno
    clear hno
    by_cases hlt : k < N
    · obtain ⟨g, off, rfl, hgw, hcell⟩ := Sns.at (by unfold Sns; rw [HN.out]; exact HS.out : Sns wr (.slice a N cap) l) (by rw [HN.out]; omega)
      have hat := hcell k (by rw [HN.out]; exact hlt)
      have hje := jobAt_eq l k
      generalize hss : l.getD k s0 = s at *
      obtain ⟨e0, e1, e2, e3, e4, e5, e6, e7, e8⟩ := hat.box
      have HJE := Go.Lib.hid hje
      have HSS := Go.Lib.hid hss
      clear hje hss
      clear hcell
      by_cases hj : s.job = t
      · have hj1 : (s.job == t) = true := beq_iff_eq.2 hj
        obtain ⟨hp, hh⟩ := srch_hit HUP.out (by rw [HN.out]; exact hlt) (HJE.out.trans hj)
        have hr : Hid (dropN l t = (l.take k ++ l.drop (k + 1), s, 0)) := Go.Lib.hid (by unfold dropN; rw [hh, hp]; simp only [if_true]; rw [HSS.out])
        obtain ⟨Y, hY⟩ : ∃ Y, wr.alloc (.cells #[.int .i64 s.job, .int .i64 s.id, .int .i64 s.port, .string (mk s.sn), .int .i64 s.sa, .string (mk s.qn), .int .i64 s.qt, .int .i64 s.qc, .string (mk s.zone)] 46) = Y := ⟨_, rfl⟩
        have hwY : Below wr.heap.size wr Y := by rw [← hY]; exact (Below.refl _ _).alloc (Nat.le_refl _) _
        have hys : Y.heap[wr.heap.size]? = some (.cells (snA s) 46 (0, 0)) := by rw [← hY]; exact heap_alloc_new _ _
        clear hj hp hh
        have hcY : Y.heap[c]? = some (.cells #[.int .i64 most, .slice (some ⟨g, off, none⟩) N cap] 30 (0, 0)) := (hwY.block c (Array.getElem?_eq_some_iff.1 HCX.out).1).trans HCX.out
        have hlY := (Array.getElem?_eq_some_iff.1 hcY).1
        have hboxY : Y.heap[w.heap.size]? = some (.cells (snA s0) 46 (0, 0)) := (hwY.block _ (Array.getElem?_eq_some_iff.1 HBOX.out).1).trans HBOX.out
        have hsY := HS.out.below hwY (Nat.le_refl _)
        obtain ⟨jj, hjj⟩ : ∃ jj, jj = k + 1 := ⟨_, rfl⟩
        have hkj : IntKind.i64.wrap ((k : Int) + 1) = (jj : Int) := by rw [hjj]; exact (wrapi (by omega) (by omega)).trans (by omega)
        obtain ⟨A, hA, hA2⟩ : ∃ A : Addr, (if cap = jj then (some (⟨g, off, none⟩ : Addr)) else some ⟨g, off + jj * 9, none⟩) = some A ∧ (jj < N → A = ⟨g, off + jj * 9, none⟩) := by
          by_cases h : cap = jj
          · exact ⟨⟨g, off, none⟩, by simp [h], fun h2 => by omega⟩
          · exact ⟨⟨g, off + jj * 9, none⟩, by simp [h], fun _ => rfl⟩
        have hlen := HN.out
        have hs1 : SlC Y 9 (.slice (some ⟨g, off, none⟩) k cap) k (encN (l.take k)) := by
          have h := SlC.sub hsY (i := 0) (j := k) (Nat.zero_le _) (Nat.le_of_lt hlt) (a' := some ⟨g, off, none⟩) (fun _ => by rw [Nat.zero_mul, Nat.add_zero]) (fun h => by cases h)
          rw [Nat.sub_zero, Nat.sub_zero, Nat.zero_mul, List.drop_zero, ← encN_take] at h
          exact h
        have hs2 : SlC Y 9 (.slice (some A) (N - jj) (cap - jj)) (N - jj) (encN (l.drop (k + 1))) := by
          have h := SlC.sub hsY (i := jj) (j := N) (by omega) (Nat.le_refl _) (a' := some A) (fun h => by rw [hA2 h]) (fun h => by cases h)
          rw [← encN_drop, List.take_of_length_le (by rw [encN_length, List.length_drop, hlen]; exact Nat.le_refl _), hjj] at h
          rw [hjj]
          exact h
        have hb3 : (jj : Int) ≤ (N : Int) := by omega
        have hb4 : ¬ (jj : Int) < 0 := by omega
        have hb5 : jj ≤ cap := by omega
        have hb6 : k ≤ cap := by omega
        have hone1 := encN_one (l.take k)
        have hone2 := encN_one (l.drop (k + 1))
        have hln1 : (l.take k).length = k := by rw [List.length_take]; omega
        have hln2 : (l.drop (k + 1)).length = N - jj := by rw [List.length_drop]; omega
        have cY := BelowC.cell (W := Y) (show Y.cell? ⟨c, 1, none⟩ = some (.slice (some ⟨g, off, none⟩) N cap) by simp [World.cell?, hcY]) hlY
        have hne : Nonempty (Subtype (Below Y.heap.size Y)) := ⟨⟨Y, Below.refl _ _⟩⟩
        have hwz : wr.heap.size < Y.heap.size := (Array.getElem?_eq_some_iff.1 hys).1
        have HWY := Go.Lib.hid hwY
        have HYS := Go.Lib.hid hys
        have HAT := Go.Lib.hid hat
        have HCY := Go.Lib.hid hcY
        have HS1 := Go.Lib.hid hs1
        have HS2 := Go.Lib.hid hs2
        have HO1 := Go.Lib.hid hone1
        have HO2 := Go.Lib.hid hone2
        have HLN1 := Go.Lib.hid hln1
        have HLN2 := Go.Lib.hid hln2
        have HBXY := Go.Lib.hid hboxY
        have HJJ := Go.Lib.hid hjj
        have HLEN := Go.Lib.hid hlen
        have HWZ := Go.Lib.hid hwz
        clear hwY hys hat hcY hs1 hs2 hone1 hone2 hln1 hln2 hboxY hjj hlen hwz
        clear hsY hA2
        go_wp2_with fail
        clear hY
        refine Go.Mix.wp_region_mixT (Es := [1, 8, 16]) 19 (Below Y.heap.size Y) mixed (by kernel_rfl) (Below.refl _ _).drew ?_
        iterate 1 (refine Go.Mix.mixT_step rfl (fun K hK => ?_); have HKK := Go.Lib.hid hK; clear hK; go_simp; refine HKK.out _ _ ?_; clear HKK K)
        refine Go.Mix.mixT_eff rfl (fun K hK => ?_)
        have HKK := Go.Lib.hid hK
        clear hK
        go_simp
        have hba : Below Y.heap.size Y (Y.alloc (.cells #[] 46)).drew := ((Below.refl _ Y).alloc (Nat.le_refl _) _).drew
        have hown0 : (Y.alloc (.cells #[] 46)).drew.ownsRow Y.heap.size 46 9 (.slice (some ⟨Y.heap.size, 0, none⟩) 0 0) 0 [] := World.ownsRow_made Y #[] 0 (Nat.le_refl _) (Nat.zero_le _) rfl
        refine HKK.out _ _ hba ?_
        clear HKK K
        generalize (Y.alloc (.cells #[] 46)).drew = Z0 at *
        have HBA := Go.Lib.hid hba
        have HOWN0 := Go.Lib.hid hown0
        clear hba hown0
        iterate 6 (refine Go.Mix.mixT_step rfl (fun K hK => ?_); have HKK := Go.Lib.hid hK; clear hK; go_simp; refine HKK.out _ _ ?_; clear HKK K)
        refine mixT_app eiRS (.tmp 35) (.tmp 41) rfl rfl rfl Y.heap.size (v := .slice (some ⟨Y.heap.size, 0, none⟩) 0 0) (src := .slice (some ⟨g, off, none⟩) k cap) rfl rfl HOWN0.out (HS1.out.below HBA.out (Nat.le_refl _)) HO1.out (by unfold maxLen; omega) (by omega) HBA.out.size (fun v1 Z1 hown1 hg1 => ?_)
        obtain ⟨a1, c1, rfl, _, _⟩ := (SlC.of_owns hown1).slice
        have hb1 : Below Y.heap.size Y Z1 := HBA.out.grown hg1 HBA.out.size (fun k hk => by simp only [Value.ownBlock, Option.some.injEq] at hk; omega)
        refine ⟨hb1, ?_⟩
        have hv1 : (Value.slice a1 (0 + k) c1).ownBlock = none ∨ ∀ q, (Value.slice a1 (0 + k) c1).ownBlock = some q → Y.heap.size ≤ q := .inr fun q hq => (hown1.lt q hq).1
        rw [List.nil_append, Nat.zero_add] at hown1
        rw [Nat.zero_add] at hv1 ⊢
        have HB1 := Go.Lib.hid hb1
        have HOWN1 := Go.Lib.hid hown1
        have HV1 := Go.Lib.hid hv1
        clear hb1 hown1 hv1
        clear hg1
        iterate 7 (refine Go.Mix.mixT_step rfl (fun K hK => ?_); have HKK := Go.Lib.hid hK; clear hK; go_simp; refine HKK.out _ _ ?_; clear HKK K)
        refine mixT_app eiRS (.tmp 42) (.tmp 49) rfl rfl rfl Y.heap.size (v := .slice a1 k c1) (src := .slice (some A) (N - jj) (cap - jj)) rfl rfl HOWN1.out (HS2.out.below HB1.out (Nat.le_refl _)) HO2.out (by unfold maxLen; omega) (by omega) HB1.out.size (fun v2 Z2 hown2 hg2 => ?_)
        obtain ⟨a2, c2, rfl, _, _⟩ := (SlC.of_owns hown2).slice
        have hb2 : Below Y.heap.size Y Z2 := HB1.out.grown hg2 HB1.out.size (fun q hq => by
          rcases HV1.out with h | h
          · rw [h] at hq; cases hq
          · exact h q hq)
        refine ⟨hb2, ?_⟩
        have hcZ : Z2.heap[c]? = _ := (hb2.block c hlY).trans HCY.out
        have x1 : Z2.cell? ⟨c, 1, none⟩ = some (.slice (some ⟨g, off, none⟩) N cap) := by simp [World.cell?, hcZ]
        have x2 : Z2.frozen? ⟨c, 1, none⟩ = false := frozen_row hcZ _
        have hset : Z2.setCell ⟨c, 1, none⟩ (.slice a2 (k + (N - jj)) c2) = Z2.setRow c #[.int .i64 most, .slice a2 (k + (N - jj)) c2] := setCell_eq_setRow Z2 c 1 _ _ (0, 0) _ hcZ
        have hft : (Z2.setCell ⟨c, 1, none⟩ (.slice a2 (k + (N - jj)) c2)).heap[c]? = some (.cells #[.int .i64 most, .slice a2 (k + (N - jj)) c2] 30 (0, 0)) := by rw [hset]; exact heap_row hcZ
        have hne2 : (Value.slice a2 (k + (N - jj)) c2).ownBlock ≠ some c := fun e => by
          have := (hown2.lt c e).1
          omega
        have hown3 : (Z2.setCell ⟨c, 1, none⟩ (.slice a2 (k + (N - jj)) c2)).ownsRow Y.heap.size 46 9 (.slice a2 (k + (N - jj)) c2) (k + (N - jj)) (encN (l.take k) ++ encN (l.drop (k + 1))) :=
          World.ownsRow.kept hown2 (row := some c) ⟨rfl, rfl, rfl, by rw [hset, setRow_size]; exact Nat.le_refl _, fun q hq hne => by rw [hset, setRow_other _ _ _ _ (fun e => hne (by rw [e]))]⟩ (.inr hne2)
        have hsz2 := hb2.size
        have hsame : ∀ q, q < Y.heap.size → q ≠ c → (Z2.setCell ⟨c, 1, none⟩ (.slice a2 (k + (N - jj)) c2)).heap[q]? = Y.heap[q]? := fun q hq hqc => by rw [hset, setRow_other _ _ _ _ hqc]; exact hb2.block q hq
        have hboxZ := (hsame w.heap.size (by have := HWZ.out; have := HWX.out.size; have := (Array.getElem?_eq_some_iff.1 HBXY.out).1; omega) (by omega)).trans HBXY.out
        have hysZ := (hsame wr.heap.size HWZ.out (by have := (Array.getElem?_eq_some_iff.1 HBOX.out).1; omega)).trans HYS.out
        have hbz : Below base w (Z2.setCell ⟨c, 1, none⟩ (.slice a2 (k + (N - jj)) c2)) := (((HWX.out.mono hbase).trans (HWY.out.mono (Nat.le_trans hbase HWX.out.size))).trans (hb2.mono (by have := HWX.out.size; have := HWY.out.size; omega))).setCell (p := ⟨c, 1, none⟩) hcb _
        have HFT := Go.Lib.hid hft
        have HOWN3 := Go.Lib.hid hown3
        have HSAME := Go.Lib.hid hsame
        have HBOXZ := Go.Lib.hid hboxZ
        have HYSZ := Go.Lib.hid hysZ
        have HBZ := Go.Lib.hid hbz
        have HB2 := Go.Lib.hid hb2
        have HSZ2 := Go.Lib.hid hsz2
        clear hft hown3 hsame hboxZ hysZ hbz hb2 hsz2
        clear hcZ hset hne2 hown2 hg2
        iterate 2 (refine Go.Mix.mixT_step rfl (fun K hK => ?_); have HKK := Go.Lib.hid hK; clear hK; go_simp; refine HKK.out _ _ ?_; clear HKK K)
        refine Go.Mix.mixT_last rfl (fun K hK => ?_)
        have HKK := Go.Lib.hid hK
        clear hK
        go_simp
        refine HKK.out _ _ ?_
        clear HKK K cY hne x1 x2
        have hfr : ∀ i, (Z2.setCell ⟨c, 1, none⟩ (.slice a2 (k + (N - jj)) c2)).frozen? ⟨w.heap.size, i, none⟩ = false := frozen_row HBOXZ.out
        obtain ⟨b0, b1, b2, b3, b4, b5, b6, b7, b8⟩ := SnBlk.of_heap HBOXZ.out
        obtain ⟨d0, d1, d2, d3, d4, d5, d6, d7, d8⟩ := SnBlk.of_heap HYSZ.out
        generalize hZ3 : Z2.setCell ⟨c, 1, none⟩ (.slice a2 (k + (N - jj)) c2) = Z3 at *
        go_wp2_with fail
        refine ret_rs2 (w := Z3) (s := s) (s1 := s0) (g := w.heap.size) (y := .int .i64 0) rfl rfl rfl rfl HBOXZ.out ⟨by rw [hr.out], ?_, below_row HBZ.out hbase _, ?_, ?_⟩
        · rw [hr.out]
          refine ⟨hcb, _, (setRow_other _ _ _ _ (by omega)).trans HFT.out, ?_⟩
          have hll : (l.take k ++ l.drop (k + 1)).length = k + (N - jj) := by rw [List.length_append, HLN1.out, HLN2.out]
          rw [hll, encN_append]
          have hbY : w.heap.size < Y.heap.size := (Array.getElem?_eq_some_iff.1 HBXY.out).1
          have hne3 : (Value.slice a2 (k + (N - jj)) c2).ownBlock ≠ some w.heap.size := fun e => by
            have := (HOWN3.out.lt _ e).1
            omega
          have := World.ownsRow.kept HOWN3.out (w' := Z3.setRow w.heap.size (snA s)) (row := some w.heap.size) ⟨rfl, rfl, rfl, by rw [setRow_size]; exact Nat.le_refl _, fun q hq hne => by rw [setRow_other _ _ _ _ (fun e => hne (by rw [e]))]⟩ (.inr hne3)
          exact owns_base this (by have := HWX.out.size; omega)
        · rw [setRow_size]
          have h1 := HWX.out.size
          have h2 := HWY.out.size
          have h3 := HSZ2.out
          rw [← hZ3]
          simp
          omega
        · intro q hq hqc
          rw [setRow_other _ _ _ _ (by omega)]
          have h1 := HWX.out.size
          have h2 := HWY.out.size
          rw [HSAME.out q (by omega) hqc, HWY.out.block q (by omega), HWX.out.block q hq]
      · have hj1 : (s.job == t) = false := beq_eq_false_iff_ne.2 hj
        clear hj hat
        go_wp2_with fail
        go_roundw
        case rel =>
          refine ⟨k + 1, by go_num, by omega, fun a ha => ?_, trivial⟩
          rcases Nat.lt_or_ge a k with h | h
          · exact HNO.out a h
          · obtain rfl : a = k := by omega
            rw [HJE.out]; exact beq_eq_false_iff_ne.1 hj1
        case measure => simp [RowKit.intOf]; omega
    · obtain rfl : k = N := by omega
      have hr : Hid (dropN l t = (l, s0, 5)) := Go.Lib.hid (by unfold dropN; rw [srch_miss (fun a ha => HNO.out a (by rw [← HN.out]; exact ha))]; rfl)
      have hfr : ∀ i, wr.frozen? ⟨w.heap.size, i, none⟩ = false := frozen_row HBOX.out
      obtain ⟨b0, b1, b2, b3, b4, b5, b6, b7, b8⟩ := SnBlk.of_heap HBOX.out
      have hbz := below_row HWX.out (Nat.le_refl _) (snA s0)
      have HBZ := Go.Lib.hid hbz
      clear hbz
      go_wp2_with fail
      refine ret_rs2 (w := wr) (s := s0) (s1 := s0) (g := w.heap.size) (y := .int .i64 5) rfl rfl rfl rfl HBOX.out ⟨by rw [hr.out], by rw [hr.out]; exact HR0.out.below HBZ.out, HBZ.out.mono hbase, KeepsC.below HBZ.out⟩
end Go.Proofs.Ytblbphnmflbepaa

