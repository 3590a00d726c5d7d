/- The contracts of match.Answers, and of the reference's. Condition: questions' names are texts that memory bears. -/
import Derived.Test.YtblbphnmflbepaaMsgB
import Derived.Test.YtblbphnmflbepaaOrdS
namespace Go.Proofs.Ytblbphnmflbepaa
open Go.RowKit Go.Shelf Go.Sq
set_option linter.unusedVariables false

def answersN (m o : Msg) : Bool := o.resp && (o.id == m.id) && (o.op == 0) && (o.qs.length == 1) && (m.qs.length == 1) &&
  (Nm.sameN (m.qs.getD 0 q0).name (o.qs.getD 0 q0).name && ((m.qs.getD 0 q0).ty == (o.qs.getD 0 q0).ty) && ((m.qs.getD 0 q0).cl == (o.qs.getD 0 q0).cl))

/-- what the region of two new questions leaves -/
def FQn (B : Nat) (i : Nat) (v : Value) (w : World) : Prop := (i = 8 ∨ i = 9) → ∃ kb, v = .pointer (some ⟨kb, 0, none⟩) ∧ B ≤ kb ∧ w.heap[kb]? = some (.cells #[.string ⟨#[]⟩, .int .i64 0, .int .i64 0] 34 (0, 0))
def SQn (i : Nat) (v : Value) : Prop := (i = 8 ∨ i = 9) → ∃ kb, v = .pointer (some ⟨kb, 0, none⟩)

theorem FQn.stable {B : Nat} {i : Nat} {v : Value} {w w' : World} (h : FQn B i v w) (hg : GB w w') : FQn B i v w' := fun e => by
  obtain ⟨kb, h1, h2, h3⟩ := h e
  exact ⟨kb, h1, h2, hg.heap h3⟩
theorem SQn.inh (i b : Nat) : ∃ v, SQn i v ∧ ∀ kb, v = .pointer (some ⟨kb, 0, none⟩) → b ≤ kb := ⟨.pointer (some ⟨b, 0, none⟩), fun _ => ⟨b, rfl⟩, fun kb h => by simp only [Value.pointer.injEq, Option.some.injEq, Addr.mk.injEq, and_true] at h; omega⟩
theorem infoQnS : (Try.prog.info? 34).map (·.size) = some 3 := by kernel_rfl
theorem bne_int {a b : Int} (h : ¬ a = b) : (a != b) = true := by simpa using h

set_option maxRecDepth 100000 in
set_option maxHeartbeats 4000000 in
theorem Answers_any (m o : Msg) (q a s d q' a' s' d' : Value) (w : World) (hm : MsgL w m q a s d) (ho : MsgL w o q' a' s' d') (hn : ∀ x ∈ m.qs, x.name.length ≤ maxLen) (hn' : ∀ x ∈ o.qs, x.name.length ≤ maxLen) :
    Calls Try.prog 30 #[MV m q a s d, MV o q' a' s' d'] w fun e w' => e = .returned (.bool (answersN m o)) ∧ Below w.heap.size w w' := by
  obtain ⟨aq, cq, rfl, _, _⟩ := hm.qs.slice
  obtain ⟨aa, ca, rfl, _, _⟩ := hm.an.slice
  obtain ⟨asv, cs, rfl, _, _⟩ := hm.sv.slice
  obtain ⟨ad, cd, rfl, _, _⟩ := hm.ad.slice
  obtain ⟨bq, eq, rfl, _, _⟩ := ho.qs.slice
  obtain ⟨ba, ea, rfl, _, _⟩ := ho.an.slice
  obtain ⟨bsv, es, rfl, _, _⟩ := ho.sv.slice
  obtain ⟨bd, ed, rfl, _, _⟩ := ho.ad.slice
  have hq := hm.qs
  have hq' := ho.qs
  have hdef : answersN m o = (o.resp && (o.id == m.id) && (o.op == 0) && (o.qs.length == 1) && (m.qs.length == 1) &&
    (Nm.sameN (m.qs.getD 0 q0).name (o.qs.getD 0 q0).name && ((m.qs.getD 0 q0).ty == (o.qs.getD 0 q0).ty) && ((m.qs.getD 0 q0).cl == (o.qs.getD 0 q0).cl))) := rfl
  obtain ⟨hx1, hx2⟩ := two_boxes w (MC m (.slice aq m.qs.length cq) (.slice aa m.an.length ca) (.slice asv m.sv.length cs) (.slice ad m.ad.length cd)) (MC o (.slice bq o.qs.length eq) (.slice ba o.an.length ea) (.slice bsv o.sv.length es) (.slice bd o.ad.length ed)) 40
  have hbx : Below w.heap.size w ((w.alloc (.cells (MC m (.slice aq m.qs.length cq) (.slice aa m.an.length ca) (.slice asv m.sv.length cs) (.slice ad m.ad.length cd)) 40)).alloc (.cells (MC o (.slice bq o.qs.length eq) (.slice ba o.an.length ea) (.slice bsv o.sv.length es) (.slice bd o.ad.length ed)) 40)) := ((Below.refl _ w).alloc (Nat.le_refl _) _).alloc (by simp) _
  have hsz : ((w.alloc (.cells (MC m (.slice aq m.qs.length cq) (.slice aa m.an.length ca) (.slice asv m.sv.length cs) (.slice ad m.ad.length cd)) 40)).alloc (.cells (MC o (.slice bq o.qs.length eq) (.slice ba o.an.length ea) (.slice bsv o.sv.length es) (.slice bd o.ad.length ed)) 40)).heap.size = w.heap.size + 2 := by simp
  clear hm ho
  obtain ⟨mid, mre, mop, mau, mcu, mde, mav, mco, mqs, man, msv, mad, med, msi⟩ := m
  obtain ⟨oid, ore, oop, oau, ocu, ode, oav, oco, oqs, oan, osv, oad, oed, osi⟩ := o
  simp only [MC, MV] at hq hq' hdef hx1 hx2 hbx hsz hn hn' ⊢
  generalize answersN _ _ = res at *
  generalize man.length = na at *
  generalize msv.length = ns at *
  generalize mad.length = nd at *
  generalize oan.length = na' at *
  generalize osv.length = ns' at *
  generalize oad.length = nd' at *
  unfold Qns at hq hq'
  generalize hnq : mqs.length = nq at *
  generalize hnq' : oqs.length = nq' at *
  have HQ := Go.Lib.hid hq
  have HQ' := Go.Lib.hid hq'
  have HN := Go.Lib.hid hn
  have HN' := Go.Lib.hid hn'
  have HX1 := Go.Lib.hid hx1
  have HX2 := Go.Lib.hid hx2
  have HBX := Go.Lib.hid hbx
  have HDEF := Go.Lib.hid hdef
  have HNQ := Go.Lib.hid hnq
  have HNQ' := Go.Lib.hid hnq'
  clear hq hq' hn hn' hx1 hx2 hbx hdef hnq hnq'
  by_cases k1 : ore = true
  · subst k1
    by_cases k2 : oid = mid
    · subst k2
      by_cases k3 : oop = 0
      · subst k3
        by_cases k4 : nq' = 1
        · by_cases k5 : nq = 1
          · subst k4 k5
            have hqW := (show ∀ W0, Below w.heap.size w W0 → Qns W0 (.slice aq 1 cq) mqs from fun W0 h => by unfold Qns; rw [HNQ.out]; exact HQ.out.below h (Nat.le_refl _)) _ HBX.out
            have hqW' := (show ∀ W0, Below w.heap.size w W0 → Qns W0 (.slice bq 1 eq) oqs from fun W0 h => by unfold Qns; rw [HNQ'.out]; exact HQ'.out.below h (Nat.le_refl _)) _ HBX.out
            obtain ⟨b, off, rfl, hbl, hcell⟩ := Qns.at hqW (by rw [HNQ.out]; decide)
            obtain ⟨b', off', rfl, hbl', hcell'⟩ := Qns.at hqW' (by rw [HNQ'.out]; decide)
            obtain ⟨p0, p1, p2⟩ := hcell 0 (by rw [HNQ.out]; decide)
            obtain ⟨r0, r1, r2⟩ := hcell' 0 (by rw [HNQ'.out]; decide)
            have hpm : mqs.getD 0 q0 ∈ mqs := getD_mem' (by rw [HNQ.out]; decide)
            have hrm : oqs.getD 0 q0 ∈ oqs := getD_mem' (by rw [HNQ'.out]; decide)
            have hpn := HN.out _ hpm
            have hrn := HN'.out _ hrm
            have hres : Hid (res = (Nm.sameN (mqs.getD 0 q0).name (oqs.getD 0 q0).name && ((mqs.getD 0 q0).ty == (oqs.getD 0 q0).ty) && ((mqs.getD 0 q0).cl == (oqs.getD 0 q0).cl))) := Go.Lib.hid (by rw [HDEF.out]; simp)
            clear hqW hqW' hcell hcell' hpm hrm
            generalize mqs.getD 0 q0 = p at *
            generalize oqs.getD 0 q0 = r at *
            obtain ⟨pn, pt, pc⟩ := p
            obtain ⟨rn, rt, rc⟩ := r
            simp only [Nat.zero_mul, Nat.add_zero] at p0 p1 p2 r0 r1 r2 hpn hrn hres
            have hsame := fun w => Same_any (mk pn) (mk rn) w (by rw [size_mk]; exact hpn) (by rw [size_mk]; exact hrn)
            simp only [bl_mk] at hsame
            have HS := Go.Lib.hid hsame
            have HPN := Go.Lib.hid hpn
            have HRN := Go.Lib.hid hrn
            clear hsame hpn hrn
            have hg1 := cell_of_heap HX1.out 8
            have hg2 := cell_of_heap HX2.out 8
            have hl1 := (Array.getElem?_eq_some_iff.1 HX1.out).1
            have hl2 := (Array.getElem?_eq_some_iff.1 HX2.out).1
            simp only [List.getElem?_toArray, List.getElem?_cons_succ, List.getElem?_cons_zero] at hg1 hg2
            go_enter Try.func30, Try.ntmps30
            go_wp2_with fail
            generalize hW : (w.alloc (.cells #[.int .i64 oid, .bool mre, .int .i64 mop, .bool mau, .bool mcu, .bool mde, .bool mav, .int .i64 mco, .slice (some ⟨b, off, none⟩) 1 cq, .slice aa na ca, .slice asv ns cs, .slice ad nd cd, .bool med, .int .i64 msi] 40)).alloc (.cells #[.int .i64 oid, .bool true, .int .i64 0, .bool oau, .bool ocu, .bool ode, .bool oav, .int .i64 oco, .slice (some ⟨b', off', none⟩) 1 eq, .slice ba na' ea, .slice bsv ns' es, .slice bd nd' ed, .bool oed, .int .i64 osi] 40) = W at *
            clear hW HX1 HX2
            have c1 := BelowC.cell (W := W) hg1 hl1
            have c2 := BelowC.cell (W := W) hg2 hl2
            have P0 := BelowC.cell (W := W) p0 hbl
            have P1 := BelowC.cell (W := W) p1 hbl
            have P2 := BelowC.cell (W := W) p2 hbl
            have R0 := BelowC.cell (W := W) r0 hbl'
            have R1 := BelowC.cell (W := W) r1 hbl'
            have R2 := BelowC.cell (W := W) r2 hbl'
            have hne : Nonempty (Subtype (Below W.heap.size W)) := ⟨⟨W, Below.refl _ _⟩⟩
            clear hg1 hg2 p0 p1 p2 r0 r1 r2
            refine Go.Mix.wp_region_mixW [8, 9] [10, 11] 10 (Below W.heap.size W) GB (FQn W.heap.size) SQn mixed (by kernel_rfl) (fun w' h => Below.trans (Below.drew (Below.refl _ W)) h) GB.trans GB.refl GB.size (fun i v w w' h hg => h.stable hg) SQn.inh ?_
            iterate 8 (refine Go.Mix.mixW_step rfl (fun K hK => ?_); have HKK := Go.Lib.hid hK; clear hK; go_simp; refine HKK.out _ ?_; clear HKK K)
            refine Go.Mix.mixW_eff rfl rfl (fun w7 hw7 => ?_) (fun v8 hv8 hn8 => ?_)
            · have h7 : W.drew.heap.size ≤ w7.heap.size := GB.size hw7
              have h8 : W.drew.heap.size = W.heap.size := rfl
              go_simp
              exact ⟨(Below.refl _ _).alloc (Nat.le_refl _) _, ⟨fun _ => ⟨_, rfl⟩, fun _ => ⟨w7.heap.size, rfl, by omega, World.alloc_heap_new _ _⟩⟩, Go.Mix.Left.alloc _ _⟩
            obtain ⟨kb5, rfl⟩ := hv8 (.inl rfl)
            clear hv8 hn8
            refine Go.Mix.mixW_eff rfl rfl (fun w7 hw7 => ?_) (fun v9 hv9 hn9 => ?_)
            · have h7 : W.drew.heap.size ≤ w7.heap.size := GB.size hw7
              have h8 : W.drew.heap.size = W.heap.size := rfl
              go_simp
              exact ⟨(Below.refl _ _).alloc (Nat.le_refl _) _, ⟨fun _ => ⟨_, rfl⟩, fun _ => ⟨w7.heap.size, rfl, by omega, World.alloc_heap_new _ _⟩⟩, Go.Mix.Left.alloc _ _⟩
            obtain ⟨kb6, rfl⟩ := hv9 (.inr rfl)
            have hkk : kb5 ≠ kb6 := hn9.2 kb5 kb6 rfl rfl
            clear hv9 hn9
            refine Go.Mix.mixW_tail rfl (fun w9 hg9 hΦ => ?_)
            obtain ⟨⟨_, f8⟩, f9⟩ := hΦ
            obtain ⟨kb', e5, g5, t5⟩ := f8 (.inl rfl)
            obtain ⟨kb'', e6, g6, t6⟩ := f9 (.inr rfl)
            simp only [Value.pointer.injEq, Option.some.injEq, Addr.mk.injEq, and_true] at e5 e6
            subst e5 e6
            have hb9 : Below W.heap.size W w9 := Below.trans (Below.drew (Below.refl _ W)) hg9
            clear f8 f9 hg9
            refine Go.Mix.mix_eff rfl (fun K hK => ?_)
            rw [if_pos (show Region.wanted _ _ = true from rfl)]
            refine wp_store_row 34 (.tmp 5) (.tmp 37) rfl kb5 _ rfl rfl _ _ t5 infoQnS rfl (by simp [Value.oneCell']) ?_
            refine hK _ _ (below_setRow hb9 g5 _) ?_
            clear hK K
            refine Go.Mix.mix_eff rfl (fun K hK => ?_)
            rw [if_pos (show Region.wanted _ _ = true from rfl)]
            refine wp_store_row 34 (.tmp 6) (.tmp 41) rfl kb6 _ rfl rfl _ _ ((setRow_other _ _ _ _ (Ne.symm hkk)).trans t6) infoQnS rfl (by simp [Value.oneCell']) ?_
            refine hK _ _ (below_setRow (below_setRow hb9 g5 _) g6 _) ?_
            clear hK K
            refine Go.Mix.mix_nil ?_
            have u6 := setRow_heap (w9.setRow kb5 #[.string (mk pn), .int .i64 pt, .int .i64 pc]) kb6 _ #[.string (mk rn), .int .i64 rt, .int .i64 rc] _ _ ((setRow_other _ _ _ _ (Ne.symm hkk)).trans t6)
            have u5 := (setRow_other (w9.setRow kb5 #[.string (mk pn), .int .i64 pt, .int .i64 pc]) kb6 kb5 #[.string (mk rn), .int .i64 rt, .int .i64 rc] hkk).trans (setRow_heap w9 kb5 _ #[.string (mk pn), .int .i64 pt, .int .i64 pc] _ _ t5)
            have hbY := below_setRow (below_setRow hb9 g5 #[.string (mk pn), .int .i64 pt, .int .i64 pc]) g6 #[.string (mk rn), .int .i64 rt, .int .i64 rc]
            clear P0 P1 P2 R0 R1 R2 c1 c2 hne t5 t6 hb9
            have hbw := HBX.out.trans (hbY.mono HBX.out.size)
            have HBY := Go.Lib.hid hbY
            clear hbY
            generalize (w9.setRow kb5 #[.string (mk pn), .int .i64 pt, .int .i64 pc]).setRow kb6 #[.string (mk rn), .int .i64 rt, .int .i64 rc] = Y at *
            have hg5 := cell_of_heap u5
            have hg6 := cell_of_heap u6
            have a0 := hg5 0
            have b0 := hg6 0
            have hlt5 := (Array.getElem?_eq_some_iff.1 u5).1
            have hlt6 := (Array.getElem?_eq_some_iff.1 u6).1
            simp only [List.getElem?_toArray, List.getElem?_cons_zero] at a0 b0
            have U5 := Go.Lib.hid u5
            have U6 := Go.Lib.hid u6
            have HBW := Go.Lib.hid hbw
            clear u5 u6 hbw
            clear hg5 hg6
            go_wp2_with fail
            refine (HS.out _).mono ?_; rintro e wz ⟨rfl, hx⟩
            have hz5 := cell_of_heap ((hx.block _ hlt5).trans U5.out)
            have hz6 := cell_of_heap ((hx.block _ hlt6).trans U6.out)
            have z1 := hz5 1
            have z2 := hz5 2
            have y1 := hz6 1
            have y2 := hz6 2
            simp only [List.getElem?_toArray, List.getElem?_cons_succ, List.getElem?_cons_zero] at z1 z2 y1 y2
            have hend := HBW.out.trans (hx.mono HBW.out.size)
            have HEND := Go.Lib.hid hend
            clear hend
            clear hz5 hz6 hx a0 b0
            generalize Nm.sameN pn rn = sb at *
            cases sb with
            | false =>
              have hr2 : Hid (res = false) := Go.Lib.hid (by rw [hres.out]; rfl)
              go_wp2_with fail
              go_ret
              exact ⟨ret_bool hr2.out.symm, HEND.out⟩
            | true =>
              by_cases ht : pt = rt
              · by_cases hc : pc = rc
                · have hr2 : Hid (res = true) := Go.Lib.hid (by rw [hres.out, ht, hc]; simp)
                  subst ht hc
                  go_wp2_with fail
                  go_ret
                  exact ⟨ret_bool hr2.out.symm, HEND.out⟩
                · have hr2 : Hid (res = false) := Go.Lib.hid (by rw [hres.out, beq_eq_false_iff_ne.2 hc]; simp)
                  have hcb := beq_eq_false_iff_ne.2 hc
                  subst ht
                  clear hc
                  go_wp2_with fail
                  go_ret
                  exact ⟨ret_bool hr2.out.symm, HEND.out⟩
              · have hr2 : Hid (res = false) := Go.Lib.hid (by rw [hres.out, beq_eq_false_iff_ne.2 ht]; simp)
                have htb := beq_eq_false_iff_ne.2 ht
                clear ht
                go_wp2_with fail
                go_ret
                exact ⟨ret_bool hr2.out.symm, HEND.out⟩
          · have hres : Hid (res = false) := Go.Lib.hid (by rw [HDEF.out, beq_eq_false_iff_ne.2 k5]; simp)
            have e5 := bne_int (a := (nq : Int)) (b := 1) (by omega)
            subst k4
            clear k5
            go_enter Try.func30, Try.ntmps30
            go_wp2_with fail
            go_ret
            exact ⟨ret_bool hres.out.symm, HBX.out⟩
        · have hres : Hid (res = false) := Go.Lib.hid (by rw [HDEF.out, beq_eq_false_iff_ne.2 k4]; simp)
          have e4 := bne_int (a := (nq' : Int)) (b := 1) (by omega)
          by_cases k5 : nq = 1
          · subst k5
            clear k4
            go_enter Try.func30, Try.ntmps30
            go_wp2_with fail
            go_ret
            exact ⟨ret_bool hres.out.symm, HBX.out⟩
          · have e5 := bne_int (a := (nq : Int)) (b := 1) (by omega)
            clear k4 k5
            go_enter Try.func30, Try.ntmps30
            go_wp2_with fail
            go_ret
            exact ⟨ret_bool hres.out.symm, HBX.out⟩
      · have hres : Hid (res = false) := Go.Lib.hid (by rw [HDEF.out, beq_eq_false_iff_ne.2 k3]; simp)
        have e3 := bne_int k3
        clear k3
        go_enter Try.func30, Try.ntmps30
        go_wp2_with fail
        go_ret
        exact ⟨ret_bool hres.out.symm, HBX.out⟩
    · have hres : Hid (res = false) := Go.Lib.hid (by rw [HDEF.out, beq_eq_false_iff_ne.2 k2]; simp)
      have e2 := bne_int k2
      clear k2
      go_enter Try.func30, Try.ntmps30
      go_wp2_with fail
      go_ret
      exact ⟨ret_bool hres.out.symm, HBX.out⟩
  · have hres : Hid (res = false) := Go.Lib.hid (by rw [HDEF.out]; simp [k1])
    have e1 : ore = false := by simpa using k1
    subst e1
    clear k1
    go_enter Try.func30, Try.ntmps30
    go_wp2_with fail
    go_ret
    exact ⟨ret_bool hres.out.symm, HBX.out⟩
set_option maxRecDepth 100000 in
set_option maxHeartbeats 4000000 in
theorem refAnswers_any (m o : Msg) (q a s d q' a' s' d' : Value) (w : World) (hm : MsgL w m q a s d) (ho : MsgL w o q' a' s' d') (hn : ∀ x ∈ m.qs, x.name.length ≤ maxLen) (hn' : ∀ x ∈ o.qs, x.name.length ≤ maxLen) :
    Calls Try.prog 32 #[MV m q a s d, MV o q' a' s' d'] w fun e w' => e = .returned (.bool (answersN m o)) ∧ Below w.heap.size w w' := by
  obtain ⟨aq, cq, rfl, _, _⟩ := hm.qs.slice
  obtain ⟨aa, ca, rfl, _, _⟩ := hm.an.slice
  obtain ⟨asv, cs, rfl, _, _⟩ := hm.sv.slice
  obtain ⟨ad, cd, rfl, _, _⟩ := hm.ad.slice
  obtain ⟨bq, eq, rfl, _, _⟩ := ho.qs.slice
  obtain ⟨ba, ea, rfl, _, _⟩ := ho.an.slice
  obtain ⟨bsv, es, rfl, _, _⟩ := ho.sv.slice
  obtain ⟨bd, ed, rfl, _, _⟩ := ho.ad.slice
  have hq := hm.qs
  have hq' := ho.qs
  have hdef : answersN m o = (o.resp && (o.id == m.id) && (o.op == 0) && (o.qs.length == 1) && (m.qs.length == 1) &&
    (Nm.sameN (m.qs.getD 0 q0).name (o.qs.getD 0 q0).name && ((m.qs.getD 0 q0).ty == (o.qs.getD 0 q0).ty) && ((m.qs.getD 0 q0).cl == (o.qs.getD 0 q0).cl))) := rfl
  obtain ⟨hx1, hx2⟩ := two_boxes w (MC m (.slice aq m.qs.length cq) (.slice aa m.an.length ca) (.slice asv m.sv.length cs) (.slice ad m.ad.length cd)) (MC o (.slice bq o.qs.length eq) (.slice ba o.an.length ea) (.slice bsv o.sv.length es) (.slice bd o.ad.length ed)) 40
  have hbx : Below w.heap.size w ((w.alloc (.cells (MC m (.slice aq m.qs.length cq) (.slice aa m.an.length ca) (.slice asv m.sv.length cs) (.slice ad m.ad.length cd)) 40)).alloc (.cells (MC o (.slice bq o.qs.length eq) (.slice ba o.an.length ea) (.slice bsv o.sv.length es) (.slice bd o.ad.length ed)) 40)) := ((Below.refl _ w).alloc (Nat.le_refl _) _).alloc (by simp) _
  have hsz : ((w.alloc (.cells (MC m (.slice aq m.qs.length cq) (.slice aa m.an.length ca) (.slice asv m.sv.length cs) (.slice ad m.ad.length cd)) 40)).alloc (.cells (MC o (.slice bq o.qs.length eq) (.slice ba o.an.length ea) (.slice bsv o.sv.length es) (.slice bd o.ad.length ed)) 40)).heap.size = w.heap.size + 2 := by simp
  clear hm ho
  obtain ⟨mid, mre, mop, mau, mcu, mde, mav, mco, mqs, man, msv, mad, med, msi⟩ := m
  obtain ⟨oid, ore, oop, oau, ocu, ode, oav, oco, oqs, oan, osv, oad, oed, osi⟩ := o
  simp only [MC, MV] at hq hq' hdef hx1 hx2 hbx hsz hn hn' ⊢
  generalize answersN _ _ = res at *
  generalize man.length = na at *
  generalize msv.length = ns at *
  generalize mad.length = nd at *
  generalize oan.length = na' at *
  generalize osv.length = ns' at *
  generalize oad.length = nd' at *
  unfold Qns at hq hq'
  generalize hnq : mqs.length = nq at *
  generalize hnq' : oqs.length = nq' at *
  have HQ := Go.Lib.hid hq
  have HQ' := Go.Lib.hid hq'
  have HN := Go.Lib.hid hn
  have HN' := Go.Lib.hid hn'
  have HX1 := Go.Lib.hid hx1
  have HX2 := Go.Lib.hid hx2
  have HBX := Go.Lib.hid hbx
  have HDEF := Go.Lib.hid hdef
  have HNQ := Go.Lib.hid hnq
  have HNQ' := Go.Lib.hid hnq'
  clear hq hq' hn hn' hx1 hx2 hbx hdef hnq hnq'
  by_cases k1 : ore = true
  · subst k1
    by_cases k2 : oid = mid
    · subst k2
      by_cases k3 : oop = 0
      · subst k3
        by_cases k4 : nq' = 1
        · by_cases k5 : nq = 1
          · subst k4 k5
            have hqW := (show ∀ W0, Below w.heap.size w W0 → Qns W0 (.slice aq 1 cq) mqs from fun W0 h => by unfold Qns; rw [HNQ.out]; exact HQ.out.below h (Nat.le_refl _)) _ HBX.out
            have hqW' := (show ∀ W0, Below w.heap.size w W0 → Qns W0 (.slice bq 1 eq) oqs from fun W0 h => by unfold Qns; rw [HNQ'.out]; exact HQ'.out.below h (Nat.le_refl _)) _ HBX.out
            obtain ⟨b, off, rfl, hbl, hcell⟩ := Qns.at hqW (by rw [HNQ.out]; decide)
            obtain ⟨b', off', rfl, hbl', hcell'⟩ := Qns.at hqW' (by rw [HNQ'.out]; decide)
            obtain ⟨p0, p1, p2⟩ := hcell 0 (by rw [HNQ.out]; decide)
            obtain ⟨r0, r1, r2⟩ := hcell' 0 (by rw [HNQ'.out]; decide)
            have hpm : mqs.getD 0 q0 ∈ mqs := getD_mem' (by rw [HNQ.out]; decide)
            have hrm : oqs.getD 0 q0 ∈ oqs := getD_mem' (by rw [HNQ'.out]; decide)
            have hpn := HN.out _ hpm
            have hrn := HN'.out _ hrm
            have hres : Hid (res = (Nm.sameN (mqs.getD 0 q0).name (oqs.getD 0 q0).name && ((mqs.getD 0 q0).ty == (oqs.getD 0 q0).ty) && ((mqs.getD 0 q0).cl == (oqs.getD 0 q0).cl))) := Go.Lib.hid (by rw [HDEF.out]; simp)
            clear hqW hqW' hcell hcell' hpm hrm
            generalize mqs.getD 0 q0 = p at *
            generalize oqs.getD 0 q0 = r at *
            obtain ⟨pn, pt, pc⟩ := p
            obtain ⟨rn, rt, rc⟩ := r
            simp only [Nat.zero_mul, Nat.add_zero] at p0 p1 p2 r0 r1 r2 hpn hrn hres
            have hsame := fun w => refSame_any (mk pn) (mk rn) w (by rw [size_mk]; exact hpn) (by rw [size_mk]; exact hrn)
            simp only [bl_mk] at hsame
            have HS := Go.Lib.hid hsame
            have HPN := Go.Lib.hid hpn
            have HRN := Go.Lib.hid hrn
            clear hsame hpn hrn
            have hg1 := cell_of_heap HX1.out 8
            have hg2 := cell_of_heap HX2.out 8
            have hl1 := (Array.getElem?_eq_some_iff.1 HX1.out).1
            have hl2 := (Array.getElem?_eq_some_iff.1 HX2.out).1
            simp only [List.getElem?_toArray, List.getElem?_cons_succ, List.getElem?_cons_zero] at hg1 hg2
            go_enter Try.func32, Try.ntmps32
            go_wp2_with fail
            generalize hW : (w.alloc (.cells #[.int .i64 oid, .bool mre, .int .i64 mop, .bool mau, .bool mcu, .bool mde, .bool mav, .int .i64 mco, .slice (some ⟨b, off, none⟩) 1 cq, .slice aa na ca, .slice asv ns cs, .slice ad nd cd, .bool med, .int .i64 msi] 40)).alloc (.cells #[.int .i64 oid, .bool true, .int .i64 0, .bool oau, .bool ocu, .bool ode, .bool oav, .int .i64 oco, .slice (some ⟨b', off', none⟩) 1 eq, .slice ba na' ea, .slice bsv ns' es, .slice bd nd' ed, .bool oed, .int .i64 osi] 40) = W at *
            clear hW HX1 HX2
            have c1 := BelowC.cell (W := W) hg1 hl1
            have c2 := BelowC.cell (W := W) hg2 hl2
            have P0 := BelowC.cell (W := W) p0 hbl
            have P1 := BelowC.cell (W := W) p1 hbl
            have P2 := BelowC.cell (W := W) p2 hbl
            have R0 := BelowC.cell (W := W) r0 hbl'
            have R1 := BelowC.cell (W := W) r1 hbl'
            have R2 := BelowC.cell (W := W) r2 hbl'
            have hne : Nonempty (Subtype (Below W.heap.size W)) := ⟨⟨W, Below.refl _ _⟩⟩
            clear hg1 hg2 p0 p1 p2 r0 r1 r2
            refine Go.Mix.wp_region_mixW [8, 9] [10, 11] 10 (Below W.heap.size W) GB (FQn W.heap.size) SQn mixed (by kernel_rfl) (fun w' h => Below.trans (Below.drew (Below.refl _ W)) h) GB.trans GB.refl GB.size (fun i v w w' h hg => h.stable hg) SQn.inh ?_
            iterate 8 (refine Go.Mix.mixW_step rfl (fun K hK => ?_); have HKK := Go.Lib.hid hK; clear hK; go_simp; refine HKK.out _ ?_; clear HKK K)
            refine Go.Mix.mixW_eff rfl rfl (fun w7 hw7 => ?_) (fun v8 hv8 hn8 => ?_)
            · have h7 : W.drew.heap.size ≤ w7.heap.size := GB.size hw7
              have h8 : W.drew.heap.size = W.heap.size := rfl
              go_simp
              exact ⟨(Below.refl _ _).alloc (Nat.le_refl _) _, ⟨fun _ => ⟨_, rfl⟩, fun _ => ⟨w7.heap.size, rfl, by omega, World.alloc_heap_new _ _⟩⟩, Go.Mix.Left.alloc _ _⟩
            obtain ⟨kb5, rfl⟩ := hv8 (.inl rfl)
            clear hv8 hn8
            refine Go.Mix.mixW_eff rfl rfl (fun w7 hw7 => ?_) (fun v9 hv9 hn9 => ?_)
            · have h7 : W.drew.heap.size ≤ w7.heap.size := GB.size hw7
              have h8 : W.drew.heap.size = W.heap.size := rfl
              go_simp
              exact ⟨(Below.refl _ _).alloc (Nat.le_refl _) _, ⟨fun _ => ⟨_, rfl⟩, fun _ => ⟨w7.heap.size, rfl, by omega, World.alloc_heap_new _ _⟩⟩, Go.Mix.Left.alloc _ _⟩
            obtain ⟨kb6, rfl⟩ := hv9 (.inr rfl)
            have hkk : kb5 ≠ kb6 := hn9.2 kb5 kb6 rfl rfl
            clear hv9 hn9
            refine Go.Mix.mixW_tail rfl (fun w9 hg9 hΦ => ?_)
            obtain ⟨⟨_, f8⟩, f9⟩ := hΦ
            obtain ⟨kb', e5, g5, t5⟩ := f8 (.inl rfl)
            obtain ⟨kb'', e6, g6, t6⟩ := f9 (.inr rfl)
            simp only [Value.pointer.injEq, Option.some.injEq, Addr.mk.injEq, and_true] at e5 e6
            subst e5 e6
            have hb9 : Below W.heap.size W w9 := Below.trans (Below.drew (Below.refl _ W)) hg9
            clear f8 f9 hg9
            refine Go.Mix.mix_eff rfl (fun K hK => ?_)
            rw [if_pos (show Region.wanted _ _ = true from rfl)]
            refine wp_store_row 34 (.tmp 5) (.tmp 37) rfl kb5 _ rfl rfl _ _ t5 infoQnS rfl (by simp [Value.oneCell']) ?_
            refine hK _ _ (below_setRow hb9 g5 _) ?_
            clear hK K
            refine Go.Mix.mix_eff rfl (fun K hK => ?_)
            rw [if_pos (show Region.wanted _ _ = true from rfl)]
            refine wp_store_row 34 (.tmp 6) (.tmp 41) rfl kb6 _ rfl rfl _ _ ((setRow_other _ _ _ _ (Ne.symm hkk)).trans t6) infoQnS rfl (by simp [Value.oneCell']) ?_
            refine hK _ _ (below_setRow (below_setRow hb9 g5 _) g6 _) ?_
            clear hK K
            refine Go.Mix.mix_nil ?_
            have u6 := setRow_heap (w9.setRow kb5 #[.string (mk pn), .int .i64 pt, .int .i64 pc]) kb6 _ #[.string (mk rn), .int .i64 rt, .int .i64 rc] _ _ ((setRow_other _ _ _ _ (Ne.symm hkk)).trans t6)
            have u5 := (setRow_other (w9.setRow kb5 #[.string (mk pn), .int .i64 pt, .int .i64 pc]) kb6 kb5 #[.string (mk rn), .int .i64 rt, .int .i64 rc] hkk).trans (setRow_heap w9 kb5 _ #[.string (mk pn), .int .i64 pt, .int .i64 pc] _ _ t5)
            have hbY := below_setRow (below_setRow hb9 g5 #[.string (mk pn), .int .i64 pt, .int .i64 pc]) g6 #[.string (mk rn), .int .i64 rt, .int .i64 rc]
            clear P0 P1 P2 R0 R1 R2 c1 c2 hne t5 t6 hb9
            have hbw := HBX.out.trans (hbY.mono HBX.out.size)
            have HBY := Go.Lib.hid hbY
            clear hbY
            generalize (w9.setRow kb5 #[.string (mk pn), .int .i64 pt, .int .i64 pc]).setRow kb6 #[.string (mk rn), .int .i64 rt, .int .i64 rc] = Y at *
            have hg5 := cell_of_heap u5
            have hg6 := cell_of_heap u6
            have a0 := hg5 0
            have b0 := hg6 0
            have hlt5 := (Array.getElem?_eq_some_iff.1 u5).1
            have hlt6 := (Array.getElem?_eq_some_iff.1 u6).1
            simp only [List.getElem?_toArray, List.getElem?_cons_zero] at a0 b0
            have U5 := Go.Lib.hid u5
            have U6 := Go.Lib.hid u6
            have HBW := Go.Lib.hid hbw
            clear u5 u6 hbw
            clear hg5 hg6
            go_wp2_with fail
            refine (HS.out _).mono ?_; rintro e wz ⟨rfl, hx⟩
            have hz5 := cell_of_heap ((hx.block _ hlt5).trans U5.out)
            have hz6 := cell_of_heap ((hx.block _ hlt6).trans U6.out)
            have z1 := hz5 1
            have z2 := hz5 2
            have y1 := hz6 1
            have y2 := hz6 2
            simp only [List.getElem?_toArray, List.getElem?_cons_succ, List.getElem?_cons_zero] at z1 z2 y1 y2
            have hend := HBW.out.trans (hx.mono HBW.out.size)
            have HEND := Go.Lib.hid hend
            clear hend
            clear hz5 hz6 hx a0 b0
            generalize Nm.sameN pn rn = sb at *
            cases sb with
            | false =>
              have hr2 : Hid (res = false) := Go.Lib.hid (by rw [hres.out]; rfl)
              go_wp2_with fail
              go_ret
              exact ⟨ret_bool hr2.out.symm, HEND.out⟩
            | true =>
              by_cases ht : pt = rt
              · by_cases hc : pc = rc
                · have hr2 : Hid (res = true) := Go.Lib.hid (by rw [hres.out, ht, hc]; simp)
                  subst ht hc
                  go_wp2_with fail
                  go_ret
                  exact ⟨ret_bool hr2.out.symm, HEND.out⟩
                · have hr2 : Hid (res = false) := Go.Lib.hid (by rw [hres.out, beq_eq_false_iff_ne.2 hc]; simp)
                  have hcb := beq_eq_false_iff_ne.2 hc
                  subst ht
                  clear hc
                  go_wp2_with fail
                  go_ret
                  exact ⟨ret_bool hr2.out.symm, HEND.out⟩
              · have hr2 : Hid (res = false) := Go.Lib.hid (by rw [hres.out, beq_eq_false_iff_ne.2 ht]; simp)
                have htb := beq_eq_false_iff_ne.2 ht
                clear ht
                go_wp2_with fail
                go_ret
                exact ⟨ret_bool hr2.out.symm, HEND.out⟩
          · have hres : Hid (res = false) := Go.Lib.hid (by rw [HDEF.out, beq_eq_false_iff_ne.2 k5]; simp)
            have e5 := bne_int (a := (nq : Int)) (b := 1) (by omega)
            subst k4
            clear k5
            go_enter Try.func32, Try.ntmps32
            go_wp2_with fail
            go_ret
            exact ⟨ret_bool hres.out.symm, HBX.out⟩
        · have hres : Hid (res = false) := Go.Lib.hid (by rw [HDEF.out, beq_eq_false_iff_ne.2 k4]; simp)
          have e4 := bne_int (a := (nq' : Int)) (b := 1) (by omega)
          by_cases k5 : nq = 1
          · subst k5
            clear k4
            go_enter Try.func32, Try.ntmps32
            go_wp2_with fail
            go_ret
            exact ⟨ret_bool hres.out.symm, HBX.out⟩
          · have e5 := bne_int (a := (nq : Int)) (b := 1) (by omega)
            clear k4 k5
            go_enter Try.func32, Try.ntmps32
            go_wp2_with fail
            go_ret
            exact ⟨ret_bool hres.out.symm, HBX.out⟩
      · have hres : Hid (res = false) := Go.Lib.hid (by rw [HDEF.out, beq_eq_false_iff_ne.2 k3]; simp)
        have e3 := bne_int k3
        clear k3
        go_enter Try.func32, Try.ntmps32
        go_wp2_with fail
        go_ret
        exact ⟨ret_bool hres.out.symm, HBX.out⟩
    · have hres : Hid (res = false) := Go.Lib.hid (by rw [HDEF.out, beq_eq_false_iff_ne.2 k2]; simp)
      have e2 := bne_int k2
      clear k2
      go_enter Try.func32, Try.ntmps32
      go_wp2_with fail
      go_ret
      exact ⟨ret_bool hres.out.symm, HBX.out⟩
  · have hres : Hid (res = false) := Go.Lib.hid (by rw [HDEF.out]; simp [k1])
    have e1 : ore = false := by simpa using k1
    subst e1
    clear k1
    go_enter Try.func32, Try.ntmps32
    go_wp2_with fail
    go_ret
    exact ⟨ret_bool hres.out.symm, HBX.out⟩
end Go.Proofs.Ytblbphnmflbepaa

