/- freshetlaw5.awake returns true: the named answers, one by one. -/
import Derived.Test.YtcamopppeanipaaMgE
import Derived.Test.YtcamopppeanipaaMsgC
import Derived.Deep.WholeRow
namespace Go.Proofs.Ytcamopppeanipaa
open Go.RowKit Go.Shelf Go.Sq
set_option linter.unusedVariables false

def qA : Qn := ⟨[1, 97, 0], 1, 1⟩
def rA : Rc.RR := ⟨[1, 65, 0], 1, 1, 0, [49, 50, 51, 52]⟩
def mA : Msg := askN 5 qA
def mR : Msg := replyN mA 3 [] []
def mW : Msg := askN 6 qA
theorem bits5 : bits .and .i64 65541 65535 = 5 := by decide +kernel
theorem bits6 : bits .and .i64 6 65535 = 6 := by decide +kernel
theorem ansA : answersN mA mR = true := by decide +kernel
theorem ansW : answersN mW mR = false := by decide +kernel
theorem ansM : answersN mA mA = false := by decide +kernel
theorem grpA : walkG (-1) (groupsN [rA, rA]) = [⟨[1, 97, 0], 1, [rA]⟩] := by kernel_rfl
theorem qA_ok : ∀ x ∈ mA.qs, x.name.length ≤ maxLen := by intro x hx; simp [mA, askN] at hx; subst hx; decide
theorem qR_ok : ∀ x ∈ mR.qs, x.name.length ≤ maxLen := by intro x hx; simp [mR, replyN, mA, askN] at hx; subst hx; decide
theorem qW_ok : ∀ x ∈ mW.qs, x.name.length ≤ maxLen := by intro x hx; simp [mW, askN] at hx; subst hx; decide
theorem rA_ok : ∀ r ∈ [rA, rA], RROk r := by intro r hr; simp at hr; subst hr; exact ⟨by decide, by decide⟩

/-- a message's places are slices -/
theorem MsgT.places {w : World} {m : Msg} {q a s d : Value} (h : MsgT w m q a s d) : ∃ aq cq aa ca as' cs ad cd, q = .slice aq m.qs.length cq ∧ a = .slice aa m.an.length ca ∧ s = .slice as' m.sv.length cs ∧ d = .slice ad m.ad.length cd := by
  obtain ⟨aq, cq, h1, _, _⟩ := h.qs.1.slice
  obtain ⟨aa, ca, h2, _, _⟩ := h.an.1.slice
  obtain ⟨as', cs, h3, _, _⟩ := h.sv.1.slice
  obtain ⟨ad, cd, h4, _, _⟩ := h.ad.1.slice
  exact ⟨aq, cq, aa, ca, as', cs, ad, cd, h1, h2, h3, h4⟩
theorem one_msg (m : Msg) (aq aa asv ad : Option Addr) (n1 n2 n3 n4 c1 c2 c3 c4 : Nat) : (MC m (.slice aq n1 c1) (.slice aa n2 c2) (.slice asv n3 c3) (.slice ad n4 c4)).all (·.oneCell') = true := by simp [Value.oneCell']

theorem run_field7 (v0 v1 v2 v3 v4 v5 v6 v7 v8 v9 v10 v11 v12 v13 : Value) (w : World) (h : v7.oneCell' = true) : (Instr.field 27 (.agg #[v0, v1, v2, v3, v4, v5, v6, v7, v8, v9, v10, v11, v12, v13]) 7).run Try.prog w = .ok v7 w := by
  kernel_rfl
theorem wpList_loadG {P : Program} {ops : Array Oper} {rest : List Oper} {o : Oper} {a : Act} {w : World} {Q : Exit → Act → World → Prop} (hgd : Region.wanted o (yielded ops a.tmps) = true) (ty : TypeId) (x : Operand) (ho : o.op = .load ty x)
    (g : Nat) (hx : a.eval x = .pointer (some ⟨g, 0, none⟩)) (t : TypeId) (cs : Array Value) (fr : Nat × Nat) (d : TypeDesc) (hg : w.heap[g]? = some (.cells cs t fr))
    (hu : P.underlying ty = some d) (hd : (match d with | .struct _ | .array _ _ => true | _ => false) = true) (hi : (P.info? ty).map (·.size) = some cs.size)
    (h : wpList P ops Q rest (a.put o.dst (.agg cs)) w) : wpList P ops Q (o :: rest) a w :=
  wpList_step fun K hK => by
    rw [if_pos hgd]
    exact wp_load_row ty x ho g hx t cs fr d hg hu hd hi (hK _ _ h)

set_option maxRecDepth 100000 in
set_option maxHeartbeats 8000000 in
theorem awake5_any (w : World) : Calls Try.prog 10 #[] w fun e w' => e = .returned (.bool true) ∧ Below w.heap.size w w' := by
  have h0 := World.alloc_heap_new w (.cells #[.string (mk [1, 97, 0]), .int .i64 1, .int .i64 1] 23)
  have hb0 : Below w.heap.size w (w.alloc (.cells #[.string (mk [1, 97, 0]), .int .i64 1, .int .i64 1] 23)) := (Below.refl _ w).alloc (Nat.le_refl _) _
  obtain ⟨fs, hu⟩ := undMsg
  have H0 := Go.Lib.hid h0
  have HB0 := Go.Lib.hid hb0
  have HU := Go.Lib.hid hu
  clear h0 hb0 hu
  go_enter Try.func10, Try.ntmps10
  go_wp2_with fail
  have hask := Ask_any 65541 qA (w.alloc (.cells #[.string (mk [1, 97, 0]), .int .i64 1, .int .i64 1] 23))
  rw [bits5] at hask
  refine hask.mono ?_; rintro e w1 ⟨q1, a1, s1, d1, rfl, ht1, hb1⟩
  clear hask
  obtain ⟨aq, cq, aa, ca, asv, cs, ad, cd, rfl, rfl, rfl, rfl⟩ := ht1.places
  have hq1 := (hb1.block _ (Array.getElem?_eq_some_iff.1 H0.out).1).trans H0.out
  have hbb1 := HB0.out.trans (hb1.mono HB0.out.size)
  have hz1 := hbb1.size
  have hw1 : w.heap.size < w1.heap.size := (Array.getElem?_eq_some_iff.1 hq1).1
  have ht1 : MsgT w1 mA (.slice aq 1 cq) (.slice aa 0 ca) (.slice asv 0 cs) (.slice ad 0 cd) := ht1
  have hone : (#[.int .i64 5, .bool false, .int .i64 0, .bool false, .bool false, .bool false, .bool false, .int .i64 0, .slice aq 1 cq, .slice aa 0 ca, .slice asv 0 cs, .slice ad 0 cd, .bool true, .int .i64 1232] : Array Value).all (·.oneCell') = true := by simp [Value.oneCell']
  have hM1 : (w1.alloc (.cells #[.int .i64 5, .bool false, .int .i64 0, .bool false, .bool false, .bool false, .bool false, .int .i64 0, .slice aq 1 cq, .slice aa 0 ca, .slice asv 0 cs, .slice ad 0 cd, .bool true, .int .i64 1232] 27)).heap[w1.heap.size]? = some (.cells #[.int .i64 5, .bool false, .int .i64 0, .bool false, .bool false, .bool false, .bool false, .int .i64 0, .slice aq 1 cq, .slice aa 0 ca, .slice asv 0 cs, .slice ad 0 cd, .bool true, .int .i64 1232] 27 (0, 0)) := World.alloc_heap_new _ _
  have hrep := Reply_any mA (.slice aq 1 cq) (.slice aa 0 ca) (.slice asv 0 cs) (.slice ad 0 cd) 3 (.slice none 0 0) (.slice none 0 0) [] [] (w1.alloc (.cells #[.int .i64 5, .bool false, .int .i64 0, .bool false, .bool false, .bool false, .bool false, .int .i64 0, .slice aq 1 cq, .slice aa 0 ca, .slice asv 0 cs, .slice ad 0 cd, .bool true, .int .i64 1232] 27)) (ht1.lies.below ((Below.refl _ _).alloc (Nat.le_refl _) _) (Nat.le_refl _)) (SlC.nil _ _) (SlC.nil _ _) (by decide) (by decide) (by decide)
  have hbA : Below w.heap.size w (w1.alloc (.cells #[.int .i64 5, .bool false, .int .i64 0, .bool false, .bool false, .bool false, .bool false, .int .i64 0, .slice aq 1 cq, .slice aa 0 ca, .slice asv 0 cs, .slice ad 0 cd, .bool true, .int .i64 1232] 27)) := hbb1.alloc hz1 _
  have hqA := heap_old hq1 (.cells #[.int .i64 5, .bool false, .int .i64 0, .bool false, .bool false, .bool false, .bool false, .int .i64 0, .slice aq 1 cq, .slice aa 0 ca, .slice asv 0 cs, .slice ad 0 cd, .bool true, .int .i64 1232] 27)
  have HONE := Go.Lib.hid hone
  have HREP := Go.Lib.hid hrep
  have HB1 := Go.Lib.hid hb1
  have HQ1 := Go.Lib.hid hq1
  have HT1 := Go.Lib.hid ht1
  have HBB1 := Go.Lib.hid hbb1
  have HM1 := Go.Lib.hid hM1
  have HBA := Go.Lib.hid hbA
  have HQA := Go.Lib.hid hqA
  clear hone hrep hb1 hq1 ht1 hbb1 hM1 hbA hqA
  go_wp2_with (first | (refine wpList_store_row rfl 27 (.tmp 2) (.tmp 9) rfl w1.heap.size #[.int .i64 5, .bool false, .int .i64 0, .bool false, .bool false, .bool false, .bool false, .int .i64 0, .slice aq 1 cq, .slice aa 0 ca, .slice asv 0 cs, .slice ad 0 cd, .bool true, .int .i64 1232] rfl rfl _ _ (World.alloc_heap_new _ _) infoMsg rfl HONE.out ?_; rw [World.setRow_alloc_new]) | (refine wpList_load_row rfl 27 (.tmp 2) rfl w1.heap.size rfl 27 #[.int .i64 5, .bool false, .int .i64 0, .bool false, .bool false, .bool false, .bool false, .int .i64 0, .slice aq 1 cq, .slice aa 0 ca, .slice asv 0 cs, .slice ad 0 cd, .bool true, .int .i64 1232] (0, 0) _ HM1.out HU.out rfl infoMsg ?_))
  refine HREP.out.mono ?_; rintro e w2 ⟨q2, a2, s2, d2, rfl, ht2, hb2⟩
  obtain ⟨bq, eq, ba, ea, bsv, es, bd, ed, rfl, rfl, rfl, rfl⟩ := ht2.places
  have hM2 := (hb2.block _ (Array.getElem?_eq_some_iff.1 HM1.out).1).trans HM1.out
  have hQ2 := (hb2.block _ (Array.getElem?_eq_some_iff.1 HQA.out).1).trans HQA.out
  have hbb2 := HBA.out.trans (hb2.mono HBA.out.size)
  have ht2 : MsgT w2 mR (.slice bq 1 eq) (.slice ba 0 ea) (.slice bsv 0 es) (.slice bd 0 ed) := ht2
  have htM2 := (HT1.out.below ((Below.refl _ w1).alloc (Nat.le_refl _) (.cells #[.int .i64 5, .bool false, .int .i64 0, .bool false, .bool false, .bool false, .bool false, .int .i64 0, .slice aq 1 cq, .slice aa 0 ca, .slice asv 0 cs, .slice ad 0 cd, .bool true, .int .i64 1232] 27))).below hb2
  have hone2 : (#[.int .i64 5, .bool true, .int .i64 0, .bool false, .bool false, .bool false, .bool true, .int .i64 3, .slice bq 1 eq, .slice ba 0 ea, .slice bsv 0 es, .slice bd 0 ed, .bool true, .int .i64 1232] : Array Value).all (·.oneCell') = true := by simp [Value.oneCell']
  have hz2 := hbb2.size
  have hltm : w1.heap.size < w2.heap.size := (Array.getElem?_eq_some_iff.1 hM2).1
  have hask2 := Ask_any 6 qA (w2.alloc (.cells #[.int .i64 5, .bool true, .int .i64 0, .bool false, .bool false, .bool false, .bool true, .int .i64 3, .slice bq 1 eq, .slice ba 0 ea, .slice bsv 0 es, .slice bd 0 ed, .bool true, .int .i64 1232] 27))
  rw [bits6] at hask2
  have hR3 : (w2.alloc (.cells #[.int .i64 5, .bool true, .int .i64 0, .bool false, .bool false, .bool false, .bool true, .int .i64 3, .slice bq 1 eq, .slice ba 0 ea, .slice bsv 0 es, .slice bd 0 ed, .bool true, .int .i64 1232] 27)).heap[w2.heap.size]? = some (.cells #[.int .i64 5, .bool true, .int .i64 0, .bool false, .bool false, .bool false, .bool true, .int .i64 3, .slice bq 1 eq, .slice ba 0 ea, .slice bsv 0 es, .slice bd 0 ed, .bool true, .int .i64 1232] 27 (0, 0)) := World.alloc_heap_new _ _
  have hM3 := heap_old hM2 (.cells #[.int .i64 5, .bool true, .int .i64 0, .bool false, .bool false, .bool false, .bool true, .int .i64 3, .slice bq 1 eq, .slice ba 0 ea, .slice bsv 0 es, .slice bd 0 ed, .bool true, .int .i64 1232] 27)
  have hQ3 := heap_old hQ2 (.cells #[.int .i64 5, .bool true, .int .i64 0, .bool false, .bool false, .bool false, .bool true, .int .i64 3, .slice bq 1 eq, .slice ba 0 ea, .slice bsv 0 es, .slice bd 0 ed, .bool true, .int .i64 1232] 27)
  have qq0 := cell_of_heap hQ3 0
  have qq1 := cell_of_heap hQ3 1
  have qq2 := cell_of_heap hQ3 2
  simp only [List.getElem?_toArray, List.getElem?_cons_succ, List.getElem?_cons_zero] at qq0 qq1 qq2
  have hb3 : Below w.heap.size w (w2.alloc (.cells #[.int .i64 5, .bool true, .int .i64 0, .bool false, .bool false, .bool false, .bool true, .int .i64 3, .slice bq 1 eq, .slice ba 0 ea, .slice bsv 0 es, .slice bd 0 ed, .bool true, .int .i64 1232] 27)) := hbb2.alloc hz2 _
  have htR3 := ht2.below ((Below.refl _ w2).alloc (Nat.le_refl _) (.cells #[.int .i64 5, .bool true, .int .i64 0, .bool false, .bool false, .bool false, .bool true, .int .i64 3, .slice bq 1 eq, .slice ba 0 ea, .slice bsv 0 es, .slice bd 0 ed, .bool true, .int .i64 1232] 27))
  have htM3 := htM2.below ((Below.refl _ w2).alloc (Nat.le_refl _) (.cells #[.int .i64 5, .bool true, .int .i64 0, .bool false, .bool false, .bool false, .bool true, .int .i64 3, .slice bq 1 eq, .slice ba 0 ea, .slice bsv 0 es, .slice bd 0 ed, .bool true, .int .i64 1232] 27))
  have HONE2 := Go.Lib.hid hone2
  have HASK2 := Go.Lib.hid hask2
  have HR3 := Go.Lib.hid hR3
  have HM3 := Go.Lib.hid hM3
  have HQ3 := Go.Lib.hid hQ3
  have HB3 := Go.Lib.hid hb3
  have HTR3 := Go.Lib.hid htR3
  have HTM3 := Go.Lib.hid htM3
  clear hone2 hask2 hR3 hM3 hQ3 hb3 htR3 htM3
  clear ht2 htM2 hM2 hQ2 hbb2 hb2 HREP HQA HM1 HT1
  go_wp2_with (first | (refine wpList_store_row rfl 27 (.tmp 3) (.tmp 11) rfl w2.heap.size #[.int .i64 5, .bool true, .int .i64 0, .bool false, .bool false, .bool false, .bool true, .int .i64 3, .slice bq 1 eq, .slice ba 0 ea, .slice bsv 0 es, .slice bd 0 ed, .bool true, .int .i64 1232] rfl rfl _ _ (World.alloc_heap_new _ _) infoMsg rfl HONE2.out ?_; rw [World.setRow_alloc_new]))
  refine HASK2.out.mono ?_; rintro e w4 ⟨q4, a4, s4, d4, rfl, ht4, hb4⟩
  obtain ⟨xq, yq, xa, ya, xs, ys, xd, yd, rfl, rfl, rfl, rfl⟩ := ht4.places
  have hM4 := (hb4.block _ (Array.getElem?_eq_some_iff.1 HM3.out).1).trans HM3.out
  have hR4 := (hb4.block _ (Array.getElem?_eq_some_iff.1 HR3.out).1).trans HR3.out
  have hb5 := HB3.out.trans (hb4.mono HB3.out.size)
  have ht4 : MsgT w4 mW (.slice xq 1 yq) (.slice xa 0 ya) (.slice xs 0 ys) (.slice xd 0 yd) := ht4
  have htR4 := HTR3.out.below hb4
  have htM4 := HTM3.out.below hb4
  have hz4 := hb5.size
  have hone4 : (#[.int .i64 6, .bool false, .int .i64 0, .bool false, .bool false, .bool false, .bool false, .int .i64 0, .slice xq 1 yq, .slice xa 0 ya, .slice xs 0 ys, .slice xd 0 yd, .bool true, .int .i64 1232] : Array Value).all (·.oneCell') = true := by simp [Value.oneCell']
  -- the world behind region 5, and the slice of two
  have hW5 : (w4.alloc (.cells #[.int .i64 6, .bool false, .int .i64 0, .bool false, .bool false, .bool false, .bool false, .int .i64 0, .slice xq 1 yq, .slice xa 0 ya, .slice xs 0 ys, .slice xd 0 yd, .bool true, .int .i64 1232] 27)).heap[w4.heap.size]? = some (.cells #[.int .i64 6, .bool false, .int .i64 0, .bool false, .bool false, .bool false, .bool false, .int .i64 0, .slice xq 1 yq, .slice xa 0 ya, .slice xs 0 ys, .slice xd 0 yd, .bool true, .int .i64 1232] 27 (0, 0)) := World.alloc_heap_new _ _
  have hW7 := heap_old (heap_old hW5 (.cells #[.string (mk [1, 65, 0]), .int .i64 1, .int .i64 1, .int .i64 0, .string (mk [49, 50, 51, 52])] 49)) (.cells #[.string (mk [1, 65, 0]), .int .i64 1, .int .i64 1, .int .i64 0, .string (mk [49, 50, 51, 52]), .string (mk [1, 65, 0]), .int .i64 1, .int .i64 1, .int .i64 0, .string (mk [49, 50, 51, 52])] 49)
  have hM7 := heap_old (heap_old (heap_old hM4 (.cells #[.int .i64 6, .bool false, .int .i64 0, .bool false, .bool false, .bool false, .bool false, .int .i64 0, .slice xq 1 yq, .slice xa 0 ya, .slice xs 0 ys, .slice xd 0 yd, .bool true, .int .i64 1232] 27)) (.cells #[.string (mk [1, 65, 0]), .int .i64 1, .int .i64 1, .int .i64 0, .string (mk [49, 50, 51, 52])] 49)) (.cells #[.string (mk [1, 65, 0]), .int .i64 1, .int .i64 1, .int .i64 0, .string (mk [49, 50, 51, 52]), .string (mk [1, 65, 0]), .int .i64 1, .int .i64 1, .int .i64 0, .string (mk [49, 50, 51, 52])] 49)
  have hR7 := heap_old (heap_old (heap_old hR4 (.cells #[.int .i64 6, .bool false, .int .i64 0, .bool false, .bool false, .bool false, .bool false, .int .i64 0, .slice xq 1 yq, .slice xa 0 ya, .slice xs 0 ys, .slice xd 0 yd, .bool true, .int .i64 1232] 27)) (.cells #[.string (mk [1, 65, 0]), .int .i64 1, .int .i64 1, .int .i64 0, .string (mk [49, 50, 51, 52])] 49)) (.cells #[.string (mk [1, 65, 0]), .int .i64 1, .int .i64 1, .int .i64 0, .string (mk [49, 50, 51, 52]), .string (mk [1, 65, 0]), .int .i64 1, .int .i64 1, .int .i64 0, .string (mk [49, 50, 51, 52])] 49)
  have hb46 : Below w4.heap.size w4 (((w4.alloc (.cells #[.int .i64 6, .bool false, .int .i64 0, .bool false, .bool false, .bool false, .bool false, .int .i64 0, .slice xq 1 yq, .slice xa 0 ya, .slice xs 0 ys, .slice xd 0 yd, .bool true, .int .i64 1232] 27)).alloc (.cells #[.string (mk [1, 65, 0]), .int .i64 1, .int .i64 1, .int .i64 0, .string (mk [49, 50, 51, 52])] 49)).alloc (.cells #[.string (mk [1, 65, 0]), .int .i64 1, .int .i64 1, .int .i64 0, .string (mk [49, 50, 51, 52]), .string (mk [1, 65, 0]), .int .i64 1, .int .i64 1, .int .i64 0, .string (mk [49, 50, 51, 52])] 49)) := (((Below.refl _ w4).alloc (Nat.le_refl _) _).alloc (by simp) _).alloc (by simp; omega) _
  have htW7 := ht4.below hb46
  have htR7 := htR4.below hb46
  have htM7 := htM4.below hb46
  have hb7 := hb5.trans (hb46.mono hb5.size)
  have hgr := lawGroups_any (some ⟨w4.heap.size + 1 + 1, 0, none⟩) 2 [rA, rA] (-1) (((w4.alloc (.cells #[.int .i64 6, .bool false, .int .i64 0, .bool false, .bool false, .bool false, .bool false, .int .i64 0, .slice xq 1 yq, .slice xa 0 ya, .slice xs 0 ys, .slice xd 0 yd, .bool true, .int .i64 1232] 27)).alloc (.cells #[.string (mk [1, 65, 0]), .int .i64 1, .int .i64 1, .int .i64 0, .string (mk [49, 50, 51, 52])] 49)).alloc (.cells #[.string (mk [1, 65, 0]), .int .i64 1, .int .i64 1, .int .i64 0, .string (mk [49, 50, 51, 52]), .string (mk [1, 65, 0]), .int .i64 1, .int .i64 1, .int .i64 0, .string (mk [49, 50, 51, 52])] 49)) (by
    have := slc_new ((w4.alloc (.cells #[.int .i64 6, .bool false, .int .i64 0, .bool false, .bool false, .bool false, .bool false, .int .i64 0, .slice xq 1 yq, .slice xa 0 ya, .slice xs 0 ys, .slice xd 0 yd, .bool true, .int .i64 1232] 27)).alloc (.cells #[.string (mk [1, 65, 0]), .int .i64 1, .int .i64 1, .int .i64 0, .string (mk [49, 50, 51, 52])] 49)) 5 2 49 (encR [rA, rA]) rfl (by decide)
    rw [World.size_alloc, World.size_alloc] at this
    exact this) (by decide) rA_ok
  rw [grpA] at hgr
  have HONE4 := Go.Lib.hid hone4
  have HGR := Go.Lib.hid hgr
  have HW7 := Go.Lib.hid hW7
  have HM7 := Go.Lib.hid hM7
  have HR7 := Go.Lib.hid hR7
  have HTW7 := Go.Lib.hid htW7
  have HTR7 := Go.Lib.hid htR7
  have HTM7 := Go.Lib.hid htM7
  have HB7 := Go.Lib.hid hb7
  clear hone4 hgr hW7 hM7 hR7 htW7 htR7 htM7 hb7
  clear hM4 hR4 hb5 ht4 htR4 htM4 hW5 hb46 hb4 HASK2 HTR3 HTM3 HM3 HR3 HQ3 HB3 qq0 qq1 qq2
  go_wp2_with (first | (refine wpList_store_row rfl 27 (.tmp 4) (.tmp 13) rfl w4.heap.size #[.int .i64 6, .bool false, .int .i64 0, .bool false, .bool false, .bool false, .bool false, .int .i64 0, .slice xq 1 yq, .slice xa 0 ya, .slice xs 0 ys, .slice xd 0 yd, .bool true, .int .i64 1232] rfl rfl _ _ (World.alloc_heap_new _ _) infoMsg rfl HONE4.out ?_; rw [World.setRow_alloc_new]))
  refine HGR.out.mono ?_; rintro e w8 ⟨v8, rfl, hgv, hx⟩
  have hM8 := (hx.block _ (Array.getElem?_eq_some_iff.1 HM7.out).1).trans HM7.out
  have hR8 := (hx.block _ (Array.getElem?_eq_some_iff.1 HR7.out).1).trans HR7.out
  have hW8 := (hx.block _ (Array.getElem?_eq_some_iff.1 HW7.out).1).trans HW7.out
  have htM8 := HTM7.out.below hx
  have htR8 := HTR7.out.below hx
  have htW8 := HTW7.out.below hx
  have hb8 := HB7.out.trans (hx.mono HB7.out.size)
  obtain ⟨ga, gc, rfl, _, _⟩ := hgv.slice
  obtain ⟨hgm, gb, goff, rfl, hgb, hcell⟩ := GrpV.at hgv (by decide)
  obtain ⟨la, lc, y0, y1, y2, _⟩ := hcell 0 (by decide)
  simp only [Nat.zero_mul, Nat.add_zero, List.getD_cons_zero, List.length_cons, List.length_nil, Nat.zero_add] at y0 y1 y2
  clear hcell hgm hgv
  have hg := cell_of_heap hM8
  have m0 := hg 0
  have m1 := hg 1
  have m2 := hg 2
  have m3 := hg 3
  have m4 := hg 4
  have m5 := hg 5
  have m6 := hg 6
  have m7 := hg 7
  have m8 := hg 8
  have m9 := hg 9
  have m10 := hg 10
  have m11 := hg 11
  have m12 := hg 12
  have m13 := hg 13
  simp only [List.getElem?_toArray, List.getElem?_cons_succ, List.getElem?_cons_zero] at m0 m1 m2 m3 m4 m5 m6 m7 m8 m9 m10 m11 m12 m13
  clear hg
  have hg := cell_of_heap hR8
  have r0 := hg 0
  have r1 := hg 1
  have r2 := hg 2
  have r3 := hg 3
  have r4 := hg 4
  have r5 := hg 5
  have r6 := hg 6
  have r7 := hg 7
  have r8 := hg 8
  have r9 := hg 9
  have r10 := hg 10
  have r11 := hg 11
  have r12 := hg 12
  have r13 := hg 13
  simp only [List.getElem?_toArray, List.getElem?_cons_succ, List.getElem?_cons_zero] at r0 r1 r2 r3 r4 r5 r6 r7 r8 r9 r10 r11 r12 r13
  clear hg
  have hans := Answers_any mA mR (.slice aq 1 cq) (.slice aa 0 ca) (.slice asv 0 cs) (.slice ad 0 cd) (.slice bq 1 eq) (.slice ba 0 ea) (.slice bsv 0 es) (.slice bd 0 ed) w8 htM8.lies htR8.lies qA_ok qR_ok
  rw [ansA] at hans
  have HM8 := Go.Lib.hid hM8
  have HR8 := Go.Lib.hid hR8
  have HW8 := Go.Lib.hid hW8
  have HTM8 := Go.Lib.hid htM8
  have HTR8 := Go.Lib.hid htR8
  have HTW8 := Go.Lib.hid htW8
  have HB8 := Go.Lib.hid hb8
  have HANS := Go.Lib.hid hans
  have Y0 := Go.Lib.hid y0
  have Y1 := Go.Lib.hid y1
  have Y2 := Go.Lib.hid y2
  clear hM8 hR8 hW8 htM8 htR8 htW8 hb8 hans y0 y1 y2
  clear hx HM7 HR7 HW7 HTM7 HTR7 HTW7 HB7 HGR
  have hones : (List.length [rA]) = 1 := rfl
  go_wp2_with fail
  refine HANS.out.mono ?_; rintro e w9 ⟨rfl, hx⟩
  have hM9 := (hx.block _ (Array.getElem?_eq_some_iff.1 HM8.out).1).trans HM8.out
  have hR9 := (hx.block _ (Array.getElem?_eq_some_iff.1 HR8.out).1).trans HR8.out
  have hW9 := (hx.block _ (Array.getElem?_eq_some_iff.1 HW8.out).1).trans HW8.out
  have htM9 := HTM8.out.below hx
  have htR9 := HTR8.out.below hx
  have htW9 := HTW8.out.below hx
  have hb9 := HB8.out.trans (hx.mono HB8.out.size)
  have hans := Answers_any mW mR (.slice xq 1 yq) (.slice xa 0 ya) (.slice xs 0 ys) (.slice xd 0 yd) (.slice bq 1 eq) (.slice ba 0 ea) (.slice bsv 0 es) (.slice bd 0 ed) w9 htW9.lies htR9.lies qW_ok qR_ok
  rw [ansW] at hans
  have z0 := (hx.cell (p := ⟨gb, goff, none⟩) hgb).trans Y0.out
  have z1 := (hx.cell (p := ⟨gb, goff + 1, none⟩) hgb).trans Y1.out
  have z2 := (hx.cell (p := ⟨gb, goff + 2, none⟩) hgb).trans Y2.out
  have hgb9 : gb < w9.heap.size := Nat.lt_of_lt_of_le hgb hx.size
  have hg := cell_of_heap hW9
  have xw0 := hg 0
  have xw1 := hg 1
  have xw2 := hg 2
  have xw3 := hg 3
  have xw4 := hg 4
  have xw5 := hg 5
  have xw6 := hg 6
  have xw7 := hg 7
  have xw8 := hg 8
  have xw9 := hg 9
  have xw10 := hg 10
  have xw11 := hg 11
  have xw12 := hg 12
  have xw13 := hg 13
  simp only [List.getElem?_toArray, List.getElem?_cons_succ, List.getElem?_cons_zero] at xw0 xw1 xw2 xw3 xw4 xw5 xw6 xw7 xw8 xw9 xw10 xw11 xw12 xw13
  clear hg
  have hg := cell_of_heap hR9
  have rw0 := hg 0
  have rw1 := hg 1
  have rw2 := hg 2
  have rw3 := hg 3
  have rw4 := hg 4
  have rw5 := hg 5
  have rw6 := hg 6
  have rw7 := hg 7
  have rw8 := hg 8
  have rw9 := hg 9
  have rw10 := hg 10
  have rw11 := hg 11
  have rw12 := hg 12
  have rw13 := hg 13
  simp only [List.getElem?_toArray, List.getElem?_cons_succ, List.getElem?_cons_zero] at rw0 rw1 rw2 rw3 rw4 rw5 rw6 rw7 rw8 rw9 rw10 rw11 rw12 rw13
  clear hg
  have HM9 := Go.Lib.hid hM9
  have HR9 := Go.Lib.hid hR9
  have HW9 := Go.Lib.hid hW9
  have HTM9 := Go.Lib.hid htM9
  have HTR9 := Go.Lib.hid htR9
  have HTW9 := Go.Lib.hid htW9
  have HB9 := Go.Lib.hid hb9
  have HANS2 := Go.Lib.hid hans
  have Z0 := Go.Lib.hid z0
  have Z1 := Go.Lib.hid z1
  have Z2 := Go.Lib.hid z2
  clear hM9 hR9 hW9 htM9 htR9 htW9 hb9 hans z0 z1 z2
  clear hx HM8 HR8 HW8 HTM8 HTR8 HTW8 HB8 HANS Y0 Y1 Y2 m0 m1 m2 m3 m4 m5 m6 m7 m8 m9 m10 m11 m12 m13 r0 r1 r2 r3 r4 r5 r6 r7 r8 r9 r10 r11 r12 r13
  go_wp2_with fail
  refine HANS2.out.mono ?_; rintro e w10 ⟨rfl, hx⟩
  have hM10 := (hx.block _ (Array.getElem?_eq_some_iff.1 HM9.out).1).trans HM9.out
  have hR10 := (hx.block _ (Array.getElem?_eq_some_iff.1 HR9.out).1).trans HR9.out
  have htM10 := HTM9.out.below hx
  have hb10 := HB9.out.trans (hx.mono HB9.out.size)
  have hans := Answers_any mA mA (.slice aq 1 cq) (.slice aa 0 ca) (.slice asv 0 cs) (.slice ad 0 cd) (.slice aq 1 cq) (.slice aa 0 ca) (.slice asv 0 cs) (.slice ad 0 cd) w10 htM10.lies htM10.lies qA_ok qA_ok
  rw [ansM] at hans
  have x0 := (hx.cell (p := ⟨gb, goff, none⟩) hgb9).trans Z0.out
  have x1 := (hx.cell (p := ⟨gb, goff + 1, none⟩) hgb9).trans Z1.out
  have x2 := (hx.cell (p := ⟨gb, goff + 2, none⟩) hgb9).trans Z2.out
  have hgb10 : gb < w10.heap.size := Nat.lt_of_lt_of_le hgb9 hx.size
  have hg := cell_of_heap hM10
  have mm0 := hg 0
  have mm1 := hg 1
  have mm2 := hg 2
  have mm3 := hg 3
  have mm4 := hg 4
  have mm5 := hg 5
  have mm6 := hg 6
  have mm7 := hg 7
  have mm8 := hg 8
  have mm9 := hg 9
  have mm10 := hg 10
  have mm11 := hg 11
  have mm12 := hg 12
  have mm13 := hg 13
  simp only [List.getElem?_toArray, List.getElem?_cons_succ, List.getElem?_cons_zero] at mm0 mm1 mm2 mm3 mm4 mm5 mm6 mm7 mm8 mm9 mm10 mm11 mm12 mm13
  clear hg
  have HM10 := Go.Lib.hid hM10
  have HR10 := Go.Lib.hid hR10
  have HTM10 := Go.Lib.hid htM10
  have HB10 := Go.Lib.hid hb10
  have HANS3 := Go.Lib.hid hans
  have X0 := Go.Lib.hid x0
  have X1 := Go.Lib.hid x1
  have X2 := Go.Lib.hid x2
  clear hM10 hR10 htM10 hb10 hans x0 x1 x2
  clear hx HM9 HR9 HW9 HTM9 HTR9 HTW9 HB9 HANS2 Z0 Z1 Z2 xw0 xw1 xw2 xw3 xw4 xw5 xw6 xw7 xw8 xw9 xw10 xw11 xw12 xw13 rw0 rw1 rw2 rw3 rw4 rw5 rw6 rw7 rw8 rw9 rw10 rw11 rw12 rw13
  go_wp2_with fail
  refine HANS3.out.mono ?_; rintro e w11 ⟨rfl, hx⟩
  have hM11 := (hx.block _ (Array.getElem?_eq_some_iff.1 HM10.out).1).trans HM10.out
  have hR11 := (hx.block _ (Array.getElem?_eq_some_iff.1 HR10.out).1).trans HR10.out
  have htM11 := HTM10.out.below hx
  have hb11 := HB10.out.trans (hx.mono HB10.out.size)
  have hg := cell_of_heap hM11
  have mn0 := hg 0
  have mn1 := hg 1
  have mn2 := hg 2
  have mn3 := hg 3
  have mn4 := hg 4
  have mn5 := hg 5
  have mn6 := hg 6
  have mn7 := hg 7
  have mn8 := hg 8
  have mn9 := hg 9
  have mn10 := hg 10
  have mn11 := hg 11
  have mn12 := hg 12
  have mn13 := hg 13
  simp only [List.getElem?_toArray, List.getElem?_cons_succ, List.getElem?_cons_zero] at mn0 mn1 mn2 mn3 mn4 mn5 mn6 mn7 mn8 mn9 mn10 mn11 mn12 mn13
  clear hg
  have hg := cell_of_heap hR11
  have r6 := hg 6
  have r7 := hg 7
  simp only [List.getElem?_toArray, List.getElem?_cons_succ, List.getElem?_cons_zero] at r6 r7
  clear hg
  have href := Refuse_any mA (.slice aq 1 cq) (.slice aa 0 ca) (.slice asv 0 cs) (.slice ad 0 cd) 2 w11 htM11.lies (by decide)
  have u0 := (hx.cell (p := ⟨gb, goff, none⟩) hgb10).trans X0.out
  have u1 := (hx.cell (p := ⟨gb, goff + 1, none⟩) hgb10).trans X1.out
  have u2 := (hx.cell (p := ⟨gb, goff + 2, none⟩) hgb10).trans X2.out
  have hgb11 : gb < w11.heap.size := Nat.lt_of_lt_of_le hgb10 hx.size
  have HM11 := Go.Lib.hid hM11
  have HR11 := Go.Lib.hid hR11
  have HTM11 := Go.Lib.hid htM11
  have HB11 := Go.Lib.hid hb11
  have HREF := Go.Lib.hid href
  have U0 := Go.Lib.hid u0
  have U1 := Go.Lib.hid u1
  have U2 := Go.Lib.hid u2
  clear hM11 hR11 htM11 hb11 href u0 u1 u2
  clear hx HM10 HR10 HTM10 HB10 HANS3 X0 X1 X2 mm0 mm1 mm2 mm3 mm4 mm5 mm6 mm7 mm8 mm9 mm10 mm11 mm12 mm13
  go_wp2_with fail
  refine HREF.out.mono ?_; rintro e w12 ⟨q9, a9, s9, d9, rfl, ht9, hx⟩
  have t0 : w12.cell? ⟨gb, goff, none⟩ = some (.string ⟨#[1, 97, 0]⟩) := (hx.cell (p := ⟨gb, goff, none⟩) hgb11).trans U0.out
  have t1 := (hx.cell (p := ⟨gb, goff + 1, none⟩) hgb11).trans U1.out
  have t2 := (hx.cell (p := ⟨gb, goff + 2, none⟩) hgb11).trans U2.out
  have hb12 := HB11.out.trans (hx.mono HB11.out.size)
  obtain ⟨kq, lq, ka, laa, ks, ls, kd, ld, rfl, rfl, rfl, rfl⟩ := ht9.places
  simp only [MV, MC, replyN, mA, askN, qA, List.length_cons, List.length_nil, Nat.zero_add, if_true]
  have HB12 := Go.Lib.hid hb12
  clear hb12
  clear hx ht9 HM11 HR11 HTM11 HB11 HREF U0 U1 U2 r6 r7 mn0 mn1 mn2 mn3 mn4 mn5 mn6 mn7 mn8 mn9 mn10 mn11 mn12 mn13
  have hfd := run_field7 (.int .i64 5) (.bool true) (.int .i64 0) (.bool false) (.bool false) (.bool false) (.bool true) (.int .i64 2) (.slice kq 1 lq) (.slice ka 0 laa) (.slice ks 0 ls) (.slice kd 0 ld) (.bool true) (.int .i64 1232) w12 rfl
  go_wp2_with fail
  go_ret
  exact ⟨rfl, HB12.out⟩
end Go.Proofs.Ytcamopppeanipaa

