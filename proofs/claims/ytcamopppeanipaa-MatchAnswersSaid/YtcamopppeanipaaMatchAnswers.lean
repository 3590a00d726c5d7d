/- MatchAnswers: a reply answers what was asked, in whatever letters; with another number, name, type or class, or two questions, it does not. For every input; no conditions. -/
import Derived.Test.YtcamopppeanipaaMgF
import Derived.Test.YtcamopppeanipaaOpnM
import Derived.Test.YtcamopppeanipaaBits
namespace Go.Proofs.Ytcamopppeanipaa.matchAnswers
open Go.ChangeShapes Go.WideShapes Go.ChangeAt Go.RowKit
open Go.ChangeMaps (open_string shut_string)
set_option linter.unusedVariables false

theorem slC_none {w w' : World} {sz : Nat} {v : Value} (h : SlC w sz v 0 []) : SlC w' sz v 0 [] := by
  obtain ⟨h1, a, cap, hv, h2, h3, h4, _⟩ := h
  exact ⟨h1, a, cap, hv, h2, h3, h4, .inl rfl⟩
theorem slc_row3 (Y : World) (g : Nat) (f : List UInt8) (t c : Int) (fr : Nat × Nat) {T : Nat} (h : Y.heap[g]? = some (.cells #[.string (mk f), .int .i64 t, .int .i64 c] T fr)) : Qns Y (.slice (some ⟨g, 0, none⟩) 1 1) [⟨f, t, c⟩] := by
  refine ⟨rfl, _, _, rfl, Nat.le_refl _, by decide, fun h => (by cases h), .inr ⟨g, 0, rfl, (Array.getElem?_eq_some_iff.1 h).1, fun j hj => ?_⟩⟩
  rw [Nat.zero_add, cell_of_row Y g j _ _ _ h]
  simp [encQn, en3]
theorem mixT_appG {P : Program} {t e sz bytes : Nat} (ei : EI P t e sz bytes) {w : World} {ops : Array Oper} {rest : List Oper} {o : Oper} {a : Act} {Es : List Nat} {C : World → Prop} {Q : Act → World → Prop} {k tl : Nat} (s x : Operand)
    (hk : (Es.contains k && !(k == tl)) = true) (hgd : Region.wanted o (yielded ops a.tmps) = true)
    (ho : o.op = .call { callee := .builtin .append, args := #[s, x], argTypes := #[t, t] }) {b : Addr} {n cap c : Nat} {ad : Addr} {olds news : List Value} (hs : a.eval s = .slice (some b) n cap) (hx : a.eval x = .slice (some ad) 1 c)
    (hlo : olds.length = n * sz) (holds : ∀ j u, olds[j]? = some u → w.cell? (b.add j) = some u) (hl : news.length = sz) (hc : ∀ j u, news[j]? = some u → w.cell? (ad.add j) = some u) (hcap : cap < n + 1) (h63 : n + 1 ≤ maxLen) (hbytes : (n + 1) * bytes ≤ 140737488355328)
    (h : ∀ v' w', w'.ownsRow w.heap.size e sz v' (n + 1) (olds ++ news) → w.grownBy w' none → C w' ∧ Go.Mix.MixT P ops (fun k => Es.contains k) C Q tl (k + 1) rest (a.put o.dst v') w') :
    Go.Mix.MixT P ops (fun k => Es.contains k) C Q tl k (o :: rest) a w :=
  Go.Mix.mixT_eff hk fun K hK => by
    rw [if_pos hgd]
    obtain ⟨i, z, ht, hi, hz, hsz, hby, hzs, hpos⟩ := ei
    obtain ⟨v', w', hrun, ho1, hg1⟩ := run_append_arg_grows (P := P) (w := w) t o.type e i z sz bytes ht hi hz hsz hby hzs hpos b n cap olds hlo holds ad 1 c news (by rw [Nat.one_mul]; exact hl) hc hcap h63 hbytes
    unfold Oper.wp execOp
    simp only [ho, resolve, invoke, builtin, Sem.run_bind, Sem.run_pure, Result.andThen_ok, List.map_toArray, List.map_cons, List.map_nil, hs, hx, hrun]
    exact hK _ _ (h v' w' ho1 hg1).1 (h v' w' ho1 hg1).2

/-! ### plain: what answers what -/
section
variable {i2 t c : Int} {n f : List UInt8}
theorem ans0 (h : Nm.sameN n f = true) : answersN (askN i2 ⟨n, t, c⟩) ⟨i2, true, 0, false, false, false, true, 0, [⟨f, t, c⟩], [], [], [], true, 1232⟩ = true := by simp [answersN, askN, h]
theorem ans1 (h0 : 0 ≤ i2) (h1 : i2 < 65536) : answersN (askN i2 ⟨n, t, c⟩) ⟨bits .and .i64 (i2 + 1) 65535, true, 0, false, false, false, true, 0, [⟨f, t, c⟩], [], [], [], true, 1232⟩ = false := by
  have h : ¬ bits .and .i64 (i2 + 1) 65535 = i2 := by rw [and16]; omega
  have hb := beq_eq_false_iff_ne.2 h
  simp [answersN, askN, hb]
theorem ans2 : answersN (askN i2 ⟨n, t, c⟩) ⟨i2, true, 0, false, false, false, true, 0, [⟨f, t + 1, c⟩], [], [], [], true, 1232⟩ = false := by
  have hb : (t == t + 1) = false := by rw [beq_eq_false_iff_ne]; omega
  simp [answersN, askN, hb]
theorem ans3 : answersN (askN i2 ⟨n, t, c⟩) ⟨i2, true, 0, false, false, false, true, 0, [⟨f, t, c + 1⟩], [], [], [], true, 1232⟩ = false := by
  have hb : (c == c + 1) = false := by rw [beq_eq_false_iff_ne]; omega
  simp [answersN, askN, hb]
theorem ans4 : answersN (askN i2 ⟨n, t, c⟩) ⟨i2, true, 0, false, false, false, true, 0, [⟨f, t, c⟩, ⟨f, t, c⟩], [], [], [], true, 1232⟩ = false := by simp [answersN, askN]
theorem ans5 : answersN (askN i2 ⟨n, t, c⟩) ⟨i2, true, 0, false, false, false, true, 0, [], [], [], [], true, 1232⟩ = false := by simp [answersN, askN]
theorem ans6 : answersN (askN i2 ⟨n, t, c⟩) ⟨i2, false, 0, false, false, false, true, 0, [⟨f, t, c⟩], [], [], [], true, 1232⟩ = false := by simp [answersN, askN]
theorem ans7 (h : Nm.sameN n ([1, 113] ++ f) = false) : answersN (askN i2 ⟨n, t, c⟩) ⟨i2, true, 0, false, false, false, true, 0, [⟨[1, 113] ++ f, t, c⟩], [], [], [], true, 1232⟩ = false := by
  have h' : Nm.sameN n (1 :: 113 :: f) = false := h
  simp [answersN, askN, h']
end

set_option maxRecDepth 100000 in
set_option maxHeartbeats 16000000 in
theorem t1 (id t c k : Int) (n : List UInt8) (w : World) (hn : n.length ≤ maxLen) (h0 : 300 < n.length) (HAW : Hid (∀ W, Calls Try.prog 10 #[] W fun e w' => e = .returned (.bool true) ∧ Below W.heap.size W w')) :
    Calls Try.prog 4 #[.int .i64 id, .string (mk n), .int .i64 t, .int .i64 c, .int .i64 k] w fun e w' => e = .returned (.bool true) ∧ Below w.heap.size w w' := by
  have HB := Go.Lib.hid (Below.refl w.heap.size w)
  have hnm : (mk n).size = n.length := size_mk n
  unfold maxLen at hn
  have e1 : (300 : Int) < (n.length : Int) := by omega
  clear h0
  go_enter Try.func4, Try.ntmps4
  go_wp2_with fail
  refine (HAW.out _).mono ?_; rintro e wz ⟨rfl, hx⟩
  have HXX := Go.Lib.hid hx
  clear hx
  go_wp2_with fail
  go_ret
  exact ⟨rfl, HB.out.trans (HXX.out.mono HB.out.size)⟩

set_option maxRecDepth 100000 in
set_option maxHeartbeats 16000000 in
theorem t2 (id t c k : Int) (n : List UInt8) (w : World) (hn : n.length ≤ maxLen) (h0 : n.length ≤ 300) (HAW : Hid (∀ W, Calls Try.prog 10 #[] W fun e w' => e = .returned (.bool true) ∧ Below W.heap.size W w')) (HV : Hid (∀ W, Calls Try.prog 23 #[.string (mk n)] W fun e w' => e = .returned (.bool false) ∧ Below W.heap.size W w')) :
    Calls Try.prog 4 #[.int .i64 id, .string (mk n), .int .i64 t, .int .i64 c, .int .i64 k] w fun e w' => e = .returned (.bool true) ∧ Below w.heap.size w w' := by
  have HB := Go.Lib.hid (Below.refl w.heap.size w)
  have hnm : (mk n).size = n.length := size_mk n
  unfold maxLen at hn
  have e1 : ¬ (300 : Int) < (n.length : Int) := by omega
  go_enter Try.func4, Try.ntmps4
  go_wp2_with fail
  refine (HV.out _).mono ?_; rintro e w1 ⟨rfl, hx⟩
  have hb1 := HB.out.trans (hx.mono HB.out.size)
  clear hx HB
  have HB1 := Go.Lib.hid hb1
  clear hb1
  go_wp2_with fail
  refine (HAW.out _).mono ?_; rintro e wz ⟨rfl, hx⟩
  have HXX := Go.Lib.hid hx
  clear hx
  go_wp2_with fail
  go_ret
  exact ⟨rfl, HB1.out.trans (HXX.out.mono HB1.out.size)⟩

set_option maxRecDepth 100000 in
set_option maxHeartbeats 16000000 in
theorem t3 (id t c k : Int) (n : List UInt8) (w : World) (hn : n.length ≤ maxLen) (h0 : n.length ≤ 300) (hbad : t < 0 ∨ (0 ≤ t ∧ 60000 < t) ∨ (0 ≤ t ∧ t ≤ 60000 ∧ c < 0) ∨ (0 ≤ t ∧ t ≤ 60000 ∧ 0 ≤ c ∧ 60000 < c)) (HAW : Hid (∀ W, Calls Try.prog 10 #[] W fun e w' => e = .returned (.bool true) ∧ Below W.heap.size W w')) (HV : Hid (∀ W, Calls Try.prog 23 #[.string (mk n)] W fun e w' => e = .returned (.bool true) ∧ Below W.heap.size W w')) :
    Calls Try.prog 4 #[.int .i64 id, .string (mk n), .int .i64 t, .int .i64 c, .int .i64 k] w fun e w' => e = .returned (.bool true) ∧ Below w.heap.size w w' := by
  have HB := Go.Lib.hid (Below.refl w.heap.size w)
  have hnm : (mk n).size = n.length := size_mk n
  unfold maxLen at hn
  have e1 : ¬ (300 : Int) < (n.length : Int) := by omega
  rcases hbad with h1 | ⟨h1, h2⟩ | ⟨h1, h2, h3⟩ | ⟨h1, h2, h3, h4⟩
  all_goals
    go_enter Try.func4, Try.ntmps4
    go_wp2_with fail
    refine (HV.out _).mono ?_; rintro e w1 ⟨rfl, hx⟩
    have hb1 := HB.out.trans (hx.mono HB.out.size)
    clear hx HB
    have HB1 := Go.Lib.hid hb1
    clear hb1
    go_wp2_with fail
    refine (HAW.out _).mono ?_; rintro e wz ⟨rfl, hx⟩
    have HXX := Go.Lib.hid hx
    clear hx
    go_wp2_with fail
    go_ret
    exact ⟨rfl, HB1.out.trans (HXX.out.mono HB1.out.size)⟩

set_option maxRecDepth 100000 in
set_option maxHeartbeats 16000000 in
theorem k0 (id t c k i2 : Int) (n f : List UInt8) (w : World) (hn : n.length ≤ maxLen) (h0 : n.length ≤ 300) (h1 : 0 ≤ t) (h2 : t ≤ 60000) (h3 : 0 ≤ c) (h4 : c ≤ 60000) (hi0 : 0 ≤ i2) (hi1 : i2 < 65536) (HNL : Hid (n.length ≤ maxLen)) (HFL : Hid (f.length ≤ maxLen)) (HFL3 : Hid (f.length ≤ 300)) (HSAME : Hid (Nm.sameN n f = true)) (HS7 : Hid (Nm.sameN n ([1, 113] ++ f) = false)) (HAW : Hid (∀ W, Calls Try.prog 10 #[] W fun e w' => e = .returned (.bool true) ∧ Below W.heap.size W w')) (HV : Hid (∀ W, Calls Try.prog 23 #[.string (mk n)] W fun e w' => e = .returned (.bool true) ∧ Below W.heap.size W w')) (HASK : Hid (∀ W, Calls Try.prog 12 #[.int .i64 id, .agg #[.string (mk n), .int .i64 t, .int .i64 c]] W (RetM W (askN i2 ⟨n, t, c⟩)))) (HFO : Hid (∀ W, Calls Try.prog 24 #[.string (mk n)] W fun e w' => e = .returned (.string (mk f)) ∧ Below W.heap.size W w')) (HRN : Hid (∀ W, Calls Try.prog 25 #[.int .i64 k, .int .i64 8] W fun e w' => e = .returned (.int .i64 0) ∧ W = w')) :
    Calls Try.prog 4 #[.int .i64 id, .string (mk n), .int .i64 t, .int .i64 c, .int .i64 k] w fun e w' => e = .returned (.bool true) ∧ Below w.heap.size w w' := by
  obtain ⟨fs, hu⟩ := undMsg
  have HU := Go.Lib.hid hu
  clear hu
  have HB := Go.Lib.hid (Below.refl w.heap.size w)
  have hnm : (mk n).size = n.length := size_mk n
  unfold maxLen at hn
  have e1 : ¬ (300 : Int) < (n.length : Int) := by omega
  go_enter Try.func4, Try.ntmps4
  go_wp2_with fail
  refine (HV.out _).mono ?_; rintro e w1 ⟨rfl, hx⟩
  have hb1 := HB.out.trans (hx.mono HB.out.size)
  clear hx HB
  have HB1 := Go.Lib.hid hb1
  clear hb1
  go_wp2_with fail
  refine (HASK.out _).mono ?_; rintro e w2 ⟨f1, f2, f3, f4, rfl, htm, hx⟩
  obtain ⟨aq, cq, aa, ca, asv, cs, ad, cd, rfl, rfl, rfl, rfl⟩ := htm.places
  have htm : MsgT w2 (askN i2 ⟨n, t, c⟩) (.slice aq 1 cq) (.slice aa 0 ca) (.slice asv 0 cs) (.slice ad 0 cd) := htm
  have hb2 := HB1.out.trans (hx.mono HB1.out.size)
  have hz2 := hb2.size
  have hrep := Reply_any (askN i2 ⟨n, t, c⟩) _ _ _ _ 0 (.slice none 0 0) (.slice none 0 0) [] [] (w2.alloc (.cells #[.int .i64 i2, .bool false, .int .i64 0, .bool false, .bool false, .bool false, .bool false, .int .i64 0, .slice aq 1 cq, .slice aa 0 ca, .slice asv 0 cs, .slice ad 0 cd, .bool true, .int .i64 1232] 27)) (htm.lies.below ((Below.refl _ _).alloc (Nat.le_refl _) _) (Nat.le_refl _)) (SlC.nil _ _) (SlC.nil _ _) (by simp [askN]) (by decide) (by decide)
  have hone : (#[.int .i64 i2, .bool false, .int .i64 0, .bool false, .bool false, .bool false, .bool false, .int .i64 0, .slice aq 1 cq, .slice aa 0 ca, .slice asv 0 cs, .slice ad 0 cd, .bool true, .int .i64 1232] : Array Value).all (·.oneCell') = true := by simp [Value.oneCell']
  have hM2 : (w2.alloc (.cells #[.int .i64 i2, .bool false, .int .i64 0, .bool false, .bool false, .bool false, .bool false, .int .i64 0, .slice aq 1 cq, .slice aa 0 ca, .slice asv 0 cs, .slice ad 0 cd, .bool true, .int .i64 1232] 27)).heap[w2.heap.size]? = some (.cells #[.int .i64 i2, .bool false, .int .i64 0, .bool false, .bool false, .bool false, .bool false, .int .i64 0, .slice aq 1 cq, .slice aa 0 ca, .slice asv 0 cs, .slice ad 0 cd, .bool true, .int .i64 1232] 27 (0, 0)) := World.alloc_heap_new _ _
  have hbm : Below w2.heap.size w2 (w2.alloc (.cells #[.int .i64 i2, .bool false, .int .i64 0, .bool false, .bool false, .bool false, .bool false, .int .i64 0, .slice aq 1 cq, .slice aa 0 ca, .slice asv 0 cs, .slice ad 0 cd, .bool true, .int .i64 1232] 27)) := (Below.refl _ _).alloc (Nat.le_refl _) _
  have hml := htm.lies
  clear hx htm
  have HB2 := Go.Lib.hid hb2
  have HREP := Go.Lib.hid hrep
  have HONE := Go.Lib.hid hone
  have HM2 := Go.Lib.hid hM2
  have HBM := Go.Lib.hid hbm
  have HML := Go.Lib.hid hml
  clear hb2 hrep hone hM2 hbm hml
  go_wp2_with (first | (refine wpList_store_row rfl 27 (.tmp 11) (.tmp 44) rfl w2.heap.size #[.int .i64 i2, .bool false, .int .i64 0, .bool false, .bool false, .bool false, .bool false, .int .i64 0, .slice aq 1 cq, .slice aa 0 ca, .slice asv 0 cs, .slice ad 0 cd, .bool true, .int .i64 1232] rfl rfl _ _ (World.alloc_heap_new _ _) infoMsg rfl HONE.out ?_; rw [World.setRow_alloc_new]) | (refine wpList_load_row rfl 27 (.tmp 11) rfl w2.heap.size rfl 27 #[.int .i64 i2, .bool false, .int .i64 0, .bool false, .bool false, .bool false, .bool false, .int .i64 0, .slice aq 1 cq, .slice aa 0 ca, .slice asv 0 cs, .slice ad 0 cd, .bool true, .int .i64 1232] (0, 0) _ HM2.out HU.out rfl infoMsg ?_))
  refine HREP.out.mono ?_; rintro e w3 ⟨f1, f2, f3, f4, rfl, htr, hx⟩
  obtain ⟨bq, eq, ba, ea, bsv, es, bd, ed, rfl, rfl, rfl, rfl⟩ := htr.places
  have htr : MsgT w3 (replyN (askN i2 ⟨n, t, c⟩) 0 [] []) (.slice bq 1 eq) (.slice ba 0 ea) (.slice bsv 0 es) (.slice bd 0 ed) := htr
  have hla : SlC w3 5 (.slice ba 0 ea) 0 [] := htr.an.1
  have hls : SlC w3 5 (.slice bsv 0 es) 0 [] := htr.sv.1
  have hld : SlC w3 5 (.slice bd 0 ed) 0 [] := htr.ad.1
  have hbm3 := HBM.out.trans (hx.mono HBM.out.size)
  have hM3 := heap_old ((hx.block _ (Array.getElem?_eq_some_iff.1 HM2.out).1).trans HM2.out) (.cells #[.int .i64 i2, .bool true, .int .i64 0, .bool false, .bool false, .bool false, .bool true, .int .i64 0, .slice bq 1 eq, .slice ba 0 ea, .slice bsv 0 es, .slice bd 0 ed, .bool true, .int .i64 1232] 27)
  have hltm : w2.heap.size < w3.heap.size := (Array.getElem?_eq_some_iff.1 ((hx.block _ (Array.getElem?_eq_some_iff.1 HM2.out).1).trans HM2.out)).1
  have hR3 : (w3.alloc (.cells #[.int .i64 i2, .bool true, .int .i64 0, .bool false, .bool false, .bool false, .bool true, .int .i64 0, .slice bq 1 eq, .slice ba 0 ea, .slice bsv 0 es, .slice bd 0 ed, .bool true, .int .i64 1232] 27)).heap[w3.heap.size]? = some (.cells #[.int .i64 i2, .bool true, .int .i64 0, .bool false, .bool false, .bool false, .bool true, .int .i64 0, .slice bq 1 eq, .slice ba 0 ea, .slice bsv 0 es, .slice bd 0 ed, .bool true, .int .i64 1232] 27 (0, 0)) := World.alloc_heap_new _ _
  have hbm4 : Below w2.heap.size w2 (w3.alloc (.cells #[.int .i64 i2, .bool true, .int .i64 0, .bool false, .bool false, .bool false, .bool true, .int .i64 0, .slice bq 1 eq, .slice ba 0 ea, .slice bsv 0 es, .slice bd 0 ed, .bool true, .int .i64 1232] 27)) := hbm3.alloc hbm3.size _
  have hone2 : (#[.int .i64 i2, .bool true, .int .i64 0, .bool false, .bool false, .bool false, .bool true, .int .i64 0, .slice bq 1 eq, .slice ba 0 ea, .slice bsv 0 es, .slice bd 0 ed, .bool true, .int .i64 1232] : Array Value).all (·.oneCell') = true := by simp [Value.oneCell']
  clear hx htr hbm3 HBM HM2 HREP
  have hg := cell_of_heap hR3
  have r0 := hg 0
  have r1 := hg 1
  have r2 := hg 2
  have r3 := hg 3
  have r4 := hg 4
  have r5 := hg 5
  have r6 := hg 6
  have r7 := hg 7
  have r8 := hg 8
  simp only [List.getElem?_toArray, List.getElem?_cons_succ, List.getElem?_cons_zero] at r0 r1 r2 r3 r4 r5 r6 r7 r8
  clear hg
  have HM3 := Go.Lib.hid hM3
  have HR3 := Go.Lib.hid hR3
  have HBM4 := Go.Lib.hid hbm4
  have HONE2 := Go.Lib.hid hone2
  have HLA := Go.Lib.hid hla
  have HLS := Go.Lib.hid hls
  have HLD := Go.Lib.hid hld
  clear hM3 hR3 hbm4 hone2 hla hls hld
  go_wp2_with (first | (refine wpList_store_row rfl 27 (.tmp 12) (.tmp 46) rfl w3.heap.size #[.int .i64 i2, .bool true, .int .i64 0, .bool false, .bool false, .bool false, .bool true, .int .i64 0, .slice bq 1 eq, .slice ba 0 ea, .slice bsv 0 es, .slice bd 0 ed, .bool true, .int .i64 1232] rfl rfl _ _ (World.alloc_heap_new _ _) infoMsg rfl HONE2.out ?_; rw [World.setRow_alloc_new]))
  refine (HFO.out _).mono ?_; rintro e w4 ⟨rfl, hx⟩
  have hMw := (hx.block _ (Array.getElem?_eq_some_iff.1 HM3.out).1).trans HM3.out
  have hRw := (hx.block _ (Array.getElem?_eq_some_iff.1 HR3.out).1).trans HR3.out
  have hltr : w3.heap.size < w4.heap.size := (Array.getElem?_eq_some_iff.1 hRw).1
  have hbw4 := HBM4.out.trans (hx.mono HBM4.out.size)
  have hzw4 := hbw4.size
  clear hx HM3 HR3 HBM4 r0 r1 r2 r3 r4 r5 r6 r7 r8
  have hR4 := heap_old hRw (.cells #[.string (mk f), .int .i64 t, .int .i64 c] 23)
  have hc8 := cell_of_heap hR4 8
  have hf8 := frozen_of_row _ w3.heap.size 8 _ _ hR4
  simp only [List.getElem?_toArray, List.getElem?_cons_succ, List.getElem?_cons_zero] at hc8
  have hR5 : ((w4.setCell ⟨w3.heap.size, 8, none⟩ (.slice (some ⟨w4.heap.size, 0, none⟩) 1 1)).alloc (.cells #[.string (mk f), .int .i64 t, .int .i64 c] 23)).heap[w3.heap.size]? = some (.cells #[.int .i64 i2, .bool true, .int .i64 0, .bool false, .bool false, .bool false, .bool true, .int .i64 0, .slice (some ⟨w4.heap.size, 0, none⟩) 1 1, .slice ba 0 ea, .slice bsv 0 es, .slice bd 0 ed, .bool true, .int .i64 1232] 27 (0, 0)) := heap_old (heap_setCell_same w4 _ 8 _ _ _ hRw) _
  have hM5 : ((w4.setCell ⟨w3.heap.size, 8, none⟩ (.slice (some ⟨w4.heap.size, 0, none⟩) 1 1)).alloc (.cells #[.string (mk f), .int .i64 t, .int .i64 c] 23)).heap[w2.heap.size]? = some (.cells #[.int .i64 i2, .bool false, .int .i64 0, .bool false, .bool false, .bool false, .bool false, .int .i64 0, .slice aq 1 cq, .slice aa 0 ca, .slice asv 0 cs, .slice ad 0 cd, .bool true, .int .i64 1232] 27 (0, 0)) := heap_old ((heap_setCell_other w4 ⟨w3.heap.size, 8, none⟩ w2.heap.size (.slice (some ⟨w4.heap.size, 0, none⟩) 1 1) (show w2.heap.size ≠ w3.heap.size by omega)).trans hMw) _
  have hQ5 : ((w4.setCell ⟨w3.heap.size, 8, none⟩ (.slice (some ⟨w4.heap.size, 0, none⟩) 1 1)).alloc (.cells #[.string (mk f), .int .i64 t, .int .i64 c] 23)).heap[w4.heap.size]? = some (.cells #[.string (mk f), .int .i64 t, .int .i64 c] 23 (0, 0)) := by
    have h := World.alloc_heap_new (w4.setCell ⟨w3.heap.size, 8, none⟩ (.slice (some ⟨w4.heap.size, 0, none⟩) 1 1)) (.cells #[.string (mk f), .int .i64 t, .int .i64 c] 23)
    have hs : (w4.setCell ⟨w3.heap.size, 8, none⟩ (.slice (some ⟨w4.heap.size, 0, none⟩) 1 1)).heap.size = w4.heap.size := by simp
    rw [hs] at h
    exact h
  have hb6 : Below w2.heap.size w2 ((w4.setCell ⟨w3.heap.size, 8, none⟩ (.slice (some ⟨w4.heap.size, 0, none⟩) 1 1)).alloc (.cells #[.string (mk f), .int .i64 t, .int .i64 c] 23)) := (hbw4.setCell (p := ⟨w3.heap.size, 8, none⟩) (show w2.heap.size ≤ w3.heap.size by omega) (.slice (some ⟨w4.heap.size, 0, none⟩) 1 1)).alloc (by simp; omega) _
  have HM5 := Go.Lib.hid hM5
  have HR5 := Go.Lib.hid hR5
  have HQ5 := Go.Lib.hid hQ5
  have HB6 := Go.Lib.hid hb6
  clear hM5 hR5 hQ5 hb6
  clear hMw hRw hR4 hbw4
  go_wp2_with fail
  refine (HRN.out _).mono ?_; rintro e _ ⟨rfl, rfl⟩
  generalize (w4.setCell ⟨w3.heap.size, 8, none⟩ (.slice (some ⟨w4.heap.size, 0, none⟩) 1 1)).alloc (.cells #[.string (mk f), .int .i64 t, .int .i64 c] 23) = X at *
  clear hc8 hf8
  have HM6 := HM5
  have HR6 := HR5
  have HQ6 := HQ5
  have HB7 := HB6
  have HQS := Go.Lib.hid (slc_row3 X w4.heap.size f t c (0, 0) HQ6.out)
  have HQOK := Go.Lib.hid (show ∀ x ∈ ([⟨f, t, c⟩] : List Qn), x.name.length ≤ maxLen from fun x hx => by simp at hx; first | (subst hx; exact HFL.out) | (rcases hx with rfl | rfl <;> exact HFL.out))
  -- the answer
  have hans := Answers_any (askN i2 ⟨n, t, c⟩) ⟨i2, true, 0, false, false, false, true, 0, [⟨f, t, c⟩], [], [], [], true, 1232⟩ _ _ _ _ _ _ _ _ X (HML.out.below HB7.out (Nat.le_refl _)) ⟨HQS.out, slC_none HLA.out, slC_none HLS.out, slC_none HLD.out⟩ (by intro x hx; simp [askN] at hx; subst hx; exact HNL.out) HQOK.out
  rw [show answersN (askN i2 ⟨n, t, c⟩) ⟨i2, true, 0, false, false, false, true, 0, [⟨f, t, c⟩], [], [], [], true, 1232⟩ = true from ans0 HSAME.out] at hans
  have hM9 := HM6.out
  have hR9 := HR6.out
  have hg := cell_of_heap hM9
  have m0 := hg 0
  have m1 := hg 1
  have m2 := hg 2
  have m3 := hg 3
  have m4 := hg 4
  have m5 := hg 5
  have m6 := hg 6
  have m7 := hg 7
  have m8 := hg 8
  have m9 := hg 9
  have m10 := hg 10
  have m11 := hg 11
  have m12 := hg 12
  have m13 := hg 13
  simp only [List.getElem?_toArray, List.getElem?_cons_succ, List.getElem?_cons_zero] at m0 m1 m2 m3 m4 m5 m6 m7 m8 m9 m10 m11 m12 m13
  clear hg
  have hg := cell_of_heap hR9
  have r0 := hg 0
  have r1 := hg 1
  have r2 := hg 2
  have r3 := hg 3
  have r4 := hg 4
  have r5 := hg 5
  have r6 := hg 6
  have r7 := hg 7
  have r8 := hg 8
  have r9 := hg 9
  have r10 := hg 10
  have r11 := hg 11
  have r12 := hg 12
  have r13 := hg 13
  simp only [List.getElem?_toArray, List.getElem?_cons_succ, List.getElem?_cons_zero] at r0 r1 r2 r3 r4 r5 r6 r7 r8 r9 r10 r11 r12 r13
  clear hg
  have hby := HB2.out.trans (HB7.out.mono HB2.out.size)
  have HANS := Go.Lib.hid hans
  have HBY := Go.Lib.hid hby
  clear hans hby
  clear hM9 hR9
  go_wp2_with fail
  refine HANS.out.mono ?_; rintro e wz ⟨rfl, hx⟩
  have hbz := HBY.out.trans (hx.mono HBY.out.size)
  have HBZ := Go.Lib.hid hbz
  clear hbz
  clear hx m0 m1 m2 m3 m4 m5 m6 m7 m8 m9 m10 m11 m12 m13 r0 r1 r2 r3 r4 r5 r6 r7 r8 r9 r10 r11 r12 r13
  go_wp2_with fail
  refine (HAW.out _).mono ?_; rintro e wy ⟨rfl, hx⟩
  have HXX := Go.Lib.hid hx
  clear hx
  go_wp2_with fail
  go_ret
  exact ⟨rfl, HBZ.out.trans (HXX.out.mono HBZ.out.size)⟩

set_option maxRecDepth 100000 in
set_option maxHeartbeats 16000000 in
theorem k1 (id t c k i2 : Int) (n f : List UInt8) (w : World) (hn : n.length ≤ maxLen) (h0 : n.length ≤ 300) (h1 : 0 ≤ t) (h2 : t ≤ 60000) (h3 : 0 ≤ c) (h4 : c ≤ 60000) (hi0 : 0 ≤ i2) (hi1 : i2 < 65536) (HNL : Hid (n.length ≤ maxLen)) (HFL : Hid (f.length ≤ maxLen)) (HFL3 : Hid (f.length ≤ 300)) (HSAME : Hid (Nm.sameN n f = true)) (HS7 : Hid (Nm.sameN n ([1, 113] ++ f) = false)) (HAW : Hid (∀ W, Calls Try.prog 10 #[] W fun e w' => e = .returned (.bool true) ∧ Below W.heap.size W w')) (HV : Hid (∀ W, Calls Try.prog 23 #[.string (mk n)] W fun e w' => e = .returned (.bool true) ∧ Below W.heap.size W w')) (HASK : Hid (∀ W, Calls Try.prog 12 #[.int .i64 id, .agg #[.string (mk n), .int .i64 t, .int .i64 c]] W (RetM W (askN i2 ⟨n, t, c⟩)))) (HFO : Hid (∀ W, Calls Try.prog 24 #[.string (mk n)] W fun e w' => e = .returned (.string (mk f)) ∧ Below W.heap.size W w')) (HRN : Hid (∀ W, Calls Try.prog 25 #[.int .i64 k, .int .i64 8] W fun e w' => e = .returned (.int .i64 1) ∧ W = w')) :
    Calls Try.prog 4 #[.int .i64 id, .string (mk n), .int .i64 t, .int .i64 c, .int .i64 k] w fun e w' => e = .returned (.bool true) ∧ Below w.heap.size w w' := by
  obtain ⟨fs, hu⟩ := undMsg
  have HU := Go.Lib.hid hu
  clear hu
  have HB := Go.Lib.hid (Below.refl w.heap.size w)
  have hnm : (mk n).size = n.length := size_mk n
  unfold maxLen at hn
  have e1 : ¬ (300 : Int) < (n.length : Int) := by omega
  go_enter Try.func4, Try.ntmps4
  go_wp2_with fail
  refine (HV.out _).mono ?_; rintro e w1 ⟨rfl, hx⟩
  have hb1 := HB.out.trans (hx.mono HB.out.size)
  clear hx HB
  have HB1 := Go.Lib.hid hb1
  clear hb1
  go_wp2_with fail
  refine (HASK.out _).mono ?_; rintro e w2 ⟨f1, f2, f3, f4, rfl, htm, hx⟩
  obtain ⟨aq, cq, aa, ca, asv, cs, ad, cd, rfl, rfl, rfl, rfl⟩ := htm.places
  have htm : MsgT w2 (askN i2 ⟨n, t, c⟩) (.slice aq 1 cq) (.slice aa 0 ca) (.slice asv 0 cs) (.slice ad 0 cd) := htm
  have hb2 := HB1.out.trans (hx.mono HB1.out.size)
  have hz2 := hb2.size
  have hrep := Reply_any (askN i2 ⟨n, t, c⟩) _ _ _ _ 0 (.slice none 0 0) (.slice none 0 0) [] [] (w2.alloc (.cells #[.int .i64 i2, .bool false, .int .i64 0, .bool false, .bool false, .bool false, .bool false, .int .i64 0, .slice aq 1 cq, .slice aa 0 ca, .slice asv 0 cs, .slice ad 0 cd, .bool true, .int .i64 1232] 27)) (htm.lies.below ((Below.refl _ _).alloc (Nat.le_refl _) _) (Nat.le_refl _)) (SlC.nil _ _) (SlC.nil _ _) (by simp [askN]) (by decide) (by decide)
  have hone : (#[.int .i64 i2, .bool false, .int .i64 0, .bool false, .bool false, .bool false, .bool false, .int .i64 0, .slice aq 1 cq, .slice aa 0 ca, .slice asv 0 cs, .slice ad 0 cd, .bool true, .int .i64 1232] : Array Value).all (·.oneCell') = true := by simp [Value.oneCell']
  have hM2 : (w2.alloc (.cells #[.int .i64 i2, .bool false, .int .i64 0, .bool false, .bool false, .bool false, .bool false, .int .i64 0, .slice aq 1 cq, .slice aa 0 ca, .slice asv 0 cs, .slice ad 0 cd, .bool true, .int .i64 1232] 27)).heap[w2.heap.size]? = some (.cells #[.int .i64 i2, .bool false, .int .i64 0, .bool false, .bool false, .bool false, .bool false, .int .i64 0, .slice aq 1 cq, .slice aa 0 ca, .slice asv 0 cs, .slice ad 0 cd, .bool true, .int .i64 1232] 27 (0, 0)) := World.alloc_heap_new _ _
  have hbm : Below w2.heap.size w2 (w2.alloc (.cells #[.int .i64 i2, .bool false, .int .i64 0, .bool false, .bool false, .bool false, .bool false, .int .i64 0, .slice aq 1 cq, .slice aa 0 ca, .slice asv 0 cs, .slice ad 0 cd, .bool true, .int .i64 1232] 27)) := (Below.refl _ _).alloc (Nat.le_refl _) _
  have hml := htm.lies
  clear hx htm
  have HB2 := Go.Lib.hid hb2
  have HREP := Go.Lib.hid hrep
  have HONE := Go.Lib.hid hone
  have HM2 := Go.Lib.hid hM2
  have HBM := Go.Lib.hid hbm
  have HML := Go.Lib.hid hml
  clear hb2 hrep hone hM2 hbm hml
  go_wp2_with (first | (refine wpList_store_row rfl 27 (.tmp 11) (.tmp 44) rfl w2.heap.size #[.int .i64 i2, .bool false, .int .i64 0, .bool false, .bool false, .bool false, .bool false, .int .i64 0, .slice aq 1 cq, .slice aa 0 ca, .slice asv 0 cs, .slice ad 0 cd, .bool true, .int .i64 1232] rfl rfl _ _ (World.alloc_heap_new _ _) infoMsg rfl HONE.out ?_; rw [World.setRow_alloc_new]) | (refine wpList_load_row rfl 27 (.tmp 11) rfl w2.heap.size rfl 27 #[.int .i64 i2, .bool false, .int .i64 0, .bool false, .bool false, .bool false, .bool false, .int .i64 0, .slice aq 1 cq, .slice aa 0 ca, .slice asv 0 cs, .slice ad 0 cd, .bool true, .int .i64 1232] (0, 0) _ HM2.out HU.out rfl infoMsg ?_))
  refine HREP.out.mono ?_; rintro e w3 ⟨f1, f2, f3, f4, rfl, htr, hx⟩
  obtain ⟨bq, eq, ba, ea, bsv, es, bd, ed, rfl, rfl, rfl, rfl⟩ := htr.places
  have htr : MsgT w3 (replyN (askN i2 ⟨n, t, c⟩) 0 [] []) (.slice bq 1 eq) (.slice ba 0 ea) (.slice bsv 0 es) (.slice bd 0 ed) := htr
  have hla : SlC w3 5 (.slice ba 0 ea) 0 [] := htr.an.1
  have hls : SlC w3 5 (.slice bsv 0 es) 0 [] := htr.sv.1
  have hld : SlC w3 5 (.slice bd 0 ed) 0 [] := htr.ad.1
  have hbm3 := HBM.out.trans (hx.mono HBM.out.size)
  have hM3 := heap_old ((hx.block _ (Array.getElem?_eq_some_iff.1 HM2.out).1).trans HM2.out) (.cells #[.int .i64 i2, .bool true, .int .i64 0, .bool false, .bool false, .bool false, .bool true, .int .i64 0, .slice bq 1 eq, .slice ba 0 ea, .slice bsv 0 es, .slice bd 0 ed, .bool true, .int .i64 1232] 27)
  have hltm : w2.heap.size < w3.heap.size := (Array.getElem?_eq_some_iff.1 ((hx.block _ (Array.getElem?_eq_some_iff.1 HM2.out).1).trans HM2.out)).1
  have hR3 : (w3.alloc (.cells #[.int .i64 i2, .bool true, .int .i64 0, .bool false, .bool false, .bool false, .bool true, .int .i64 0, .slice bq 1 eq, .slice ba 0 ea, .slice bsv 0 es, .slice bd 0 ed, .bool true, .int .i64 1232] 27)).heap[w3.heap.size]? = some (.cells #[.int .i64 i2, .bool true, .int .i64 0, .bool false, .bool false, .bool false, .bool true, .int .i64 0, .slice bq 1 eq, .slice ba 0 ea, .slice bsv 0 es, .slice bd 0 ed, .bool true, .int .i64 1232] 27 (0, 0)) := World.alloc_heap_new _ _
  have hbm4 : Below w2.heap.size w2 (w3.alloc (.cells #[.int .i64 i2, .bool true, .int .i64 0, .bool false, .bool false, .bool false, .bool true, .int .i64 0, .slice bq 1 eq, .slice ba 0 ea, .slice bsv 0 es, .slice bd 0 ed, .bool true, .int .i64 1232] 27)) := hbm3.alloc hbm3.size _
  have hone2 : (#[.int .i64 i2, .bool true, .int .i64 0, .bool false, .bool false, .bool false, .bool true, .int .i64 0, .slice bq 1 eq, .slice ba 0 ea, .slice bsv 0 es, .slice bd 0 ed, .bool true, .int .i64 1232] : Array Value).all (·.oneCell') = true := by simp [Value.oneCell']
  clear hx htr hbm3 HBM HM2 HREP
  have hg := cell_of_heap hR3
  have r0 := hg 0
  have r1 := hg 1
  have r2 := hg 2
  have r3 := hg 3
  have r4 := hg 4
  have r5 := hg 5
  have r6 := hg 6
  have r7 := hg 7
  have r8 := hg 8
  simp only [List.getElem?_toArray, List.getElem?_cons_succ, List.getElem?_cons_zero] at r0 r1 r2 r3 r4 r5 r6 r7 r8
  clear hg
  have HM3 := Go.Lib.hid hM3
  have HR3 := Go.Lib.hid hR3
  have HBM4 := Go.Lib.hid hbm4
  have HONE2 := Go.Lib.hid hone2
  have HLA := Go.Lib.hid hla
  have HLS := Go.Lib.hid hls
  have HLD := Go.Lib.hid hld
  clear hM3 hR3 hbm4 hone2 hla hls hld
  go_wp2_with (first | (refine wpList_store_row rfl 27 (.tmp 12) (.tmp 46) rfl w3.heap.size #[.int .i64 i2, .bool true, .int .i64 0, .bool false, .bool false, .bool false, .bool true, .int .i64 0, .slice bq 1 eq, .slice ba 0 ea, .slice bsv 0 es, .slice bd 0 ed, .bool true, .int .i64 1232] rfl rfl _ _ (World.alloc_heap_new _ _) infoMsg rfl HONE2.out ?_; rw [World.setRow_alloc_new]))
  refine (HFO.out _).mono ?_; rintro e w4 ⟨rfl, hx⟩
  have hMw := (hx.block _ (Array.getElem?_eq_some_iff.1 HM3.out).1).trans HM3.out
  have hRw := (hx.block _ (Array.getElem?_eq_some_iff.1 HR3.out).1).trans HR3.out
  have hltr : w3.heap.size < w4.heap.size := (Array.getElem?_eq_some_iff.1 hRw).1
  have hbw4 := HBM4.out.trans (hx.mono HBM4.out.size)
  have hzw4 := hbw4.size
  clear hx HM3 HR3 HBM4 r0 r1 r2 r3 r4 r5 r6 r7 r8
  have hR4 := heap_old hRw (.cells #[.string (mk f), .int .i64 t, .int .i64 c] 23)
  have hc8 := cell_of_heap hR4 8
  have hf8 := frozen_of_row _ w3.heap.size 8 _ _ hR4
  simp only [List.getElem?_toArray, List.getElem?_cons_succ, List.getElem?_cons_zero] at hc8
  have hR5 : ((w4.setCell ⟨w3.heap.size, 8, none⟩ (.slice (some ⟨w4.heap.size, 0, none⟩) 1 1)).alloc (.cells #[.string (mk f), .int .i64 t, .int .i64 c] 23)).heap[w3.heap.size]? = some (.cells #[.int .i64 i2, .bool true, .int .i64 0, .bool false, .bool false, .bool false, .bool true, .int .i64 0, .slice (some ⟨w4.heap.size, 0, none⟩) 1 1, .slice ba 0 ea, .slice bsv 0 es, .slice bd 0 ed, .bool true, .int .i64 1232] 27 (0, 0)) := heap_old (heap_setCell_same w4 _ 8 _ _ _ hRw) _
  have hM5 : ((w4.setCell ⟨w3.heap.size, 8, none⟩ (.slice (some ⟨w4.heap.size, 0, none⟩) 1 1)).alloc (.cells #[.string (mk f), .int .i64 t, .int .i64 c] 23)).heap[w2.heap.size]? = some (.cells #[.int .i64 i2, .bool false, .int .i64 0, .bool false, .bool false, .bool false, .bool false, .int .i64 0, .slice aq 1 cq, .slice aa 0 ca, .slice asv 0 cs, .slice ad 0 cd, .bool true, .int .i64 1232] 27 (0, 0)) := heap_old ((heap_setCell_other w4 ⟨w3.heap.size, 8, none⟩ w2.heap.size (.slice (some ⟨w4.heap.size, 0, none⟩) 1 1) (show w2.heap.size ≠ w3.heap.size by omega)).trans hMw) _
  have hQ5 : ((w4.setCell ⟨w3.heap.size, 8, none⟩ (.slice (some ⟨w4.heap.size, 0, none⟩) 1 1)).alloc (.cells #[.string (mk f), .int .i64 t, .int .i64 c] 23)).heap[w4.heap.size]? = some (.cells #[.string (mk f), .int .i64 t, .int .i64 c] 23 (0, 0)) := by
    have h := World.alloc_heap_new (w4.setCell ⟨w3.heap.size, 8, none⟩ (.slice (some ⟨w4.heap.size, 0, none⟩) 1 1)) (.cells #[.string (mk f), .int .i64 t, .int .i64 c] 23)
    have hs : (w4.setCell ⟨w3.heap.size, 8, none⟩ (.slice (some ⟨w4.heap.size, 0, none⟩) 1 1)).heap.size = w4.heap.size := by simp
    rw [hs] at h
    exact h
  have hb6 : Below w2.heap.size w2 ((w4.setCell ⟨w3.heap.size, 8, none⟩ (.slice (some ⟨w4.heap.size, 0, none⟩) 1 1)).alloc (.cells #[.string (mk f), .int .i64 t, .int .i64 c] 23)) := (hbw4.setCell (p := ⟨w3.heap.size, 8, none⟩) (show w2.heap.size ≤ w3.heap.size by omega) (.slice (some ⟨w4.heap.size, 0, none⟩) 1 1)).alloc (by simp; omega) _
  have HM5 := Go.Lib.hid hM5
  have HR5 := Go.Lib.hid hR5
  have HQ5 := Go.Lib.hid hQ5
  have HB6 := Go.Lib.hid hb6
  clear hM5 hR5 hQ5 hb6
  clear hMw hRw hR4 hbw4
  go_wp2_with fail
  refine (HRN.out _).mono ?_; rintro e _ ⟨rfl, rfl⟩
  generalize (w4.setCell ⟨w3.heap.size, 8, none⟩ (.slice (some ⟨w4.heap.size, 0, none⟩) 1 1)).alloc (.cells #[.string (mk f), .int .i64 t, .int .i64 c] 23) = X at *
  clear hc8 hf8
  have w1 : IntKind.i64.wrap (i2 + 1) = i2 + 1 := wrapi (by omega) (by omega)
  have hc0 := cell_of_heap HR5.out 0
  have hf0 := frozen_of_row _ w3.heap.size 0 _ _ HR5.out
  have hr8 := cell_of_heap HR5.out 8
  simp only [List.getElem?_toArray, List.getElem?_cons_succ, List.getElem?_cons_zero] at hc0 hr8
  have HR6 : Hid ((X.setCell ⟨w3.heap.size, 0, none⟩ (.int .i64 (bits .and .i64 (i2 + 1) 65535))).heap[w3.heap.size]? = some (.cells #[.int .i64 (bits .and .i64 (i2 + 1) 65535), .bool true, .int .i64 0, .bool false, .bool false, .bool false, .bool true, .int .i64 0, .slice (some ⟨w4.heap.size, 0, none⟩) 1 1, .slice ba 0 ea, .slice bsv 0 es, .slice bd 0 ed, .bool true, .int .i64 1232] 27 (0, 0))) := Go.Lib.hid (heap_setCell_same _ _ 0 _ _ _ HR5.out)
  have HQ6 : Hid ((X.setCell ⟨w3.heap.size, 0, none⟩ (.int .i64 (bits .and .i64 (i2 + 1) 65535))).heap[w4.heap.size]? = some (.cells #[.string (mk f), .int .i64 t, .int .i64 c] 23 (0, 0))) := Go.Lib.hid ((heap_setCell_other _ ⟨w3.heap.size, 0, none⟩ w4.heap.size _ (show w4.heap.size ≠ w3.heap.size by omega)).trans HQ5.out)
  have HM6 : Hid ((X.setCell ⟨w3.heap.size, 0, none⟩ (.int .i64 (bits .and .i64 (i2 + 1) 65535))).heap[w2.heap.size]? = some (.cells #[.int .i64 i2, .bool false, .int .i64 0, .bool false, .bool false, .bool false, .bool false, .int .i64 0, .slice aq 1 cq, .slice aa 0 ca, .slice asv 0 cs, .slice ad 0 cd, .bool true, .int .i64 1232] 27 (0, 0))) := Go.Lib.hid ((heap_setCell_other _ ⟨w3.heap.size, 0, none⟩ w2.heap.size _ (show w2.heap.size ≠ w3.heap.size by omega)).trans HM5.out)
  have HB7 : Hid (Below w2.heap.size w2 (X.setCell ⟨w3.heap.size, 0, none⟩ (.int .i64 (bits .and .i64 (i2 + 1) 65535)))) := Go.Lib.hid (HB6.out.setCell (p := ⟨w3.heap.size, 0, none⟩) (show w2.heap.size ≤ w3.heap.size by omega) _)
  have HQS := Go.Lib.hid (slc_row3 (X.setCell ⟨w3.heap.size, 0, none⟩ (.int .i64 (bits .and .i64 (i2 + 1) 65535))) w4.heap.size f t c (0, 0) HQ6.out)
  have HQOK := Go.Lib.hid (show ∀ x ∈ ([⟨f, t, c⟩] : List Qn), x.name.length ≤ maxLen from fun x hx => by simp at hx; first | (subst hx; exact HFL.out) | (rcases hx with rfl | rfl <;> exact HFL.out))
  -- the answer
  have hans := Answers_any (askN i2 ⟨n, t, c⟩) ⟨(bits .and .i64 (i2 + 1) 65535), true, 0, false, false, false, true, 0, [⟨f, t, c⟩], [], [], [], true, 1232⟩ _ _ _ _ _ _ _ _ (X.setCell ⟨w3.heap.size, 0, none⟩ (.int .i64 (bits .and .i64 (i2 + 1) 65535))) (HML.out.below HB7.out (Nat.le_refl _)) ⟨HQS.out, slC_none HLA.out, slC_none HLS.out, slC_none HLD.out⟩ (by intro x hx; simp [askN] at hx; subst hx; exact HNL.out) HQOK.out
  rw [show answersN (askN i2 ⟨n, t, c⟩) ⟨(bits .and .i64 (i2 + 1) 65535), true, 0, false, false, false, true, 0, [⟨f, t, c⟩], [], [], [], true, 1232⟩ = false from ans1 hi0 hi1] at hans
  have hM9 := HM6.out
  have hR9 := HR6.out
  have hg := cell_of_heap hM9
  have m0 := hg 0
  have m1 := hg 1
  have m2 := hg 2
  have m3 := hg 3
  have m4 := hg 4
  have m5 := hg 5
  have m6 := hg 6
  have m7 := hg 7
  have m8 := hg 8
  have m9 := hg 9
  have m10 := hg 10
  have m11 := hg 11
  have m12 := hg 12
  have m13 := hg 13
  simp only [List.getElem?_toArray, List.getElem?_cons_succ, List.getElem?_cons_zero] at m0 m1 m2 m3 m4 m5 m6 m7 m8 m9 m10 m11 m12 m13
  clear hg
  have hg := cell_of_heap hR9
  have r0 := hg 0
  have r1 := hg 1
  have r2 := hg 2
  have r3 := hg 3
  have r4 := hg 4
  have r5 := hg 5
  have r6 := hg 6
  have r7 := hg 7
  have r8 := hg 8
  have r9 := hg 9
  have r10 := hg 10
  have r11 := hg 11
  have r12 := hg 12
  have r13 := hg 13
  simp only [List.getElem?_toArray, List.getElem?_cons_succ, List.getElem?_cons_zero] at r0 r1 r2 r3 r4 r5 r6 r7 r8 r9 r10 r11 r12 r13
  clear hg
  have hby := HB2.out.trans (HB7.out.mono HB2.out.size)
  have HANS := Go.Lib.hid hans
  have HBY := Go.Lib.hid hby
  clear hans hby
  clear hM9 hR9
  go_wp2_with fail
  refine HANS.out.mono ?_; rintro e wz ⟨rfl, hx⟩
  have hbz := HBY.out.trans (hx.mono HBY.out.size)
  have HBZ := Go.Lib.hid hbz
  clear hbz
  clear hx m0 m1 m2 m3 m4 m5 m6 m7 m8 m9 m10 m11 m12 m13 r0 r1 r2 r3 r4 r5 r6 r7 r8 r9 r10 r11 r12 r13
  go_wp2_with fail
  refine (HAW.out _).mono ?_; rintro e wy ⟨rfl, hx⟩
  have HXX := Go.Lib.hid hx
  clear hx
  go_wp2_with fail
  go_ret
  exact ⟨rfl, HBZ.out.trans (HXX.out.mono HBZ.out.size)⟩

set_option maxRecDepth 100000 in
set_option maxHeartbeats 16000000 in
theorem k2 (id t c k i2 : Int) (n f : List UInt8) (w : World) (hn : n.length ≤ maxLen) (h0 : n.length ≤ 300) (h1 : 0 ≤ t) (h2 : t ≤ 60000) (h3 : 0 ≤ c) (h4 : c ≤ 60000) (hi0 : 0 ≤ i2) (hi1 : i2 < 65536) (HNL : Hid (n.length ≤ maxLen)) (HFL : Hid (f.length ≤ maxLen)) (HFL3 : Hid (f.length ≤ 300)) (HSAME : Hid (Nm.sameN n f = true)) (HS7 : Hid (Nm.sameN n ([1, 113] ++ f) = false)) (HAW : Hid (∀ W, Calls Try.prog 10 #[] W fun e w' => e = .returned (.bool true) ∧ Below W.heap.size W w')) (HV : Hid (∀ W, Calls Try.prog 23 #[.string (mk n)] W fun e w' => e = .returned (.bool true) ∧ Below W.heap.size W w')) (HASK : Hid (∀ W, Calls Try.prog 12 #[.int .i64 id, .agg #[.string (mk n), .int .i64 t, .int .i64 c]] W (RetM W (askN i2 ⟨n, t, c⟩)))) (HFO : Hid (∀ W, Calls Try.prog 24 #[.string (mk n)] W fun e w' => e = .returned (.string (mk f)) ∧ Below W.heap.size W w')) (HRN : Hid (∀ W, Calls Try.prog 25 #[.int .i64 k, .int .i64 8] W fun e w' => e = .returned (.int .i64 2) ∧ W = w')) :
    Calls Try.prog 4 #[.int .i64 id, .string (mk n), .int .i64 t, .int .i64 c, .int .i64 k] w fun e w' => e = .returned (.bool true) ∧ Below w.heap.size w w' := by
  obtain ⟨fs, hu⟩ := undMsg
  have HU := Go.Lib.hid hu
  clear hu
  have HB := Go.Lib.hid (Below.refl w.heap.size w)
  have hnm : (mk n).size = n.length := size_mk n
  unfold maxLen at hn
  have e1 : ¬ (300 : Int) < (n.length : Int) := by omega
  go_enter Try.func4, Try.ntmps4
  go_wp2_with fail
  refine (HV.out _).mono ?_; rintro e w1 ⟨rfl, hx⟩
  have hb1 := HB.out.trans (hx.mono HB.out.size)
  clear hx HB
  have HB1 := Go.Lib.hid hb1
  clear hb1
  go_wp2_with fail
  refine (HASK.out _).mono ?_; rintro e w2 ⟨f1, f2, f3, f4, rfl, htm, hx⟩
  obtain ⟨aq, cq, aa, ca, asv, cs, ad, cd, rfl, rfl, rfl, rfl⟩ := htm.places
  have htm : MsgT w2 (askN i2 ⟨n, t, c⟩) (.slice aq 1 cq) (.slice aa 0 ca) (.slice asv 0 cs) (.slice ad 0 cd) := htm
  have hb2 := HB1.out.trans (hx.mono HB1.out.size)
  have hz2 := hb2.size
  have hrep := Reply_any (askN i2 ⟨n, t, c⟩) _ _ _ _ 0 (.slice none 0 0) (.slice none 0 0) [] [] (w2.alloc (.cells #[.int .i64 i2, .bool false, .int .i64 0, .bool false, .bool false, .bool false, .bool false, .int .i64 0, .slice aq 1 cq, .slice aa 0 ca, .slice asv 0 cs, .slice ad 0 cd, .bool true, .int .i64 1232] 27)) (htm.lies.below ((Below.refl _ _).alloc (Nat.le_refl _) _) (Nat.le_refl _)) (SlC.nil _ _) (SlC.nil _ _) (by simp [askN]) (by decide) (by decide)
  have hone : (#[.int .i64 i2, .bool false, .int .i64 0, .bool false, .bool false, .bool false, .bool false, .int .i64 0, .slice aq 1 cq, .slice aa 0 ca, .slice asv 0 cs, .slice ad 0 cd, .bool true, .int .i64 1232] : Array Value).all (·.oneCell') = true := by simp [Value.oneCell']
  have hM2 : (w2.alloc (.cells #[.int .i64 i2, .bool false, .int .i64 0, .bool false, .bool false, .bool false, .bool false, .int .i64 0, .slice aq 1 cq, .slice aa 0 ca, .slice asv 0 cs, .slice ad 0 cd, .bool true, .int .i64 1232] 27)).heap[w2.heap.size]? = some (.cells #[.int .i64 i2, .bool false, .int .i64 0, .bool false, .bool false, .bool false, .bool false, .int .i64 0, .slice aq 1 cq, .slice aa 0 ca, .slice asv 0 cs, .slice ad 0 cd, .bool true, .int .i64 1232] 27 (0, 0)) := World.alloc_heap_new _ _
  have hbm : Below w2.heap.size w2 (w2.alloc (.cells #[.int .i64 i2, .bool false, .int .i64 0, .bool false, .bool false, .bool false, .bool false, .int .i64 0, .slice aq 1 cq, .slice aa 0 ca, .slice asv 0 cs, .slice ad 0 cd, .bool true, .int .i64 1232] 27)) := (Below.refl _ _).alloc (Nat.le_refl _) _
  have hml := htm.lies
  clear hx htm
  have HB2 := Go.Lib.hid hb2
  have HREP := Go.Lib.hid hrep
  have HONE := Go.Lib.hid hone
  have HM2 := Go.Lib.hid hM2
  have HBM := Go.Lib.hid hbm
  have HML := Go.Lib.hid hml
  clear hb2 hrep hone hM2 hbm hml
  go_wp2_with (first | (refine wpList_store_row rfl 27 (.tmp 11) (.tmp 44) rfl w2.heap.size #[.int .i64 i2, .bool false, .int .i64 0, .bool false, .bool false, .bool false, .bool false, .int .i64 0, .slice aq 1 cq, .slice aa 0 ca, .slice asv 0 cs, .slice ad 0 cd, .bool true, .int .i64 1232] rfl rfl _ _ (World.alloc_heap_new _ _) infoMsg rfl HONE.out ?_; rw [World.setRow_alloc_new]) | (refine wpList_load_row rfl 27 (.tmp 11) rfl w2.heap.size rfl 27 #[.int .i64 i2, .bool false, .int .i64 0, .bool false, .bool false, .bool false, .bool false, .int .i64 0, .slice aq 1 cq, .slice aa 0 ca, .slice asv 0 cs, .slice ad 0 cd, .bool true, .int .i64 1232] (0, 0) _ HM2.out HU.out rfl infoMsg ?_))
  refine HREP.out.mono ?_; rintro e w3 ⟨f1, f2, f3, f4, rfl, htr, hx⟩
  obtain ⟨bq, eq, ba, ea, bsv, es, bd, ed, rfl, rfl, rfl, rfl⟩ := htr.places
  have htr : MsgT w3 (replyN (askN i2 ⟨n, t, c⟩) 0 [] []) (.slice bq 1 eq) (.slice ba 0 ea) (.slice bsv 0 es) (.slice bd 0 ed) := htr
  have hla : SlC w3 5 (.slice ba 0 ea) 0 [] := htr.an.1
  have hls : SlC w3 5 (.slice bsv 0 es) 0 [] := htr.sv.1
  have hld : SlC w3 5 (.slice bd 0 ed) 0 [] := htr.ad.1
  have hbm3 := HBM.out.trans (hx.mono HBM.out.size)
  have hM3 := heap_old ((hx.block _ (Array.getElem?_eq_some_iff.1 HM2.out).1).trans HM2.out) (.cells #[.int .i64 i2, .bool true, .int .i64 0, .bool false, .bool false, .bool false, .bool true, .int .i64 0, .slice bq 1 eq, .slice ba 0 ea, .slice bsv 0 es, .slice bd 0 ed, .bool true, .int .i64 1232] 27)
  have hltm : w2.heap.size < w3.heap.size := (Array.getElem?_eq_some_iff.1 ((hx.block _ (Array.getElem?_eq_some_iff.1 HM2.out).1).trans HM2.out)).1
  have hR3 : (w3.alloc (.cells #[.int .i64 i2, .bool true, .int .i64 0, .bool false, .bool false, .bool false, .bool true, .int .i64 0, .slice bq 1 eq, .slice ba 0 ea, .slice bsv 0 es, .slice bd 0 ed, .bool true, .int .i64 1232] 27)).heap[w3.heap.size]? = some (.cells #[.int .i64 i2, .bool true, .int .i64 0, .bool false, .bool false, .bool false, .bool true, .int .i64 0, .slice bq 1 eq, .slice ba 0 ea, .slice bsv 0 es, .slice bd 0 ed, .bool true, .int .i64 1232] 27 (0, 0)) := World.alloc_heap_new _ _
  have hbm4 : Below w2.heap.size w2 (w3.alloc (.cells #[.int .i64 i2, .bool true, .int .i64 0, .bool false, .bool false, .bool false, .bool true, .int .i64 0, .slice bq 1 eq, .slice ba 0 ea, .slice bsv 0 es, .slice bd 0 ed, .bool true, .int .i64 1232] 27)) := hbm3.alloc hbm3.size _
  have hone2 : (#[.int .i64 i2, .bool true, .int .i64 0, .bool false, .bool false, .bool false, .bool true, .int .i64 0, .slice bq 1 eq, .slice ba 0 ea, .slice bsv 0 es, .slice bd 0 ed, .bool true, .int .i64 1232] : Array Value).all (·.oneCell') = true := by simp [Value.oneCell']
  clear hx htr hbm3 HBM HM2 HREP
  have hg := cell_of_heap hR3
  have r0 := hg 0
  have r1 := hg 1
  have r2 := hg 2
  have r3 := hg 3
  have r4 := hg 4
  have r5 := hg 5
  have r6 := hg 6
  have r7 := hg 7
  have r8 := hg 8
  simp only [List.getElem?_toArray, List.getElem?_cons_succ, List.getElem?_cons_zero] at r0 r1 r2 r3 r4 r5 r6 r7 r8
  clear hg
  have HM3 := Go.Lib.hid hM3
  have HR3 := Go.Lib.hid hR3
  have HBM4 := Go.Lib.hid hbm4
  have HONE2 := Go.Lib.hid hone2
  have HLA := Go.Lib.hid hla
  have HLS := Go.Lib.hid hls
  have HLD := Go.Lib.hid hld
  clear hM3 hR3 hbm4 hone2 hla hls hld
  go_wp2_with (first | (refine wpList_store_row rfl 27 (.tmp 12) (.tmp 46) rfl w3.heap.size #[.int .i64 i2, .bool true, .int .i64 0, .bool false, .bool false, .bool false, .bool true, .int .i64 0, .slice bq 1 eq, .slice ba 0 ea, .slice bsv 0 es, .slice bd 0 ed, .bool true, .int .i64 1232] rfl rfl _ _ (World.alloc_heap_new _ _) infoMsg rfl HONE2.out ?_; rw [World.setRow_alloc_new]))
  refine (HFO.out _).mono ?_; rintro e w4 ⟨rfl, hx⟩
  have hMw := (hx.block _ (Array.getElem?_eq_some_iff.1 HM3.out).1).trans HM3.out
  have hRw := (hx.block _ (Array.getElem?_eq_some_iff.1 HR3.out).1).trans HR3.out
  have hltr : w3.heap.size < w4.heap.size := (Array.getElem?_eq_some_iff.1 hRw).1
  have hbw4 := HBM4.out.trans (hx.mono HBM4.out.size)
  have hzw4 := hbw4.size
  clear hx HM3 HR3 HBM4 r0 r1 r2 r3 r4 r5 r6 r7 r8
  have hR4 := heap_old hRw (.cells #[.string (mk f), .int .i64 t, .int .i64 c] 23)
  have hc8 := cell_of_heap hR4 8
  have hf8 := frozen_of_row _ w3.heap.size 8 _ _ hR4
  simp only [List.getElem?_toArray, List.getElem?_cons_succ, List.getElem?_cons_zero] at hc8
  have hR5 : ((w4.setCell ⟨w3.heap.size, 8, none⟩ (.slice (some ⟨w4.heap.size, 0, none⟩) 1 1)).alloc (.cells #[.string (mk f), .int .i64 t, .int .i64 c] 23)).heap[w3.heap.size]? = some (.cells #[.int .i64 i2, .bool true, .int .i64 0, .bool false, .bool false, .bool false, .bool true, .int .i64 0, .slice (some ⟨w4.heap.size, 0, none⟩) 1 1, .slice ba 0 ea, .slice bsv 0 es, .slice bd 0 ed, .bool true, .int .i64 1232] 27 (0, 0)) := heap_old (heap_setCell_same w4 _ 8 _ _ _ hRw) _
  have hM5 : ((w4.setCell ⟨w3.heap.size, 8, none⟩ (.slice (some ⟨w4.heap.size, 0, none⟩) 1 1)).alloc (.cells #[.string (mk f), .int .i64 t, .int .i64 c] 23)).heap[w2.heap.size]? = some (.cells #[.int .i64 i2, .bool false, .int .i64 0, .bool false, .bool false, .bool false, .bool false, .int .i64 0, .slice aq 1 cq, .slice aa 0 ca, .slice asv 0 cs, .slice ad 0 cd, .bool true, .int .i64 1232] 27 (0, 0)) := heap_old ((heap_setCell_other w4 ⟨w3.heap.size, 8, none⟩ w2.heap.size (.slice (some ⟨w4.heap.size, 0, none⟩) 1 1) (show w2.heap.size ≠ w3.heap.size by omega)).trans hMw) _
  have hQ5 : ((w4.setCell ⟨w3.heap.size, 8, none⟩ (.slice (some ⟨w4.heap.size, 0, none⟩) 1 1)).alloc (.cells #[.string (mk f), .int .i64 t, .int .i64 c] 23)).heap[w4.heap.size]? = some (.cells #[.string (mk f), .int .i64 t, .int .i64 c] 23 (0, 0)) := by
    have h := World.alloc_heap_new (w4.setCell ⟨w3.heap.size, 8, none⟩ (.slice (some ⟨w4.heap.size, 0, none⟩) 1 1)) (.cells #[.string (mk f), .int .i64 t, .int .i64 c] 23)
    have hs : (w4.setCell ⟨w3.heap.size, 8, none⟩ (.slice (some ⟨w4.heap.size, 0, none⟩) 1 1)).heap.size = w4.heap.size := by simp
    rw [hs] at h
    exact h
  have hb6 : Below w2.heap.size w2 ((w4.setCell ⟨w3.heap.size, 8, none⟩ (.slice (some ⟨w4.heap.size, 0, none⟩) 1 1)).alloc (.cells #[.string (mk f), .int .i64 t, .int .i64 c] 23)) := (hbw4.setCell (p := ⟨w3.heap.size, 8, none⟩) (show w2.heap.size ≤ w3.heap.size by omega) (.slice (some ⟨w4.heap.size, 0, none⟩) 1 1)).alloc (by simp; omega) _
  have HM5 := Go.Lib.hid hM5
  have HR5 := Go.Lib.hid hR5
  have HQ5 := Go.Lib.hid hQ5
  have HB6 := Go.Lib.hid hb6
  clear hM5 hR5 hQ5 hb6
  clear hMw hRw hR4 hbw4
  go_wp2_with fail
  refine (HRN.out _).mono ?_; rintro e _ ⟨rfl, rfl⟩
  generalize (w4.setCell ⟨w3.heap.size, 8, none⟩ (.slice (some ⟨w4.heap.size, 0, none⟩) 1 1)).alloc (.cells #[.string (mk f), .int .i64 t, .int .i64 c] 23) = X at *
  clear hc8 hf8
  have w1 : IntKind.i64.wrap (t + 1) = t + 1 := wrapi (by omega) (by omega)
  have hc0 := cell_of_heap HQ5.out 1
  have hf0 := frozen_of_row _ w4.heap.size 1 _ _ HQ5.out
  have hr8 := cell_of_heap HR5.out 8
  simp only [List.getElem?_toArray, List.getElem?_cons_succ, List.getElem?_cons_zero] at hc0 hr8
  have HR6 : Hid ((X.setCell ⟨w4.heap.size, 1, none⟩ (.int .i64 (t + 1))).heap[w3.heap.size]? = some (.cells #[.int .i64 i2, .bool true, .int .i64 0, .bool false, .bool false, .bool false, .bool true, .int .i64 0, .slice (some ⟨w4.heap.size, 0, none⟩) 1 1, .slice ba 0 ea, .slice bsv 0 es, .slice bd 0 ed, .bool true, .int .i64 1232] 27 (0, 0))) := Go.Lib.hid ((heap_setCell_other _ ⟨w4.heap.size, 1, none⟩ w3.heap.size _ (show w3.heap.size ≠ w4.heap.size by omega)).trans HR5.out)
  have HQ6 : Hid ((X.setCell ⟨w4.heap.size, 1, none⟩ (.int .i64 (t + 1))).heap[w4.heap.size]? = some (.cells #[.string (mk f), .int .i64 (t + 1), .int .i64 c] 23 (0, 0))) := Go.Lib.hid (heap_setCell_same _ _ 1 _ _ _ HQ5.out)
  have HM6 : Hid ((X.setCell ⟨w4.heap.size, 1, none⟩ (.int .i64 (t + 1))).heap[w2.heap.size]? = some (.cells #[.int .i64 i2, .bool false, .int .i64 0, .bool false, .bool false, .bool false, .bool false, .int .i64 0, .slice aq 1 cq, .slice aa 0 ca, .slice asv 0 cs, .slice ad 0 cd, .bool true, .int .i64 1232] 27 (0, 0))) := Go.Lib.hid ((heap_setCell_other _ ⟨w4.heap.size, 1, none⟩ w2.heap.size _ (show w2.heap.size ≠ w4.heap.size by omega)).trans HM5.out)
  have HB7 : Hid (Below w2.heap.size w2 (X.setCell ⟨w4.heap.size, 1, none⟩ (.int .i64 (t + 1)))) := Go.Lib.hid (HB6.out.setCell (p := ⟨w4.heap.size, 1, none⟩) (show w2.heap.size ≤ w4.heap.size by omega) _)
  have HQS := Go.Lib.hid (slc_row3 (X.setCell ⟨w4.heap.size, 1, none⟩ (.int .i64 (t + 1))) w4.heap.size f (t + 1) c (0, 0) HQ6.out)
  have HQOK := Go.Lib.hid (show ∀ x ∈ ([⟨f, t + 1, c⟩] : List Qn), x.name.length ≤ maxLen from fun x hx => by simp at hx; first | (subst hx; exact HFL.out) | (rcases hx with rfl | rfl <;> exact HFL.out))
  -- the answer
  have hans := Answers_any (askN i2 ⟨n, t, c⟩) ⟨i2, true, 0, false, false, false, true, 0, [⟨f, t + 1, c⟩], [], [], [], true, 1232⟩ _ _ _ _ _ _ _ _ (X.setCell ⟨w4.heap.size, 1, none⟩ (.int .i64 (t + 1))) (HML.out.below HB7.out (Nat.le_refl _)) ⟨HQS.out, slC_none HLA.out, slC_none HLS.out, slC_none HLD.out⟩ (by intro x hx; simp [askN] at hx; subst hx; exact HNL.out) HQOK.out
  rw [show answersN (askN i2 ⟨n, t, c⟩) ⟨i2, true, 0, false, false, false, true, 0, [⟨f, t + 1, c⟩], [], [], [], true, 1232⟩ = false from ans2] at hans
  have hM9 := HM6.out
  have hR9 := HR6.out
  have hg := cell_of_heap hM9
  have m0 := hg 0
  have m1 := hg 1
  have m2 := hg 2
  have m3 := hg 3
  have m4 := hg 4
  have m5 := hg 5
  have m6 := hg 6
  have m7 := hg 7
  have m8 := hg 8
  have m9 := hg 9
  have m10 := hg 10
  have m11 := hg 11
  have m12 := hg 12
  have m13 := hg 13
  simp only [List.getElem?_toArray, List.getElem?_cons_succ, List.getElem?_cons_zero] at m0 m1 m2 m3 m4 m5 m6 m7 m8 m9 m10 m11 m12 m13
  clear hg
  have hg := cell_of_heap hR9
  have r0 := hg 0
  have r1 := hg 1
  have r2 := hg 2
  have r3 := hg 3
  have r4 := hg 4
  have r5 := hg 5
  have r6 := hg 6
  have r7 := hg 7
  have r8 := hg 8
  have r9 := hg 9
  have r10 := hg 10
  have r11 := hg 11
  have r12 := hg 12
  have r13 := hg 13
  simp only [List.getElem?_toArray, List.getElem?_cons_succ, List.getElem?_cons_zero] at r0 r1 r2 r3 r4 r5 r6 r7 r8 r9 r10 r11 r12 r13
  clear hg
  have hby := HB2.out.trans (HB7.out.mono HB2.out.size)
  have HANS := Go.Lib.hid hans
  have HBY := Go.Lib.hid hby
  clear hans hby
  clear hM9 hR9
  go_wp2_with fail
  refine HANS.out.mono ?_; rintro e wz ⟨rfl, hx⟩
  have hbz := HBY.out.trans (hx.mono HBY.out.size)
  have HBZ := Go.Lib.hid hbz
  clear hbz
  clear hx m0 m1 m2 m3 m4 m5 m6 m7 m8 m9 m10 m11 m12 m13 r0 r1 r2 r3 r4 r5 r6 r7 r8 r9 r10 r11 r12 r13
  go_wp2_with fail
  refine (HAW.out _).mono ?_; rintro e wy ⟨rfl, hx⟩
  have HXX := Go.Lib.hid hx
  clear hx
  go_wp2_with fail
  go_ret
  exact ⟨rfl, HBZ.out.trans (HXX.out.mono HBZ.out.size)⟩

set_option maxRecDepth 100000 in
set_option maxHeartbeats 16000000 in
theorem k3 (id t c k i2 : Int) (n f : List UInt8) (w : World) (hn : n.length ≤ maxLen) (h0 : n.length ≤ 300) (h1 : 0 ≤ t) (h2 : t ≤ 60000) (h3 : 0 ≤ c) (h4 : c ≤ 60000) (hi0 : 0 ≤ i2) (hi1 : i2 < 65536) (HNL : Hid (n.length ≤ maxLen)) (HFL : Hid (f.length ≤ maxLen)) (HFL3 : Hid (f.length ≤ 300)) (HSAME : Hid (Nm.sameN n f = true)) (HS7 : Hid (Nm.sameN n ([1, 113] ++ f) = false)) (HAW : Hid (∀ W, Calls Try.prog 10 #[] W fun e w' => e = .returned (.bool true) ∧ Below W.heap.size W w')) (HV : Hid (∀ W, Calls Try.prog 23 #[.string (mk n)] W fun e w' => e = .returned (.bool true) ∧ Below W.heap.size W w')) (HASK : Hid (∀ W, Calls Try.prog 12 #[.int .i64 id, .agg #[.string (mk n), .int .i64 t, .int .i64 c]] W (RetM W (askN i2 ⟨n, t, c⟩)))) (HFO : Hid (∀ W, Calls Try.prog 24 #[.string (mk n)] W fun e w' => e = .returned (.string (mk f)) ∧ Below W.heap.size W w')) (HRN : Hid (∀ W, Calls Try.prog 25 #[.int .i64 k, .int .i64 8] W fun e w' => e = .returned (.int .i64 3) ∧ W = w')) :
    Calls Try.prog 4 #[.int .i64 id, .string (mk n), .int .i64 t, .int .i64 c, .int .i64 k] w fun e w' => e = .returned (.bool true) ∧ Below w.heap.size w w' := by
  obtain ⟨fs, hu⟩ := undMsg
  have HU := Go.Lib.hid hu
  clear hu
  have HB := Go.Lib.hid (Below.refl w.heap.size w)
  have hnm : (mk n).size = n.length := size_mk n
  unfold maxLen at hn
  have e1 : ¬ (300 : Int) < (n.length : Int) := by omega
  go_enter Try.func4, Try.ntmps4
  go_wp2_with fail
  refine (HV.out _).mono ?_; rintro e w1 ⟨rfl, hx⟩
  have hb1 := HB.out.trans (hx.mono HB.out.size)
  clear hx HB
  have HB1 := Go.Lib.hid hb1
  clear hb1
  go_wp2_with fail
  refine (HASK.out _).mono ?_; rintro e w2 ⟨f1, f2, f3, f4, rfl, htm, hx⟩
  obtain ⟨aq, cq, aa, ca, asv, cs, ad, cd, rfl, rfl, rfl, rfl⟩ := htm.places
  have htm : MsgT w2 (askN i2 ⟨n, t, c⟩) (.slice aq 1 cq) (.slice aa 0 ca) (.slice asv 0 cs) (.slice ad 0 cd) := htm
  have hb2 := HB1.out.trans (hx.mono HB1.out.size)
  have hz2 := hb2.size
  have hrep := Reply_any (askN i2 ⟨n, t, c⟩) _ _ _ _ 0 (.slice none 0 0) (.slice none 0 0) [] [] (w2.alloc (.cells #[.int .i64 i2, .bool false, .int .i64 0, .bool false, .bool false, .bool false, .bool false, .int .i64 0, .slice aq 1 cq, .slice aa 0 ca, .slice asv 0 cs, .slice ad 0 cd, .bool true, .int .i64 1232] 27)) (htm.lies.below ((Below.refl _ _).alloc (Nat.le_refl _) _) (Nat.le_refl _)) (SlC.nil _ _) (SlC.nil _ _) (by simp [askN]) (by decide) (by decide)
  have hone : (#[.int .i64 i2, .bool false, .int .i64 0, .bool false, .bool false, .bool false, .bool false, .int .i64 0, .slice aq 1 cq, .slice aa 0 ca, .slice asv 0 cs, .slice ad 0 cd, .bool true, .int .i64 1232] : Array Value).all (·.oneCell') = true := by simp [Value.oneCell']
  have hM2 : (w2.alloc (.cells #[.int .i64 i2, .bool false, .int .i64 0, .bool false, .bool false, .bool false, .bool false, .int .i64 0, .slice aq 1 cq, .slice aa 0 ca, .slice asv 0 cs, .slice ad 0 cd, .bool true, .int .i64 1232] 27)).heap[w2.heap.size]? = some (.cells #[.int .i64 i2, .bool false, .int .i64 0, .bool false, .bool false, .bool false, .bool false, .int .i64 0, .slice aq 1 cq, .slice aa 0 ca, .slice asv 0 cs, .slice ad 0 cd, .bool true, .int .i64 1232] 27 (0, 0)) := World.alloc_heap_new _ _
  have hbm : Below w2.heap.size w2 (w2.alloc (.cells #[.int .i64 i2, .bool false, .int .i64 0, .bool false, .bool false, .bool false, .bool false, .int .i64 0, .slice aq 1 cq, .slice aa 0 ca, .slice asv 0 cs, .slice ad 0 cd, .bool true, .int .i64 1232] 27)) := (Below.refl _ _).alloc (Nat.le_refl _) _
  have hml := htm.lies
  clear hx htm
  have HB2 := Go.Lib.hid hb2
  have HREP := Go.Lib.hid hrep
  have HONE := Go.Lib.hid hone
  have HM2 := Go.Lib.hid hM2
  have HBM := Go.Lib.hid hbm
  have HML := Go.Lib.hid hml
  clear hb2 hrep hone hM2 hbm hml
  go_wp2_with (first | (refine wpList_store_row rfl 27 (.tmp 11) (.tmp 44) rfl w2.heap.size #[.int .i64 i2, .bool false, .int .i64 0, .bool false, .bool false, .bool false, .bool false, .int .i64 0, .slice aq 1 cq, .slice aa 0 ca, .slice asv 0 cs, .slice ad 0 cd, .bool true, .int .i64 1232] rfl rfl _ _ (World.alloc_heap_new _ _) infoMsg rfl HONE.out ?_; rw [World.setRow_alloc_new]) | (refine wpList_load_row rfl 27 (.tmp 11) rfl w2.heap.size rfl 27 #[.int .i64 i2, .bool false, .int .i64 0, .bool false, .bool false, .bool false, .bool false, .int .i64 0, .slice aq 1 cq, .slice aa 0 ca, .slice asv 0 cs, .slice ad 0 cd, .bool true, .int .i64 1232] (0, 0) _ HM2.out HU.out rfl infoMsg ?_))
  refine HREP.out.mono ?_; rintro e w3 ⟨f1, f2, f3, f4, rfl, htr, hx⟩
  obtain ⟨bq, eq, ba, ea, bsv, es, bd, ed, rfl, rfl, rfl, rfl⟩ := htr.places
  have htr : MsgT w3 (replyN (askN i2 ⟨n, t, c⟩) 0 [] []) (.slice bq 1 eq) (.slice ba 0 ea) (.slice bsv 0 es) (.slice bd 0 ed) := htr
  have hla : SlC w3 5 (.slice ba 0 ea) 0 [] := htr.an.1
  have hls : SlC w3 5 (.slice bsv 0 es) 0 [] := htr.sv.1
  have hld : SlC w3 5 (.slice bd 0 ed) 0 [] := htr.ad.1
  have hbm3 := HBM.out.trans (hx.mono HBM.out.size)
  have hM3 := heap_old ((hx.block _ (Array.getElem?_eq_some_iff.1 HM2.out).1).trans HM2.out) (.cells #[.int .i64 i2, .bool true, .int .i64 0, .bool false, .bool false, .bool false, .bool true, .int .i64 0, .slice bq 1 eq, .slice ba 0 ea, .slice bsv 0 es, .slice bd 0 ed, .bool true, .int .i64 1232] 27)
  have hltm : w2.heap.size < w3.heap.size := (Array.getElem?_eq_some_iff.1 ((hx.block _ (Array.getElem?_eq_some_iff.1 HM2.out).1).trans HM2.out)).1
  have hR3 : (w3.alloc (.cells #[.int .i64 i2, .bool true, .int .i64 0, .bool false, .bool false, .bool false, .bool true, .int .i64 0, .slice bq 1 eq, .slice ba 0 ea, .slice bsv 0 es, .slice bd 0 ed, .bool true, .int .i64 1232] 27)).heap[w3.heap.size]? = some (.cells #[.int .i64 i2, .bool true, .int .i64 0, .bool false, .bool false, .bool false, .bool true, .int .i64 0, .slice bq 1 eq, .slice ba 0 ea, .slice bsv 0 es, .slice bd 0 ed, .bool true, .int .i64 1232] 27 (0, 0)) := World.alloc_heap_new _ _
  have hbm4 : Below w2.heap.size w2 (w3.alloc (.cells #[.int .i64 i2, .bool true, .int .i64 0, .bool false, .bool false, .bool false, .bool true, .int .i64 0, .slice bq 1 eq, .slice ba 0 ea, .slice bsv 0 es, .slice bd 0 ed, .bool true, .int .i64 1232] 27)) := hbm3.alloc hbm3.size _
  have hone2 : (#[.int .i64 i2, .bool true, .int .i64 0, .bool false, .bool false, .bool false, .bool true, .int .i64 0, .slice bq 1 eq, .slice ba 0 ea, .slice bsv 0 es, .slice bd 0 ed, .bool true, .int .i64 1232] : Array Value).all (·.oneCell') = true := by simp [Value.oneCell']
  clear hx htr hbm3 HBM HM2 HREP
  have hg := cell_of_heap hR3
  have r0 := hg 0
  have r1 := hg 1
  have r2 := hg 2
  have r3 := hg 3
  have r4 := hg 4
  have r5 := hg 5
  have r6 := hg 6
  have r7 := hg 7
  have r8 := hg 8
  simp only [List.getElem?_toArray, List.getElem?_cons_succ, List.getElem?_cons_zero] at r0 r1 r2 r3 r4 r5 r6 r7 r8
  clear hg
  have HM3 := Go.Lib.hid hM3
  have HR3 := Go.Lib.hid hR3
  have HBM4 := Go.Lib.hid hbm4
  have HONE2 := Go.Lib.hid hone2
  have HLA := Go.Lib.hid hla
  have HLS := Go.Lib.hid hls
  have HLD := Go.Lib.hid hld
  clear hM3 hR3 hbm4 hone2 hla hls hld
  go_wp2_with (first | (refine wpList_store_row rfl 27 (.tmp 12) (.tmp 46) rfl w3.heap.size #[.int .i64 i2, .bool true, .int .i64 0, .bool false, .bool false, .bool false, .bool true, .int .i64 0, .slice bq 1 eq, .slice ba 0 ea, .slice bsv 0 es, .slice bd 0 ed, .bool true, .int .i64 1232] rfl rfl _ _ (World.alloc_heap_new _ _) infoMsg rfl HONE2.out ?_; rw [World.setRow_alloc_new]))
  refine (HFO.out _).mono ?_; rintro e w4 ⟨rfl, hx⟩
  have hMw := (hx.block _ (Array.getElem?_eq_some_iff.1 HM3.out).1).trans HM3.out
  have hRw := (hx.block _ (Array.getElem?_eq_some_iff.1 HR3.out).1).trans HR3.out
  have hltr : w3.heap.size < w4.heap.size := (Array.getElem?_eq_some_iff.1 hRw).1
  have hbw4 := HBM4.out.trans (hx.mono HBM4.out.size)
  have hzw4 := hbw4.size
  clear hx HM3 HR3 HBM4 r0 r1 r2 r3 r4 r5 r6 r7 r8
  have hR4 := heap_old hRw (.cells #[.string (mk f), .int .i64 t, .int .i64 c] 23)
  have hc8 := cell_of_heap hR4 8
  have hf8 := frozen_of_row _ w3.heap.size 8 _ _ hR4
  simp only [List.getElem?_toArray, List.getElem?_cons_succ, List.getElem?_cons_zero] at hc8
  have hR5 : ((w4.setCell ⟨w3.heap.size, 8, none⟩ (.slice (some ⟨w4.heap.size, 0, none⟩) 1 1)).alloc (.cells #[.string (mk f), .int .i64 t, .int .i64 c] 23)).heap[w3.heap.size]? = some (.cells #[.int .i64 i2, .bool true, .int .i64 0, .bool false, .bool false, .bool false, .bool true, .int .i64 0, .slice (some ⟨w4.heap.size, 0, none⟩) 1 1, .slice ba 0 ea, .slice bsv 0 es, .slice bd 0 ed, .bool true, .int .i64 1232] 27 (0, 0)) := heap_old (heap_setCell_same w4 _ 8 _ _ _ hRw) _
  have hM5 : ((w4.setCell ⟨w3.heap.size, 8, none⟩ (.slice (some ⟨w4.heap.size, 0, none⟩) 1 1)).alloc (.cells #[.string (mk f), .int .i64 t, .int .i64 c] 23)).heap[w2.heap.size]? = some (.cells #[.int .i64 i2, .bool false, .int .i64 0, .bool false, .bool false, .bool false, .bool false, .int .i64 0, .slice aq 1 cq, .slice aa 0 ca, .slice asv 0 cs, .slice ad 0 cd, .bool true, .int .i64 1232] 27 (0, 0)) := heap_old ((heap_setCell_other w4 ⟨w3.heap.size, 8, none⟩ w2.heap.size (.slice (some ⟨w4.heap.size, 0, none⟩) 1 1) (show w2.heap.size ≠ w3.heap.size by omega)).trans hMw) _
  have hQ5 : ((w4.setCell ⟨w3.heap.size, 8, none⟩ (.slice (some ⟨w4.heap.size, 0, none⟩) 1 1)).alloc (.cells #[.string (mk f), .int .i64 t, .int .i64 c] 23)).heap[w4.heap.size]? = some (.cells #[.string (mk f), .int .i64 t, .int .i64 c] 23 (0, 0)) := by
    have h := World.alloc_heap_new (w4.setCell ⟨w3.heap.size, 8, none⟩ (.slice (some ⟨w4.heap.size, 0, none⟩) 1 1)) (.cells #[.string (mk f), .int .i64 t, .int .i64 c] 23)
    have hs : (w4.setCell ⟨w3.heap.size, 8, none⟩ (.slice (some ⟨w4.heap.size, 0, none⟩) 1 1)).heap.size = w4.heap.size := by simp
    rw [hs] at h
    exact h
  have hb6 : Below w2.heap.size w2 ((w4.setCell ⟨w3.heap.size, 8, none⟩ (.slice (some ⟨w4.heap.size, 0, none⟩) 1 1)).alloc (.cells #[.string (mk f), .int .i64 t, .int .i64 c] 23)) := (hbw4.setCell (p := ⟨w3.heap.size, 8, none⟩) (show w2.heap.size ≤ w3.heap.size by omega) (.slice (some ⟨w4.heap.size, 0, none⟩) 1 1)).alloc (by simp; omega) _
  have HM5 := Go.Lib.hid hM5
  have HR5 := Go.Lib.hid hR5
  have HQ5 := Go.Lib.hid hQ5
  have HB6 := Go.Lib.hid hb6
  clear hM5 hR5 hQ5 hb6
  clear hMw hRw hR4 hbw4
  go_wp2_with fail
  refine (HRN.out _).mono ?_; rintro e _ ⟨rfl, rfl⟩
  generalize (w4.setCell ⟨w3.heap.size, 8, none⟩ (.slice (some ⟨w4.heap.size, 0, none⟩) 1 1)).alloc (.cells #[.string (mk f), .int .i64 t, .int .i64 c] 23) = X at *
  clear hc8 hf8
  have w1 : IntKind.i64.wrap (c + 1) = c + 1 := wrapi (by omega) (by omega)
  have hc0 := cell_of_heap HQ5.out 2
  have hf0 := frozen_of_row _ w4.heap.size 2 _ _ HQ5.out
  have hr8 := cell_of_heap HR5.out 8
  simp only [List.getElem?_toArray, List.getElem?_cons_succ, List.getElem?_cons_zero] at hc0 hr8
  have HR6 : Hid ((X.setCell ⟨w4.heap.size, 2, none⟩ (.int .i64 (c + 1))).heap[w3.heap.size]? = some (.cells #[.int .i64 i2, .bool true, .int .i64 0, .bool false, .bool false, .bool false, .bool true, .int .i64 0, .slice (some ⟨w4.heap.size, 0, none⟩) 1 1, .slice ba 0 ea, .slice bsv 0 es, .slice bd 0 ed, .bool true, .int .i64 1232] 27 (0, 0))) := Go.Lib.hid ((heap_setCell_other _ ⟨w4.heap.size, 2, none⟩ w3.heap.size _ (show w3.heap.size ≠ w4.heap.size by omega)).trans HR5.out)
  have HQ6 : Hid ((X.setCell ⟨w4.heap.size, 2, none⟩ (.int .i64 (c + 1))).heap[w4.heap.size]? = some (.cells #[.string (mk f), .int .i64 t, .int .i64 (c + 1)] 23 (0, 0))) := Go.Lib.hid (heap_setCell_same _ _ 2 _ _ _ HQ5.out)
  have HM6 : Hid ((X.setCell ⟨w4.heap.size, 2, none⟩ (.int .i64 (c + 1))).heap[w2.heap.size]? = some (.cells #[.int .i64 i2, .bool false, .int .i64 0, .bool false, .bool false, .bool false, .bool false, .int .i64 0, .slice aq 1 cq, .slice aa 0 ca, .slice asv 0 cs, .slice ad 0 cd, .bool true, .int .i64 1232] 27 (0, 0))) := Go.Lib.hid ((heap_setCell_other _ ⟨w4.heap.size, 2, none⟩ w2.heap.size _ (show w2.heap.size ≠ w4.heap.size by omega)).trans HM5.out)
  have HB7 : Hid (Below w2.heap.size w2 (X.setCell ⟨w4.heap.size, 2, none⟩ (.int .i64 (c + 1)))) := Go.Lib.hid (HB6.out.setCell (p := ⟨w4.heap.size, 2, none⟩) (show w2.heap.size ≤ w4.heap.size by omega) _)
  have HQS := Go.Lib.hid (slc_row3 (X.setCell ⟨w4.heap.size, 2, none⟩ (.int .i64 (c + 1))) w4.heap.size f t (c + 1) (0, 0) HQ6.out)
  have HQOK := Go.Lib.hid (show ∀ x ∈ ([⟨f, t, c + 1⟩] : List Qn), x.name.length ≤ maxLen from fun x hx => by simp at hx; first | (subst hx; exact HFL.out) | (rcases hx with rfl | rfl <;> exact HFL.out))
  -- the answer
  have hans := Answers_any (askN i2 ⟨n, t, c⟩) ⟨i2, true, 0, false, false, false, true, 0, [⟨f, t, c + 1⟩], [], [], [], true, 1232⟩ _ _ _ _ _ _ _ _ (X.setCell ⟨w4.heap.size, 2, none⟩ (.int .i64 (c + 1))) (HML.out.below HB7.out (Nat.le_refl _)) ⟨HQS.out, slC_none HLA.out, slC_none HLS.out, slC_none HLD.out⟩ (by intro x hx; simp [askN] at hx; subst hx; exact HNL.out) HQOK.out
  rw [show answersN (askN i2 ⟨n, t, c⟩) ⟨i2, true, 0, false, false, false, true, 0, [⟨f, t, c + 1⟩], [], [], [], true, 1232⟩ = false from ans3] at hans
  have hM9 := HM6.out
  have hR9 := HR6.out
  have hg := cell_of_heap hM9
  have m0 := hg 0
  have m1 := hg 1
  have m2 := hg 2
  have m3 := hg 3
  have m4 := hg 4
  have m5 := hg 5
  have m6 := hg 6
  have m7 := hg 7
  have m8 := hg 8
  have m9 := hg 9
  have m10 := hg 10
  have m11 := hg 11
  have m12 := hg 12
  have m13 := hg 13
  simp only [List.getElem?_toArray, List.getElem?_cons_succ, List.getElem?_cons_zero] at m0 m1 m2 m3 m4 m5 m6 m7 m8 m9 m10 m11 m12 m13
  clear hg
  have hg := cell_of_heap hR9
  have r0 := hg 0
  have r1 := hg 1
  have r2 := hg 2
  have r3 := hg 3
  have r4 := hg 4
  have r5 := hg 5
  have r6 := hg 6
  have r7 := hg 7
  have r8 := hg 8
  have r9 := hg 9
  have r10 := hg 10
  have r11 := hg 11
  have r12 := hg 12
  have r13 := hg 13
  simp only [List.getElem?_toArray, List.getElem?_cons_succ, List.getElem?_cons_zero] at r0 r1 r2 r3 r4 r5 r6 r7 r8 r9 r10 r11 r12 r13
  clear hg
  have hby := HB2.out.trans (HB7.out.mono HB2.out.size)
  have HANS := Go.Lib.hid hans
  have HBY := Go.Lib.hid hby
  clear hans hby
  clear hM9 hR9
  go_wp2_with fail
  refine HANS.out.mono ?_; rintro e wz ⟨rfl, hx⟩
  have hbz := HBY.out.trans (hx.mono HBY.out.size)
  have HBZ := Go.Lib.hid hbz
  clear hbz
  clear hx m0 m1 m2 m3 m4 m5 m6 m7 m8 m9 m10 m11 m12 m13 r0 r1 r2 r3 r4 r5 r6 r7 r8 r9 r10 r11 r12 r13
  go_wp2_with fail
  refine (HAW.out _).mono ?_; rintro e wy ⟨rfl, hx⟩
  have HXX := Go.Lib.hid hx
  clear hx
  go_wp2_with fail
  go_ret
  exact ⟨rfl, HBZ.out.trans (HXX.out.mono HBZ.out.size)⟩

set_option maxRecDepth 100000 in
set_option maxHeartbeats 16000000 in
theorem k4 (id t c k i2 : Int) (n f : List UInt8) (w : World) (hn : n.length ≤ maxLen) (h0 : n.length ≤ 300) (h1 : 0 ≤ t) (h2 : t ≤ 60000) (h3 : 0 ≤ c) (h4 : c ≤ 60000) (hi0 : 0 ≤ i2) (hi1 : i2 < 65536) (HNL : Hid (n.length ≤ maxLen)) (HFL : Hid (f.length ≤ maxLen)) (HFL3 : Hid (f.length ≤ 300)) (HSAME : Hid (Nm.sameN n f = true)) (HS7 : Hid (Nm.sameN n ([1, 113] ++ f) = false)) (HAW : Hid (∀ W, Calls Try.prog 10 #[] W fun e w' => e = .returned (.bool true) ∧ Below W.heap.size W w')) (HV : Hid (∀ W, Calls Try.prog 23 #[.string (mk n)] W fun e w' => e = .returned (.bool true) ∧ Below W.heap.size W w')) (HASK : Hid (∀ W, Calls Try.prog 12 #[.int .i64 id, .agg #[.string (mk n), .int .i64 t, .int .i64 c]] W (RetM W (askN i2 ⟨n, t, c⟩)))) (HFO : Hid (∀ W, Calls Try.prog 24 #[.string (mk n)] W fun e w' => e = .returned (.string (mk f)) ∧ Below W.heap.size W w')) (HRN : Hid (∀ W, Calls Try.prog 25 #[.int .i64 k, .int .i64 8] W fun e w' => e = .returned (.int .i64 4) ∧ W = w')) :
    Calls Try.prog 4 #[.int .i64 id, .string (mk n), .int .i64 t, .int .i64 c, .int .i64 k] w fun e w' => e = .returned (.bool true) ∧ Below w.heap.size w w' := by
  obtain ⟨fs, hu⟩ := undMsg
  have HU := Go.Lib.hid hu
  clear hu
  have HB := Go.Lib.hid (Below.refl w.heap.size w)
  have hnm : (mk n).size = n.length := size_mk n
  unfold maxLen at hn
  have e1 : ¬ (300 : Int) < (n.length : Int) := by omega
  go_enter Try.func4, Try.ntmps4
  go_wp2_with fail
  refine (HV.out _).mono ?_; rintro e w1 ⟨rfl, hx⟩
  have hb1 := HB.out.trans (hx.mono HB.out.size)
  clear hx HB
  have HB1 := Go.Lib.hid hb1
  clear hb1
  go_wp2_with fail
  refine (HASK.out _).mono ?_; rintro e w2 ⟨f1, f2, f3, f4, rfl, htm, hx⟩
  obtain ⟨aq, cq, aa, ca, asv, cs, ad, cd, rfl, rfl, rfl, rfl⟩ := htm.places
  have htm : MsgT w2 (askN i2 ⟨n, t, c⟩) (.slice aq 1 cq) (.slice aa 0 ca) (.slice asv 0 cs) (.slice ad 0 cd) := htm
  have hb2 := HB1.out.trans (hx.mono HB1.out.size)
  have hz2 := hb2.size
  have hrep := Reply_any (askN i2 ⟨n, t, c⟩) _ _ _ _ 0 (.slice none 0 0) (.slice none 0 0) [] [] (w2.alloc (.cells #[.int .i64 i2, .bool false, .int .i64 0, .bool false, .bool false, .bool false, .bool false, .int .i64 0, .slice aq 1 cq, .slice aa 0 ca, .slice asv 0 cs, .slice ad 0 cd, .bool true, .int .i64 1232] 27)) (htm.lies.below ((Below.refl _ _).alloc (Nat.le_refl _) _) (Nat.le_refl _)) (SlC.nil _ _) (SlC.nil _ _) (by simp [askN]) (by decide) (by decide)
  have hone : (#[.int .i64 i2, .bool false, .int .i64 0, .bool false, .bool false, .bool false, .bool false, .int .i64 0, .slice aq 1 cq, .slice aa 0 ca, .slice asv 0 cs, .slice ad 0 cd, .bool true, .int .i64 1232] : Array Value).all (·.oneCell') = true := by simp [Value.oneCell']
  have hM2 : (w2.alloc (.cells #[.int .i64 i2, .bool false, .int .i64 0, .bool false, .bool false, .bool false, .bool false, .int .i64 0, .slice aq 1 cq, .slice aa 0 ca, .slice asv 0 cs, .slice ad 0 cd, .bool true, .int .i64 1232] 27)).heap[w2.heap.size]? = some (.cells #[.int .i64 i2, .bool false, .int .i64 0, .bool false, .bool false, .bool false, .bool false, .int .i64 0, .slice aq 1 cq, .slice aa 0 ca, .slice asv 0 cs, .slice ad 0 cd, .bool true, .int .i64 1232] 27 (0, 0)) := World.alloc_heap_new _ _
  have hbm : Below w2.heap.size w2 (w2.alloc (.cells #[.int .i64 i2, .bool false, .int .i64 0, .bool false, .bool false, .bool false, .bool false, .int .i64 0, .slice aq 1 cq, .slice aa 0 ca, .slice asv 0 cs, .slice ad 0 cd, .bool true, .int .i64 1232] 27)) := (Below.refl _ _).alloc (Nat.le_refl _) _
  have hml := htm.lies
  clear hx htm
  have HB2 := Go.Lib.hid hb2
  have HREP := Go.Lib.hid hrep
  have HONE := Go.Lib.hid hone
  have HM2 := Go.Lib.hid hM2
  have HBM := Go.Lib.hid hbm
  have HML := Go.Lib.hid hml
  clear hb2 hrep hone hM2 hbm hml
  go_wp2_with (first | (refine wpList_store_row rfl 27 (.tmp 11) (.tmp 44) rfl w2.heap.size #[.int .i64 i2, .bool false, .int .i64 0, .bool false, .bool false, .bool false, .bool false, .int .i64 0, .slice aq 1 cq, .slice aa 0 ca, .slice asv 0 cs, .slice ad 0 cd, .bool true, .int .i64 1232] rfl rfl _ _ (World.alloc_heap_new _ _) infoMsg rfl HONE.out ?_; rw [World.setRow_alloc_new]) | (refine wpList_load_row rfl 27 (.tmp 11) rfl w2.heap.size rfl 27 #[.int .i64 i2, .bool false, .int .i64 0, .bool false, .bool false, .bool false, .bool false, .int .i64 0, .slice aq 1 cq, .slice aa 0 ca, .slice asv 0 cs, .slice ad 0 cd, .bool true, .int .i64 1232] (0, 0) _ HM2.out HU.out rfl infoMsg ?_))
  refine HREP.out.mono ?_; rintro e w3 ⟨f1, f2, f3, f4, rfl, htr, hx⟩
  obtain ⟨bq, eq, ba, ea, bsv, es, bd, ed, rfl, rfl, rfl, rfl⟩ := htr.places
  have htr : MsgT w3 (replyN (askN i2 ⟨n, t, c⟩) 0 [] []) (.slice bq 1 eq) (.slice ba 0 ea) (.slice bsv 0 es) (.slice bd 0 ed) := htr
  have hla : SlC w3 5 (.slice ba 0 ea) 0 [] := htr.an.1
  have hls : SlC w3 5 (.slice bsv 0 es) 0 [] := htr.sv.1
  have hld : SlC w3 5 (.slice bd 0 ed) 0 [] := htr.ad.1
  have hbm3 := HBM.out.trans (hx.mono HBM.out.size)
  have hM3 := heap_old ((hx.block _ (Array.getElem?_eq_some_iff.1 HM2.out).1).trans HM2.out) (.cells #[.int .i64 i2, .bool true, .int .i64 0, .bool false, .bool false, .bool false, .bool true, .int .i64 0, .slice bq 1 eq, .slice ba 0 ea, .slice bsv 0 es, .slice bd 0 ed, .bool true, .int .i64 1232] 27)
  have hltm : w2.heap.size < w3.heap.size := (Array.getElem?_eq_some_iff.1 ((hx.block _ (Array.getElem?_eq_some_iff.1 HM2.out).1).trans HM2.out)).1
  have hR3 : (w3.alloc (.cells #[.int .i64 i2, .bool true, .int .i64 0, .bool false, .bool false, .bool false, .bool true, .int .i64 0, .slice bq 1 eq, .slice ba 0 ea, .slice bsv 0 es, .slice bd 0 ed, .bool true, .int .i64 1232] 27)).heap[w3.heap.size]? = some (.cells #[.int .i64 i2, .bool true, .int .i64 0, .bool false, .bool false, .bool false, .bool true, .int .i64 0, .slice bq 1 eq, .slice ba 0 ea, .slice bsv 0 es, .slice bd 0 ed, .bool true, .int .i64 1232] 27 (0, 0)) := World.alloc_heap_new _ _
  have hbm4 : Below w2.heap.size w2 (w3.alloc (.cells #[.int .i64 i2, .bool true, .int .i64 0, .bool false, .bool false, .bool false, .bool true, .int .i64 0, .slice bq 1 eq, .slice ba 0 ea, .slice bsv 0 es, .slice bd 0 ed, .bool true, .int .i64 1232] 27)) := hbm3.alloc hbm3.size _
  have hone2 : (#[.int .i64 i2, .bool true, .int .i64 0, .bool false, .bool false, .bool false, .bool true, .int .i64 0, .slice bq 1 eq, .slice ba 0 ea, .slice bsv 0 es, .slice bd 0 ed, .bool true, .int .i64 1232] : Array Value).all (·.oneCell') = true := by simp [Value.oneCell']
  clear hx htr hbm3 HBM HM2 HREP
  have hg := cell_of_heap hR3
  have r0 := hg 0
  have r1 := hg 1
  have r2 := hg 2
  have r3 := hg 3
  have r4 := hg 4
  have r5 := hg 5
  have r6 := hg 6
  have r7 := hg 7
  have r8 := hg 8
  simp only [List.getElem?_toArray, List.getElem?_cons_succ, List.getElem?_cons_zero] at r0 r1 r2 r3 r4 r5 r6 r7 r8
  clear hg
  have HM3 := Go.Lib.hid hM3
  have HR3 := Go.Lib.hid hR3
  have HBM4 := Go.Lib.hid hbm4
  have HONE2 := Go.Lib.hid hone2
  have HLA := Go.Lib.hid hla
  have HLS := Go.Lib.hid hls
  have HLD := Go.Lib.hid hld
  clear hM3 hR3 hbm4 hone2 hla hls hld
  go_wp2_with (first | (refine wpList_store_row rfl 27 (.tmp 12) (.tmp 46) rfl w3.heap.size #[.int .i64 i2, .bool true, .int .i64 0, .bool false, .bool false, .bool false, .bool true, .int .i64 0, .slice bq 1 eq, .slice ba 0 ea, .slice bsv 0 es, .slice bd 0 ed, .bool true, .int .i64 1232] rfl rfl _ _ (World.alloc_heap_new _ _) infoMsg rfl HONE2.out ?_; rw [World.setRow_alloc_new]))
  refine (HFO.out _).mono ?_; rintro e w4 ⟨rfl, hx⟩
  have hMw := (hx.block _ (Array.getElem?_eq_some_iff.1 HM3.out).1).trans HM3.out
  have hRw := (hx.block _ (Array.getElem?_eq_some_iff.1 HR3.out).1).trans HR3.out
  have hltr : w3.heap.size < w4.heap.size := (Array.getElem?_eq_some_iff.1 hRw).1
  have hbw4 := HBM4.out.trans (hx.mono HBM4.out.size)
  have hzw4 := hbw4.size
  clear hx HM3 HR3 HBM4 r0 r1 r2 r3 r4 r5 r6 r7 r8
  have hR4 := heap_old hRw (.cells #[.string (mk f), .int .i64 t, .int .i64 c] 23)
  have hc8 := cell_of_heap hR4 8
  have hf8 := frozen_of_row _ w3.heap.size 8 _ _ hR4
  simp only [List.getElem?_toArray, List.getElem?_cons_succ, List.getElem?_cons_zero] at hc8
  have hR5 : ((w4.setCell ⟨w3.heap.size, 8, none⟩ (.slice (some ⟨w4.heap.size, 0, none⟩) 1 1)).alloc (.cells #[.string (mk f), .int .i64 t, .int .i64 c] 23)).heap[w3.heap.size]? = some (.cells #[.int .i64 i2, .bool true, .int .i64 0, .bool false, .bool false, .bool false, .bool true, .int .i64 0, .slice (some ⟨w4.heap.size, 0, none⟩) 1 1, .slice ba 0 ea, .slice bsv 0 es, .slice bd 0 ed, .bool true, .int .i64 1232] 27 (0, 0)) := heap_old (heap_setCell_same w4 _ 8 _ _ _ hRw) _
  have hM5 : ((w4.setCell ⟨w3.heap.size, 8, none⟩ (.slice (some ⟨w4.heap.size, 0, none⟩) 1 1)).alloc (.cells #[.string (mk f), .int .i64 t, .int .i64 c] 23)).heap[w2.heap.size]? = some (.cells #[.int .i64 i2, .bool false, .int .i64 0, .bool false, .bool false, .bool false, .bool false, .int .i64 0, .slice aq 1 cq, .slice aa 0 ca, .slice asv 0 cs, .slice ad 0 cd, .bool true, .int .i64 1232] 27 (0, 0)) := heap_old ((heap_setCell_other w4 ⟨w3.heap.size, 8, none⟩ w2.heap.size (.slice (some ⟨w4.heap.size, 0, none⟩) 1 1) (show w2.heap.size ≠ w3.heap.size by omega)).trans hMw) _
  have hQ5 : ((w4.setCell ⟨w3.heap.size, 8, none⟩ (.slice (some ⟨w4.heap.size, 0, none⟩) 1 1)).alloc (.cells #[.string (mk f), .int .i64 t, .int .i64 c] 23)).heap[w4.heap.size]? = some (.cells #[.string (mk f), .int .i64 t, .int .i64 c] 23 (0, 0)) := by
    have h := World.alloc_heap_new (w4.setCell ⟨w3.heap.size, 8, none⟩ (.slice (some ⟨w4.heap.size, 0, none⟩) 1 1)) (.cells #[.string (mk f), .int .i64 t, .int .i64 c] 23)
    have hs : (w4.setCell ⟨w3.heap.size, 8, none⟩ (.slice (some ⟨w4.heap.size, 0, none⟩) 1 1)).heap.size = w4.heap.size := by simp
    rw [hs] at h
    exact h
  have hb6 : Below w2.heap.size w2 ((w4.setCell ⟨w3.heap.size, 8, none⟩ (.slice (some ⟨w4.heap.size, 0, none⟩) 1 1)).alloc (.cells #[.string (mk f), .int .i64 t, .int .i64 c] 23)) := (hbw4.setCell (p := ⟨w3.heap.size, 8, none⟩) (show w2.heap.size ≤ w3.heap.size by omega) (.slice (some ⟨w4.heap.size, 0, none⟩) 1 1)).alloc (by simp; omega) _
  have HM5 := Go.Lib.hid hM5
  have HR5 := Go.Lib.hid hR5
  have HQ5 := Go.Lib.hid hQ5
  have HB6 := Go.Lib.hid hb6
  clear hM5 hR5 hQ5 hb6
  clear hMw hRw hR4 hbw4
  go_wp2_with fail
  refine (HRN.out _).mono ?_; rintro e _ ⟨rfl, rfl⟩
  generalize (w4.setCell ⟨w3.heap.size, 8, none⟩ (.slice (some ⟨w4.heap.size, 0, none⟩) 1 1)).alloc (.cells #[.string (mk f), .int .i64 t, .int .i64 c] 23) = X at *
  clear hc8 hf8
  have hr8 := cell_of_heap HR5.out 8
  have hq0 := cell_of_heap HQ5.out 0
  have hq1 := cell_of_heap HQ5.out 1
  have hq2 := cell_of_heap HQ5.out 2
  simp only [List.getElem?_toArray, List.getElem?_cons_succ, List.getElem?_cons_zero] at hr8 hq0 hq1 hq2
  have hlR := (Array.getElem?_eq_some_iff.1 HR5.out).1
  have hlQ := (Array.getElem?_eq_some_iff.1 HQ5.out).1
  have R8 := BelowC.cell (W := X) hr8 hlR
  have Q0 := BelowC.cell (W := X) hq0 hlQ
  have Q1 := BelowC.cell (W := X) hq1 hlQ
  have Q2 := BelowC.cell (W := X) hq2 hlQ
  have hne : Nonempty (Subtype (Below X.heap.size X)) := ⟨⟨X, Below.refl _ _⟩⟩
  clear hr8 hq0 hq1 hq2
  go_wp2_with fail
  refine Go.Mix.wp_region_mixT (Es := [6, 7]) 9 (Below X.heap.size X) mixed (by kernel_rfl) (Below.refl _ _).drew ?_
  iterate 6 (refine Go.Mix.mixT_step rfl (fun K hK => ?_); have HKK := Go.Lib.hid hK; clear hK; go_simp; refine HKK.out _ _ ?_; clear HKK K)
  refine Go.Mix.mixT_eff rfl (fun K hK => ?_)
  have HKK := Go.Lib.hid hK
  clear hK
  go_simp
  refine HKK.out _ _ ((Below.refl _ X).drew.alloc (Nat.le_refl _) _) ?_
  clear HKK K
  have hQ6 := heap_old (W := X) HQ5.out (.cells #[.string (mk f), .int .i64 t, .int .i64 c] 23)
  have hnc := new_cells X [.string (mk f), .int .i64 t, .int .i64 c] 23
  refine mixT_appG eiQn (.tmp 92) (.tmp 97) rfl rfl rfl (b := ⟨w4.heap.size, 0, none⟩) (n := 1) (cap := 1) (c := 1) (ad := ⟨X.heap.size, 0, none⟩) (olds := [.string (mk f), .int .i64 t, .int .i64 c]) (news := [.string (mk f), .int .i64 t, .int .i64 c]) rfl rfl rfl (fun j u hj => by rw [Addr.add_lit, Nat.zero_add]; exact (cell_of_heap hQ6 j).trans (by simpa using hj)) rfl hnc (by decide) (by decide) (by decide) (fun v5 w5 hown5 hg5 => ?_)
  obtain ⟨g5, c5, rfl⟩ := ownsRow_succ hown5
  have hb5 : Below X.heap.size X w5 := ((Below.refl _ X).drew.alloc (Nat.le_refl _) _).trans (⟨hg5.os, hg5.tape, hg5.output, hg5.size, fun k hk => hg5.block k (by have : X.drew.heap.size = X.heap.size := rfl; simp; omega) (by simp)⟩)
  refine ⟨hb5, ?_⟩
  have hR6 := (hb5.block _ hlR).trans HR5.out
  have hM6 := (hb5.block _ (Array.getElem?_eq_some_iff.1 HM5.out).1).trans HM5.out
  have hc0 := cell_of_heap hR6 8
  have hf0 := frozen_of_row _ w3.heap.size 8 _ _ hR6
  simp only [List.getElem?_toArray, List.getElem?_cons_succ, List.getElem?_cons_zero] at hc0
  have hst := SlT.of_owns hown5
  have HR6 : Hid ((w5.setCell ⟨w3.heap.size, 8, none⟩ (.slice (some ⟨g5, 0, none⟩) (1 + 1) c5)).heap[w3.heap.size]? = some (.cells #[.int .i64 i2, .bool true, .int .i64 0, .bool false, .bool false, .bool false, .bool true, .int .i64 0, .slice (some ⟨g5, 0, none⟩) (1 + 1) c5, .slice ba 0 ea, .slice bsv 0 es, .slice bd 0 ed, .bool true, .int .i64 1232] 27 (0, 0))) := Go.Lib.hid (heap_setCell_same _ _ 8 _ _ _ hR6)
  have HM6 : Hid ((w5.setCell ⟨w3.heap.size, 8, none⟩ (.slice (some ⟨g5, 0, none⟩) (1 + 1) c5)).heap[w2.heap.size]? = some (.cells #[.int .i64 i2, .bool false, .int .i64 0, .bool false, .bool false, .bool false, .bool false, .int .i64 0, .slice aq 1 cq, .slice aa 0 ca, .slice asv 0 cs, .slice ad 0 cd, .bool true, .int .i64 1232] 27 (0, 0))) := Go.Lib.hid ((heap_setCell_other _ ⟨w3.heap.size, 8, none⟩ w2.heap.size _ (show w2.heap.size ≠ w3.heap.size by omega)).trans hM6)
  have HQS := Go.Lib.hid (show Qns (w5.setCell ⟨w3.heap.size, 8, none⟩ (.slice (some ⟨g5, 0, none⟩) (1 + 1) c5)) (.slice (some ⟨g5, 0, none⟩) (1 + 1) c5) [⟨f, t, c⟩, ⟨f, t, c⟩] from (hst.setCell (i := 8) (u := .slice (some ⟨g5, 0, none⟩) (1 + 1) c5) hR6 (by decide)).1)
  have HB7 : Hid (Below w2.heap.size w2 (w5.setCell ⟨w3.heap.size, 8, none⟩ (.slice (some ⟨g5, 0, none⟩) (1 + 1) c5))) := Go.Lib.hid ((HB6.out.trans (hb5.mono HB6.out.size)).setCell (p := ⟨w3.heap.size, 8, none⟩) (show w2.heap.size ≤ w3.heap.size by omega) _)
  clear hown5 hg5 hb5 hR6 hM6 hst R8 Q0 Q1 Q2 hnc hQ6
  iterate 1 (refine Go.Mix.mixT_step rfl (fun K hK => ?_); have HKK := Go.Lib.hid hK; clear hK; go_simp; refine HKK.out _ _ ?_; clear HKK K)
  refine Go.Mix.mixT_last rfl (fun K hK => ?_)
  have HKK := Go.Lib.hid hK
  clear hK
  go_simp
  refine HKK.out _ _ ?_
  clear HKK K hc0 hf0
  have HQOK := Go.Lib.hid (show ∀ x ∈ ([⟨f, t, c⟩, ⟨f, t, c⟩] : List Qn), x.name.length ≤ maxLen from fun x hx => by simp at hx; first | (subst hx; exact HFL.out) | (rcases hx with rfl | rfl <;> exact HFL.out))
  -- the answer
  have hans := Answers_any (askN i2 ⟨n, t, c⟩) ⟨i2, true, 0, false, false, false, true, 0, [⟨f, t, c⟩, ⟨f, t, c⟩], [], [], [], true, 1232⟩ _ _ _ _ _ _ _ _ (w5.setCell ⟨w3.heap.size, 8, none⟩ (.slice (some ⟨g5, 0, none⟩) (1 + 1) c5)) (HML.out.below HB7.out (Nat.le_refl _)) ⟨HQS.out, slC_none HLA.out, slC_none HLS.out, slC_none HLD.out⟩ (by intro x hx; simp [askN] at hx; subst hx; exact HNL.out) HQOK.out
  rw [show answersN (askN i2 ⟨n, t, c⟩) ⟨i2, true, 0, false, false, false, true, 0, [⟨f, t, c⟩, ⟨f, t, c⟩], [], [], [], true, 1232⟩ = false from ans4] at hans
  have hM9 := HM6.out
  have hR9 := HR6.out
  have hg := cell_of_heap hM9
  have m0 := hg 0
  have m1 := hg 1
  have m2 := hg 2
  have m3 := hg 3
  have m4 := hg 4
  have m5 := hg 5
  have m6 := hg 6
  have m7 := hg 7
  have m8 := hg 8
  have m9 := hg 9
  have m10 := hg 10
  have m11 := hg 11
  have m12 := hg 12
  have m13 := hg 13
  simp only [List.getElem?_toArray, List.getElem?_cons_succ, List.getElem?_cons_zero] at m0 m1 m2 m3 m4 m5 m6 m7 m8 m9 m10 m11 m12 m13
  clear hg
  have hg := cell_of_heap hR9
  have r0 := hg 0
  have r1 := hg 1
  have r2 := hg 2
  have r3 := hg 3
  have r4 := hg 4
  have r5 := hg 5
  have r6 := hg 6
  have r7 := hg 7
  have r8 := hg 8
  have r9 := hg 9
  have r10 := hg 10
  have r11 := hg 11
  have r12 := hg 12
  have r13 := hg 13
  simp only [List.getElem?_toArray, List.getElem?_cons_succ, List.getElem?_cons_zero] at r0 r1 r2 r3 r4 r5 r6 r7 r8 r9 r10 r11 r12 r13
  clear hg
  have hby := HB2.out.trans (HB7.out.mono HB2.out.size)
  have HANS := Go.Lib.hid hans
  have HBY := Go.Lib.hid hby
  clear hans hby
  clear hM9 hR9
  go_wp2_with fail
  refine HANS.out.mono ?_; rintro e wz ⟨rfl, hx⟩
  have hbz := HBY.out.trans (hx.mono HBY.out.size)
  have HBZ := Go.Lib.hid hbz
  clear hbz
  clear hx m0 m1 m2 m3 m4 m5 m6 m7 m8 m9 m10 m11 m12 m13 r0 r1 r2 r3 r4 r5 r6 r7 r8 r9 r10 r11 r12 r13
  go_wp2_with fail
  refine (HAW.out _).mono ?_; rintro e wy ⟨rfl, hx⟩
  have HXX := Go.Lib.hid hx
  clear hx
  go_wp2_with fail
  go_ret
  exact ⟨rfl, HBZ.out.trans (HXX.out.mono HBZ.out.size)⟩

set_option maxRecDepth 100000 in
set_option maxHeartbeats 16000000 in
theorem k5 (id t c k i2 : Int) (n f : List UInt8) (w : World) (hn : n.length ≤ maxLen) (h0 : n.length ≤ 300) (h1 : 0 ≤ t) (h2 : t ≤ 60000) (h3 : 0 ≤ c) (h4 : c ≤ 60000) (hi0 : 0 ≤ i2) (hi1 : i2 < 65536) (HNL : Hid (n.length ≤ maxLen)) (HFL : Hid (f.length ≤ maxLen)) (HFL3 : Hid (f.length ≤ 300)) (HSAME : Hid (Nm.sameN n f = true)) (HS7 : Hid (Nm.sameN n ([1, 113] ++ f) = false)) (HAW : Hid (∀ W, Calls Try.prog 10 #[] W fun e w' => e = .returned (.bool true) ∧ Below W.heap.size W w')) (HV : Hid (∀ W, Calls Try.prog 23 #[.string (mk n)] W fun e w' => e = .returned (.bool true) ∧ Below W.heap.size W w')) (HASK : Hid (∀ W, Calls Try.prog 12 #[.int .i64 id, .agg #[.string (mk n), .int .i64 t, .int .i64 c]] W (RetM W (askN i2 ⟨n, t, c⟩)))) (HFO : Hid (∀ W, Calls Try.prog 24 #[.string (mk n)] W fun e w' => e = .returned (.string (mk f)) ∧ Below W.heap.size W w')) (HRN : Hid (∀ W, Calls Try.prog 25 #[.int .i64 k, .int .i64 8] W fun e w' => e = .returned (.int .i64 5) ∧ W = w')) :
    Calls Try.prog 4 #[.int .i64 id, .string (mk n), .int .i64 t, .int .i64 c, .int .i64 k] w fun e w' => e = .returned (.bool true) ∧ Below w.heap.size w w' := by
  obtain ⟨fs, hu⟩ := undMsg
  have HU := Go.Lib.hid hu
  clear hu
  have HB := Go.Lib.hid (Below.refl w.heap.size w)
  have hnm : (mk n).size = n.length := size_mk n
  unfold maxLen at hn
  have e1 : ¬ (300 : Int) < (n.length : Int) := by omega
  go_enter Try.func4, Try.ntmps4
  go_wp2_with fail
  refine (HV.out _).mono ?_; rintro e w1 ⟨rfl, hx⟩
  have hb1 := HB.out.trans (hx.mono HB.out.size)
  clear hx HB
  have HB1 := Go.Lib.hid hb1
  clear hb1
  go_wp2_with fail
  refine (HASK.out _).mono ?_; rintro e w2 ⟨f1, f2, f3, f4, rfl, htm, hx⟩
  obtain ⟨aq, cq, aa, ca, asv, cs, ad, cd, rfl, rfl, rfl, rfl⟩ := htm.places
  have htm : MsgT w2 (askN i2 ⟨n, t, c⟩) (.slice aq 1 cq) (.slice aa 0 ca) (.slice asv 0 cs) (.slice ad 0 cd) := htm
  have hb2 := HB1.out.trans (hx.mono HB1.out.size)
  have hz2 := hb2.size
  have hrep := Reply_any (askN i2 ⟨n, t, c⟩) _ _ _ _ 0 (.slice none 0 0) (.slice none 0 0) [] [] (w2.alloc (.cells #[.int .i64 i2, .bool false, .int .i64 0, .bool false, .bool false, .bool false, .bool false, .int .i64 0, .slice aq 1 cq, .slice aa 0 ca, .slice asv 0 cs, .slice ad 0 cd, .bool true, .int .i64 1232] 27)) (htm.lies.below ((Below.refl _ _).alloc (Nat.le_refl _) _) (Nat.le_refl _)) (SlC.nil _ _) (SlC.nil _ _) (by simp [askN]) (by decide) (by decide)
  have hone : (#[.int .i64 i2, .bool false, .int .i64 0, .bool false, .bool false, .bool false, .bool false, .int .i64 0, .slice aq 1 cq, .slice aa 0 ca, .slice asv 0 cs, .slice ad 0 cd, .bool true, .int .i64 1232] : Array Value).all (·.oneCell') = true := by simp [Value.oneCell']
  have hM2 : (w2.alloc (.cells #[.int .i64 i2, .bool false, .int .i64 0, .bool false, .bool false, .bool false, .bool false, .int .i64 0, .slice aq 1 cq, .slice aa 0 ca, .slice asv 0 cs, .slice ad 0 cd, .bool true, .int .i64 1232] 27)).heap[w2.heap.size]? = some (.cells #[.int .i64 i2, .bool false, .int .i64 0, .bool false, .bool false, .bool false, .bool false, .int .i64 0, .slice aq 1 cq, .slice aa 0 ca, .slice asv 0 cs, .slice ad 0 cd, .bool true, .int .i64 1232] 27 (0, 0)) := World.alloc_heap_new _ _
  have hbm : Below w2.heap.size w2 (w2.alloc (.cells #[.int .i64 i2, .bool false, .int .i64 0, .bool false, .bool false, .bool false, .bool false, .int .i64 0, .slice aq 1 cq, .slice aa 0 ca, .slice asv 0 cs, .slice ad 0 cd, .bool true, .int .i64 1232] 27)) := (Below.refl _ _).alloc (Nat.le_refl _) _
  have hml := htm.lies
  clear hx htm
  have HB2 := Go.Lib.hid hb2
  have HREP := Go.Lib.hid hrep
  have HONE := Go.Lib.hid hone
  have HM2 := Go.Lib.hid hM2
  have HBM := Go.Lib.hid hbm
  have HML := Go.Lib.hid hml
  clear hb2 hrep hone hM2 hbm hml
  go_wp2_with (first | (refine wpList_store_row rfl 27 (.tmp 11) (.tmp 44) rfl w2.heap.size #[.int .i64 i2, .bool false, .int .i64 0, .bool false, .bool false, .bool false, .bool false, .int .i64 0, .slice aq 1 cq, .slice aa 0 ca, .slice asv 0 cs, .slice ad 0 cd, .bool true, .int .i64 1232] rfl rfl _ _ (World.alloc_heap_new _ _) infoMsg rfl HONE.out ?_; rw [World.setRow_alloc_new]) | (refine wpList_load_row rfl 27 (.tmp 11) rfl w2.heap.size rfl 27 #[.int .i64 i2, .bool false, .int .i64 0, .bool false, .bool false, .bool false, .bool false, .int .i64 0, .slice aq 1 cq, .slice aa 0 ca, .slice asv 0 cs, .slice ad 0 cd, .bool true, .int .i64 1232] (0, 0) _ HM2.out HU.out rfl infoMsg ?_))
  refine HREP.out.mono ?_; rintro e w3 ⟨f1, f2, f3, f4, rfl, htr, hx⟩
  obtain ⟨bq, eq, ba, ea, bsv, es, bd, ed, rfl, rfl, rfl, rfl⟩ := htr.places
  have htr : MsgT w3 (replyN (askN i2 ⟨n, t, c⟩) 0 [] []) (.slice bq 1 eq) (.slice ba 0 ea) (.slice bsv 0 es) (.slice bd 0 ed) := htr
  have hla : SlC w3 5 (.slice ba 0 ea) 0 [] := htr.an.1
  have hls : SlC w3 5 (.slice bsv 0 es) 0 [] := htr.sv.1
  have hld : SlC w3 5 (.slice bd 0 ed) 0 [] := htr.ad.1
  have hbm3 := HBM.out.trans (hx.mono HBM.out.size)
  have hM3 := heap_old ((hx.block _ (Array.getElem?_eq_some_iff.1 HM2.out).1).trans HM2.out) (.cells #[.int .i64 i2, .bool true, .int .i64 0, .bool false, .bool false, .bool false, .bool true, .int .i64 0, .slice bq 1 eq, .slice ba 0 ea, .slice bsv 0 es, .slice bd 0 ed, .bool true, .int .i64 1232] 27)
  have hltm : w2.heap.size < w3.heap.size := (Array.getElem?_eq_some_iff.1 ((hx.block _ (Array.getElem?_eq_some_iff.1 HM2.out).1).trans HM2.out)).1
  have hR3 : (w3.alloc (.cells #[.int .i64 i2, .bool true, .int .i64 0, .bool false, .bool false, .bool false, .bool true, .int .i64 0, .slice bq 1 eq, .slice ba 0 ea, .slice bsv 0 es, .slice bd 0 ed, .bool true, .int .i64 1232] 27)).heap[w3.heap.size]? = some (.cells #[.int .i64 i2, .bool true, .int .i64 0, .bool false, .bool false, .bool false, .bool true, .int .i64 0, .slice bq 1 eq, .slice ba 0 ea, .slice bsv 0 es, .slice bd 0 ed, .bool true, .int .i64 1232] 27 (0, 0)) := World.alloc_heap_new _ _
  have hbm4 : Below w2.heap.size w2 (w3.alloc (.cells #[.int .i64 i2, .bool true, .int .i64 0, .bool false, .bool false, .bool false, .bool true, .int .i64 0, .slice bq 1 eq, .slice ba 0 ea, .slice bsv 0 es, .slice bd 0 ed, .bool true, .int .i64 1232] 27)) := hbm3.alloc hbm3.size _
  have hone2 : (#[.int .i64 i2, .bool true, .int .i64 0, .bool false, .bool false, .bool false, .bool true, .int .i64 0, .slice bq 1 eq, .slice ba 0 ea, .slice bsv 0 es, .slice bd 0 ed, .bool true, .int .i64 1232] : Array Value).all (·.oneCell') = true := by simp [Value.oneCell']
  clear hx htr hbm3 HBM HM2 HREP
  have hg := cell_of_heap hR3
  have r0 := hg 0
  have r1 := hg 1
  have r2 := hg 2
  have r3 := hg 3
  have r4 := hg 4
  have r5 := hg 5
  have r6 := hg 6
  have r7 := hg 7
  have r8 := hg 8
  simp only [List.getElem?_toArray, List.getElem?_cons_succ, List.getElem?_cons_zero] at r0 r1 r2 r3 r4 r5 r6 r7 r8
  clear hg
  have HM3 := Go.Lib.hid hM3
  have HR3 := Go.Lib.hid hR3
  have HBM4 := Go.Lib.hid hbm4
  have HONE2 := Go.Lib.hid hone2
  have HLA := Go.Lib.hid hla
  have HLS := Go.Lib.hid hls
  have HLD := Go.Lib.hid hld
  clear hM3 hR3 hbm4 hone2 hla hls hld
  go_wp2_with (first | (refine wpList_store_row rfl 27 (.tmp 12) (.tmp 46) rfl w3.heap.size #[.int .i64 i2, .bool true, .int .i64 0, .bool false, .bool false, .bool false, .bool true, .int .i64 0, .slice bq 1 eq, .slice ba 0 ea, .slice bsv 0 es, .slice bd 0 ed, .bool true, .int .i64 1232] rfl rfl _ _ (World.alloc_heap_new _ _) infoMsg rfl HONE2.out ?_; rw [World.setRow_alloc_new]))
  refine (HFO.out _).mono ?_; rintro e w4 ⟨rfl, hx⟩
  have hMw := (hx.block _ (Array.getElem?_eq_some_iff.1 HM3.out).1).trans HM3.out
  have hRw := (hx.block _ (Array.getElem?_eq_some_iff.1 HR3.out).1).trans HR3.out
  have hltr : w3.heap.size < w4.heap.size := (Array.getElem?_eq_some_iff.1 hRw).1
  have hbw4 := HBM4.out.trans (hx.mono HBM4.out.size)
  have hzw4 := hbw4.size
  clear hx HM3 HR3 HBM4 r0 r1 r2 r3 r4 r5 r6 r7 r8
  have hR4 := heap_old hRw (.cells #[.string (mk f), .int .i64 t, .int .i64 c] 23)
  have hc8 := cell_of_heap hR4 8
  have hf8 := frozen_of_row _ w3.heap.size 8 _ _ hR4
  simp only [List.getElem?_toArray, List.getElem?_cons_succ, List.getElem?_cons_zero] at hc8
  have hR5 : ((w4.setCell ⟨w3.heap.size, 8, none⟩ (.slice (some ⟨w4.heap.size, 0, none⟩) 1 1)).alloc (.cells #[.string (mk f), .int .i64 t, .int .i64 c] 23)).heap[w3.heap.size]? = some (.cells #[.int .i64 i2, .bool true, .int .i64 0, .bool false, .bool false, .bool false, .bool true, .int .i64 0, .slice (some ⟨w4.heap.size, 0, none⟩) 1 1, .slice ba 0 ea, .slice bsv 0 es, .slice bd 0 ed, .bool true, .int .i64 1232] 27 (0, 0)) := heap_old (heap_setCell_same w4 _ 8 _ _ _ hRw) _
  have hM5 : ((w4.setCell ⟨w3.heap.size, 8, none⟩ (.slice (some ⟨w4.heap.size, 0, none⟩) 1 1)).alloc (.cells #[.string (mk f), .int .i64 t, .int .i64 c] 23)).heap[w2.heap.size]? = some (.cells #[.int .i64 i2, .bool false, .int .i64 0, .bool false, .bool false, .bool false, .bool false, .int .i64 0, .slice aq 1 cq, .slice aa 0 ca, .slice asv 0 cs, .slice ad 0 cd, .bool true, .int .i64 1232] 27 (0, 0)) := heap_old ((heap_setCell_other w4 ⟨w3.heap.size, 8, none⟩ w2.heap.size (.slice (some ⟨w4.heap.size, 0, none⟩) 1 1) (show w2.heap.size ≠ w3.heap.size by omega)).trans hMw) _
  have hQ5 : ((w4.setCell ⟨w3.heap.size, 8, none⟩ (.slice (some ⟨w4.heap.size, 0, none⟩) 1 1)).alloc (.cells #[.string (mk f), .int .i64 t, .int .i64 c] 23)).heap[w4.heap.size]? = some (.cells #[.string (mk f), .int .i64 t, .int .i64 c] 23 (0, 0)) := by
    have h := World.alloc_heap_new (w4.setCell ⟨w3.heap.size, 8, none⟩ (.slice (some ⟨w4.heap.size, 0, none⟩) 1 1)) (.cells #[.string (mk f), .int .i64 t, .int .i64 c] 23)
    have hs : (w4.setCell ⟨w3.heap.size, 8, none⟩ (.slice (some ⟨w4.heap.size, 0, none⟩) 1 1)).heap.size = w4.heap.size := by simp
    rw [hs] at h
    exact h
  have hb6 : Below w2.heap.size w2 ((w4.setCell ⟨w3.heap.size, 8, none⟩ (.slice (some ⟨w4.heap.size, 0, none⟩) 1 1)).alloc (.cells #[.string (mk f), .int .i64 t, .int .i64 c] 23)) := (hbw4.setCell (p := ⟨w3.heap.size, 8, none⟩) (show w2.heap.size ≤ w3.heap.size by omega) (.slice (some ⟨w4.heap.size, 0, none⟩) 1 1)).alloc (by simp; omega) _
  have HM5 := Go.Lib.hid hM5
  have HR5 := Go.Lib.hid hR5
  have HQ5 := Go.Lib.hid hQ5
  have HB6 := Go.Lib.hid hb6
  clear hM5 hR5 hQ5 hb6
  clear hMw hRw hR4 hbw4
  go_wp2_with fail
  refine (HRN.out _).mono ?_; rintro e _ ⟨rfl, rfl⟩
  generalize (w4.setCell ⟨w3.heap.size, 8, none⟩ (.slice (some ⟨w4.heap.size, 0, none⟩) 1 1)).alloc (.cells #[.string (mk f), .int .i64 t, .int .i64 c] 23) = X at *
  clear hc8 hf8
  have hc0 := cell_of_heap HR5.out 8
  have hf0 := frozen_of_row _ w3.heap.size 8 _ _ HR5.out
  have hr8 := cell_of_heap HR5.out 8
  simp only [List.getElem?_toArray, List.getElem?_cons_succ, List.getElem?_cons_zero] at hc0 hr8
  have HR6 : Hid ((X.setCell ⟨w3.heap.size, 8, none⟩ (.slice none 0 0)).heap[w3.heap.size]? = some (.cells #[.int .i64 i2, .bool true, .int .i64 0, .bool false, .bool false, .bool false, .bool true, .int .i64 0, .slice none 0 0, .slice ba 0 ea, .slice bsv 0 es, .slice bd 0 ed, .bool true, .int .i64 1232] 27 (0, 0))) := Go.Lib.hid (heap_setCell_same _ _ 8 _ _ _ HR5.out)
  have HQ6 : Hid ((X.setCell ⟨w3.heap.size, 8, none⟩ (.slice none 0 0)).heap[w4.heap.size]? = some (.cells #[.string (mk f), .int .i64 t, .int .i64 c] 23 (0, 0))) := Go.Lib.hid ((heap_setCell_other _ ⟨w3.heap.size, 8, none⟩ w4.heap.size _ (show w4.heap.size ≠ w3.heap.size by omega)).trans HQ5.out)
  have HM6 : Hid ((X.setCell ⟨w3.heap.size, 8, none⟩ (.slice none 0 0)).heap[w2.heap.size]? = some (.cells #[.int .i64 i2, .bool false, .int .i64 0, .bool false, .bool false, .bool false, .bool false, .int .i64 0, .slice aq 1 cq, .slice aa 0 ca, .slice asv 0 cs, .slice ad 0 cd, .bool true, .int .i64 1232] 27 (0, 0))) := Go.Lib.hid ((heap_setCell_other _ ⟨w3.heap.size, 8, none⟩ w2.heap.size _ (show w2.heap.size ≠ w3.heap.size by omega)).trans HM5.out)
  have HB7 : Hid (Below w2.heap.size w2 (X.setCell ⟨w3.heap.size, 8, none⟩ (.slice none 0 0))) := Go.Lib.hid (HB6.out.setCell (p := ⟨w3.heap.size, 8, none⟩) (show w2.heap.size ≤ w3.heap.size by omega) _)
  have HQS := Go.Lib.hid (show Qns (X.setCell ⟨w3.heap.size, 8, none⟩ (.slice none 0 0)) (.slice none 0 0) [] from SlC.nil _ _)
  have HQOK := Go.Lib.hid (show ∀ x ∈ ([] : List Qn), x.name.length ≤ maxLen from fun x hx => by cases hx)
  -- the answer
  have hans := Answers_any (askN i2 ⟨n, t, c⟩) ⟨i2, true, 0, false, false, false, true, 0, [], [], [], [], true, 1232⟩ _ _ _ _ _ _ _ _ (X.setCell ⟨w3.heap.size, 8, none⟩ (.slice none 0 0)) (HML.out.below HB7.out (Nat.le_refl _)) ⟨HQS.out, slC_none HLA.out, slC_none HLS.out, slC_none HLD.out⟩ (by intro x hx; simp [askN] at hx; subst hx; exact HNL.out) HQOK.out
  rw [show answersN (askN i2 ⟨n, t, c⟩) ⟨i2, true, 0, false, false, false, true, 0, [], [], [], [], true, 1232⟩ = false from ans5] at hans
  have hM9 := HM6.out
  have hR9 := HR6.out
  have hg := cell_of_heap hM9
  have m0 := hg 0
  have m1 := hg 1
  have m2 := hg 2
  have m3 := hg 3
  have m4 := hg 4
  have m5 := hg 5
  have m6 := hg 6
  have m7 := hg 7
  have m8 := hg 8
  have m9 := hg 9
  have m10 := hg 10
  have m11 := hg 11
  have m12 := hg 12
  have m13 := hg 13
  simp only [List.getElem?_toArray, List.getElem?_cons_succ, List.getElem?_cons_zero] at m0 m1 m2 m3 m4 m5 m6 m7 m8 m9 m10 m11 m12 m13
  clear hg
  have hg := cell_of_heap hR9
  have r0 := hg 0
  have r1 := hg 1
  have r2 := hg 2
  have r3 := hg 3
  have r4 := hg 4
  have r5 := hg 5
  have r6 := hg 6
  have r7 := hg 7
  have r8 := hg 8
  have r9 := hg 9
  have r10 := hg 10
  have r11 := hg 11
  have r12 := hg 12
  have r13 := hg 13
  simp only [List.getElem?_toArray, List.getElem?_cons_succ, List.getElem?_cons_zero] at r0 r1 r2 r3 r4 r5 r6 r7 r8 r9 r10 r11 r12 r13
  clear hg
  have hby := HB2.out.trans (HB7.out.mono HB2.out.size)
  have HANS := Go.Lib.hid hans
  have HBY := Go.Lib.hid hby
  clear hans hby
  clear hM9 hR9
  go_wp2_with fail
  refine HANS.out.mono ?_; rintro e wz ⟨rfl, hx⟩
  have hbz := HBY.out.trans (hx.mono HBY.out.size)
  have HBZ := Go.Lib.hid hbz
  clear hbz
  clear hx m0 m1 m2 m3 m4 m5 m6 m7 m8 m9 m10 m11 m12 m13 r0 r1 r2 r3 r4 r5 r6 r7 r8 r9 r10 r11 r12 r13
  go_wp2_with fail
  refine (HAW.out _).mono ?_; rintro e wy ⟨rfl, hx⟩
  have HXX := Go.Lib.hid hx
  clear hx
  go_wp2_with fail
  go_ret
  exact ⟨rfl, HBZ.out.trans (HXX.out.mono HBZ.out.size)⟩

set_option maxRecDepth 100000 in
set_option maxHeartbeats 16000000 in
theorem k6 (id t c k i2 : Int) (n f : List UInt8) (w : World) (hn : n.length ≤ maxLen) (h0 : n.length ≤ 300) (h1 : 0 ≤ t) (h2 : t ≤ 60000) (h3 : 0 ≤ c) (h4 : c ≤ 60000) (hi0 : 0 ≤ i2) (hi1 : i2 < 65536) (HNL : Hid (n.length ≤ maxLen)) (HFL : Hid (f.length ≤ maxLen)) (HFL3 : Hid (f.length ≤ 300)) (HSAME : Hid (Nm.sameN n f = true)) (HS7 : Hid (Nm.sameN n ([1, 113] ++ f) = false)) (HAW : Hid (∀ W, Calls Try.prog 10 #[] W fun e w' => e = .returned (.bool true) ∧ Below W.heap.size W w')) (HV : Hid (∀ W, Calls Try.prog 23 #[.string (mk n)] W fun e w' => e = .returned (.bool true) ∧ Below W.heap.size W w')) (HASK : Hid (∀ W, Calls Try.prog 12 #[.int .i64 id, .agg #[.string (mk n), .int .i64 t, .int .i64 c]] W (RetM W (askN i2 ⟨n, t, c⟩)))) (HFO : Hid (∀ W, Calls Try.prog 24 #[.string (mk n)] W fun e w' => e = .returned (.string (mk f)) ∧ Below W.heap.size W w')) (HRN : Hid (∀ W, Calls Try.prog 25 #[.int .i64 k, .int .i64 8] W fun e w' => e = .returned (.int .i64 6) ∧ W = w')) :
    Calls Try.prog 4 #[.int .i64 id, .string (mk n), .int .i64 t, .int .i64 c, .int .i64 k] w fun e w' => e = .returned (.bool true) ∧ Below w.heap.size w w' := by
  obtain ⟨fs, hu⟩ := undMsg
  have HU := Go.Lib.hid hu
  clear hu
  have HB := Go.Lib.hid (Below.refl w.heap.size w)
  have hnm : (mk n).size = n.length := size_mk n
  unfold maxLen at hn
  have e1 : ¬ (300 : Int) < (n.length : Int) := by omega
  go_enter Try.func4, Try.ntmps4
  go_wp2_with fail
  refine (HV.out _).mono ?_; rintro e w1 ⟨rfl, hx⟩
  have hb1 := HB.out.trans (hx.mono HB.out.size)
  clear hx HB
  have HB1 := Go.Lib.hid hb1
  clear hb1
  go_wp2_with fail
  refine (HASK.out _).mono ?_; rintro e w2 ⟨f1, f2, f3, f4, rfl, htm, hx⟩
  obtain ⟨aq, cq, aa, ca, asv, cs, ad, cd, rfl, rfl, rfl, rfl⟩ := htm.places
  have htm : MsgT w2 (askN i2 ⟨n, t, c⟩) (.slice aq 1 cq) (.slice aa 0 ca) (.slice asv 0 cs) (.slice ad 0 cd) := htm
  have hb2 := HB1.out.trans (hx.mono HB1.out.size)
  have hz2 := hb2.size
  have hrep := Reply_any (askN i2 ⟨n, t, c⟩) _ _ _ _ 0 (.slice none 0 0) (.slice none 0 0) [] [] (w2.alloc (.cells #[.int .i64 i2, .bool false, .int .i64 0, .bool false, .bool false, .bool false, .bool false, .int .i64 0, .slice aq 1 cq, .slice aa 0 ca, .slice asv 0 cs, .slice ad 0 cd, .bool true, .int .i64 1232] 27)) (htm.lies.below ((Below.refl _ _).alloc (Nat.le_refl _) _) (Nat.le_refl _)) (SlC.nil _ _) (SlC.nil _ _) (by simp [askN]) (by decide) (by decide)
  have hone : (#[.int .i64 i2, .bool false, .int .i64 0, .bool false, .bool false, .bool false, .bool false, .int .i64 0, .slice aq 1 cq, .slice aa 0 ca, .slice asv 0 cs, .slice ad 0 cd, .bool true, .int .i64 1232] : Array Value).all (·.oneCell') = true := by simp [Value.oneCell']
  have hM2 : (w2.alloc (.cells #[.int .i64 i2, .bool false, .int .i64 0, .bool false, .bool false, .bool false, .bool false, .int .i64 0, .slice aq 1 cq, .slice aa 0 ca, .slice asv 0 cs, .slice ad 0 cd, .bool true, .int .i64 1232] 27)).heap[w2.heap.size]? = some (.cells #[.int .i64 i2, .bool false, .int .i64 0, .bool false, .bool false, .bool false, .bool false, .int .i64 0, .slice aq 1 cq, .slice aa 0 ca, .slice asv 0 cs, .slice ad 0 cd, .bool true, .int .i64 1232] 27 (0, 0)) := World.alloc_heap_new _ _
  have hbm : Below w2.heap.size w2 (w2.alloc (.cells #[.int .i64 i2, .bool false, .int .i64 0, .bool false, .bool false, .bool false, .bool false, .int .i64 0, .slice aq 1 cq, .slice aa 0 ca, .slice asv 0 cs, .slice ad 0 cd, .bool true, .int .i64 1232] 27)) := (Below.refl _ _).alloc (Nat.le_refl _) _
  have hml := htm.lies
  clear hx htm
  have HB2 := Go.Lib.hid hb2
  have HREP := Go.Lib.hid hrep
  have HONE := Go.Lib.hid hone
  have HM2 := Go.Lib.hid hM2
  have HBM := Go.Lib.hid hbm
  have HML := Go.Lib.hid hml
  clear hb2 hrep hone hM2 hbm hml
  go_wp2_with (first | (refine wpList_store_row rfl 27 (.tmp 11) (.tmp 44) rfl w2.heap.size #[.int .i64 i2, .bool false, .int .i64 0, .bool false, .bool false, .bool false, .bool false, .int .i64 0, .slice aq 1 cq, .slice aa 0 ca, .slice asv 0 cs, .slice ad 0 cd, .bool true, .int .i64 1232] rfl rfl _ _ (World.alloc_heap_new _ _) infoMsg rfl HONE.out ?_; rw [World.setRow_alloc_new]) | (refine wpList_load_row rfl 27 (.tmp 11) rfl w2.heap.size rfl 27 #[.int .i64 i2, .bool false, .int .i64 0, .bool false, .bool false, .bool false, .bool false, .int .i64 0, .slice aq 1 cq, .slice aa 0 ca, .slice asv 0 cs, .slice ad 0 cd, .bool true, .int .i64 1232] (0, 0) _ HM2.out HU.out rfl infoMsg ?_))
  refine HREP.out.mono ?_; rintro e w3 ⟨f1, f2, f3, f4, rfl, htr, hx⟩
  obtain ⟨bq, eq, ba, ea, bsv, es, bd, ed, rfl, rfl, rfl, rfl⟩ := htr.places
  have htr : MsgT w3 (replyN (askN i2 ⟨n, t, c⟩) 0 [] []) (.slice bq 1 eq) (.slice ba 0 ea) (.slice bsv 0 es) (.slice bd 0 ed) := htr
  have hla : SlC w3 5 (.slice ba 0 ea) 0 [] := htr.an.1
  have hls : SlC w3 5 (.slice bsv 0 es) 0 [] := htr.sv.1
  have hld : SlC w3 5 (.slice bd 0 ed) 0 [] := htr.ad.1
  have hbm3 := HBM.out.trans (hx.mono HBM.out.size)
  have hM3 := heap_old ((hx.block _ (Array.getElem?_eq_some_iff.1 HM2.out).1).trans HM2.out) (.cells #[.int .i64 i2, .bool true, .int .i64 0, .bool false, .bool false, .bool false, .bool true, .int .i64 0, .slice bq 1 eq, .slice ba 0 ea, .slice bsv 0 es, .slice bd 0 ed, .bool true, .int .i64 1232] 27)
  have hltm : w2.heap.size < w3.heap.size := (Array.getElem?_eq_some_iff.1 ((hx.block _ (Array.getElem?_eq_some_iff.1 HM2.out).1).trans HM2.out)).1
  have hR3 : (w3.alloc (.cells #[.int .i64 i2, .bool true, .int .i64 0, .bool false, .bool false, .bool false, .bool true, .int .i64 0, .slice bq 1 eq, .slice ba 0 ea, .slice bsv 0 es, .slice bd 0 ed, .bool true, .int .i64 1232] 27)).heap[w3.heap.size]? = some (.cells #[.int .i64 i2, .bool true, .int .i64 0, .bool false, .bool false, .bool false, .bool true, .int .i64 0, .slice bq 1 eq, .slice ba 0 ea, .slice bsv 0 es, .slice bd 0 ed, .bool true, .int .i64 1232] 27 (0, 0)) := World.alloc_heap_new _ _
  have hbm4 : Below w2.heap.size w2 (w3.alloc (.cells #[.int .i64 i2, .bool true, .int .i64 0, .bool false, .bool false, .bool false, .bool true, .int .i64 0, .slice bq 1 eq, .slice ba 0 ea, .slice bsv 0 es, .slice bd 0 ed, .bool true, .int .i64 1232] 27)) := hbm3.alloc hbm3.size _
  have hone2 : (#[.int .i64 i2, .bool true, .int .i64 0, .bool false, .bool false, .bool false, .bool true, .int .i64 0, .slice bq 1 eq, .slice ba 0 ea, .slice bsv 0 es, .slice bd 0 ed, .bool true, .int .i64 1232] : Array Value).all (·.oneCell') = true := by simp [Value.oneCell']
  clear hx htr hbm3 HBM HM2 HREP
  have hg := cell_of_heap hR3
  have r0 := hg 0
  have r1 := hg 1
  have r2 := hg 2
  have r3 := hg 3
  have r4 := hg 4
  have r5 := hg 5
  have r6 := hg 6
  have r7 := hg 7
  have r8 := hg 8
  simp only [List.getElem?_toArray, List.getElem?_cons_succ, List.getElem?_cons_zero] at r0 r1 r2 r3 r4 r5 r6 r7 r8
  clear hg
  have HM3 := Go.Lib.hid hM3
  have HR3 := Go.Lib.hid hR3
  have HBM4 := Go.Lib.hid hbm4
  have HONE2 := Go.Lib.hid hone2
  have HLA := Go.Lib.hid hla
  have HLS := Go.Lib.hid hls
  have HLD := Go.Lib.hid hld
  clear hM3 hR3 hbm4 hone2 hla hls hld
  go_wp2_with (first | (refine wpList_store_row rfl 27 (.tmp 12) (.tmp 46) rfl w3.heap.size #[.int .i64 i2, .bool true, .int .i64 0, .bool false, .bool false, .bool false, .bool true, .int .i64 0, .slice bq 1 eq, .slice ba 0 ea, .slice bsv 0 es, .slice bd 0 ed, .bool true, .int .i64 1232] rfl rfl _ _ (World.alloc_heap_new _ _) infoMsg rfl HONE2.out ?_; rw [World.setRow_alloc_new]))
  refine (HFO.out _).mono ?_; rintro e w4 ⟨rfl, hx⟩
  have hMw := (hx.block _ (Array.getElem?_eq_some_iff.1 HM3.out).1).trans HM3.out
  have hRw := (hx.block _ (Array.getElem?_eq_some_iff.1 HR3.out).1).trans HR3.out
  have hltr : w3.heap.size < w4.heap.size := (Array.getElem?_eq_some_iff.1 hRw).1
  have hbw4 := HBM4.out.trans (hx.mono HBM4.out.size)
  have hzw4 := hbw4.size
  clear hx HM3 HR3 HBM4 r0 r1 r2 r3 r4 r5 r6 r7 r8
  have hR4 := heap_old hRw (.cells #[.string (mk f), .int .i64 t, .int .i64 c] 23)
  have hc8 := cell_of_heap hR4 8
  have hf8 := frozen_of_row _ w3.heap.size 8 _ _ hR4
  simp only [List.getElem?_toArray, List.getElem?_cons_succ, List.getElem?_cons_zero] at hc8
  have hR5 : ((w4.setCell ⟨w3.heap.size, 8, none⟩ (.slice (some ⟨w4.heap.size, 0, none⟩) 1 1)).alloc (.cells #[.string (mk f), .int .i64 t, .int .i64 c] 23)).heap[w3.heap.size]? = some (.cells #[.int .i64 i2, .bool true, .int .i64 0, .bool false, .bool false, .bool false, .bool true, .int .i64 0, .slice (some ⟨w4.heap.size, 0, none⟩) 1 1, .slice ba 0 ea, .slice bsv 0 es, .slice bd 0 ed, .bool true, .int .i64 1232] 27 (0, 0)) := heap_old (heap_setCell_same w4 _ 8 _ _ _ hRw) _
  have hM5 : ((w4.setCell ⟨w3.heap.size, 8, none⟩ (.slice (some ⟨w4.heap.size, 0, none⟩) 1 1)).alloc (.cells #[.string (mk f), .int .i64 t, .int .i64 c] 23)).heap[w2.heap.size]? = some (.cells #[.int .i64 i2, .bool false, .int .i64 0, .bool false, .bool false, .bool false, .bool false, .int .i64 0, .slice aq 1 cq, .slice aa 0 ca, .slice asv 0 cs, .slice ad 0 cd, .bool true, .int .i64 1232] 27 (0, 0)) := heap_old ((heap_setCell_other w4 ⟨w3.heap.size, 8, none⟩ w2.heap.size (.slice (some ⟨w4.heap.size, 0, none⟩) 1 1) (show w2.heap.size ≠ w3.heap.size by omega)).trans hMw) _
  have hQ5 : ((w4.setCell ⟨w3.heap.size, 8, none⟩ (.slice (some ⟨w4.heap.size, 0, none⟩) 1 1)).alloc (.cells #[.string (mk f), .int .i64 t, .int .i64 c] 23)).heap[w4.heap.size]? = some (.cells #[.string (mk f), .int .i64 t, .int .i64 c] 23 (0, 0)) := by
    have h := World.alloc_heap_new (w4.setCell ⟨w3.heap.size, 8, none⟩ (.slice (some ⟨w4.heap.size, 0, none⟩) 1 1)) (.cells #[.string (mk f), .int .i64 t, .int .i64 c] 23)
    have hs : (w4.setCell ⟨w3.heap.size, 8, none⟩ (.slice (some ⟨w4.heap.size, 0, none⟩) 1 1)).heap.size = w4.heap.size := by simp
    rw [hs] at h
    exact h
  have hb6 : Below w2.heap.size w2 ((w4.setCell ⟨w3.heap.size, 8, none⟩ (.slice (some ⟨w4.heap.size, 0, none⟩) 1 1)).alloc (.cells #[.string (mk f), .int .i64 t, .int .i64 c] 23)) := (hbw4.setCell (p := ⟨w3.heap.size, 8, none⟩) (show w2.heap.size ≤ w3.heap.size by omega) (.slice (some ⟨w4.heap.size, 0, none⟩) 1 1)).alloc (by simp; omega) _
  have HM5 := Go.Lib.hid hM5
  have HR5 := Go.Lib.hid hR5
  have HQ5 := Go.Lib.hid hQ5
  have HB6 := Go.Lib.hid hb6
  clear hM5 hR5 hQ5 hb6
  clear hMw hRw hR4 hbw4
  go_wp2_with fail
  refine (HRN.out _).mono ?_; rintro e _ ⟨rfl, rfl⟩
  generalize (w4.setCell ⟨w3.heap.size, 8, none⟩ (.slice (some ⟨w4.heap.size, 0, none⟩) 1 1)).alloc (.cells #[.string (mk f), .int .i64 t, .int .i64 c] 23) = X at *
  clear hc8 hf8
  have hc0 := cell_of_heap HR5.out 1
  have hf0 := frozen_of_row _ w3.heap.size 1 _ _ HR5.out
  have hr8 := cell_of_heap HR5.out 8
  simp only [List.getElem?_toArray, List.getElem?_cons_succ, List.getElem?_cons_zero] at hc0 hr8
  have HR6 : Hid ((X.setCell ⟨w3.heap.size, 1, none⟩ (.bool false)).heap[w3.heap.size]? = some (.cells #[.int .i64 i2, .bool false, .int .i64 0, .bool false, .bool false, .bool false, .bool true, .int .i64 0, .slice (some ⟨w4.heap.size, 0, none⟩) 1 1, .slice ba 0 ea, .slice bsv 0 es, .slice bd 0 ed, .bool true, .int .i64 1232] 27 (0, 0))) := Go.Lib.hid (heap_setCell_same _ _ 1 _ _ _ HR5.out)
  have HQ6 : Hid ((X.setCell ⟨w3.heap.size, 1, none⟩ (.bool false)).heap[w4.heap.size]? = some (.cells #[.string (mk f), .int .i64 t, .int .i64 c] 23 (0, 0))) := Go.Lib.hid ((heap_setCell_other _ ⟨w3.heap.size, 1, none⟩ w4.heap.size _ (show w4.heap.size ≠ w3.heap.size by omega)).trans HQ5.out)
  have HM6 : Hid ((X.setCell ⟨w3.heap.size, 1, none⟩ (.bool false)).heap[w2.heap.size]? = some (.cells #[.int .i64 i2, .bool false, .int .i64 0, .bool false, .bool false, .bool false, .bool false, .int .i64 0, .slice aq 1 cq, .slice aa 0 ca, .slice asv 0 cs, .slice ad 0 cd, .bool true, .int .i64 1232] 27 (0, 0))) := Go.Lib.hid ((heap_setCell_other _ ⟨w3.heap.size, 1, none⟩ w2.heap.size _ (show w2.heap.size ≠ w3.heap.size by omega)).trans HM5.out)
  have HB7 : Hid (Below w2.heap.size w2 (X.setCell ⟨w3.heap.size, 1, none⟩ (.bool false))) := Go.Lib.hid (HB6.out.setCell (p := ⟨w3.heap.size, 1, none⟩) (show w2.heap.size ≤ w3.heap.size by omega) _)
  have HQS := Go.Lib.hid (slc_row3 (X.setCell ⟨w3.heap.size, 1, none⟩ (.bool false)) w4.heap.size f t c (0, 0) HQ6.out)
  have HQOK := Go.Lib.hid (show ∀ x ∈ ([⟨f, t, c⟩] : List Qn), x.name.length ≤ maxLen from fun x hx => by simp at hx; first | (subst hx; exact HFL.out) | (rcases hx with rfl | rfl <;> exact HFL.out))
  -- the answer
  have hans := Answers_any (askN i2 ⟨n, t, c⟩) ⟨i2, false, 0, false, false, false, true, 0, [⟨f, t, c⟩], [], [], [], true, 1232⟩ _ _ _ _ _ _ _ _ (X.setCell ⟨w3.heap.size, 1, none⟩ (.bool false)) (HML.out.below HB7.out (Nat.le_refl _)) ⟨HQS.out, slC_none HLA.out, slC_none HLS.out, slC_none HLD.out⟩ (by intro x hx; simp [askN] at hx; subst hx; exact HNL.out) HQOK.out
  rw [show answersN (askN i2 ⟨n, t, c⟩) ⟨i2, false, 0, false, false, false, true, 0, [⟨f, t, c⟩], [], [], [], true, 1232⟩ = false from ans6] at hans
  have hM9 := HM6.out
  have hR9 := HR6.out
  have hg := cell_of_heap hM9
  have m0 := hg 0
  have m1 := hg 1
  have m2 := hg 2
  have m3 := hg 3
  have m4 := hg 4
  have m5 := hg 5
  have m6 := hg 6
  have m7 := hg 7
  have m8 := hg 8
  have m9 := hg 9
  have m10 := hg 10
  have m11 := hg 11
  have m12 := hg 12
  have m13 := hg 13
  simp only [List.getElem?_toArray, List.getElem?_cons_succ, List.getElem?_cons_zero] at m0 m1 m2 m3 m4 m5 m6 m7 m8 m9 m10 m11 m12 m13
  clear hg
  have hg := cell_of_heap hR9
  have r0 := hg 0
  have r1 := hg 1
  have r2 := hg 2
  have r3 := hg 3
  have r4 := hg 4
  have r5 := hg 5
  have r6 := hg 6
  have r7 := hg 7
  have r8 := hg 8
  have r9 := hg 9
  have r10 := hg 10
  have r11 := hg 11
  have r12 := hg 12
  have r13 := hg 13
  simp only [List.getElem?_toArray, List.getElem?_cons_succ, List.getElem?_cons_zero] at r0 r1 r2 r3 r4 r5 r6 r7 r8 r9 r10 r11 r12 r13
  clear hg
  have hby := HB2.out.trans (HB7.out.mono HB2.out.size)
  have HANS := Go.Lib.hid hans
  have HBY := Go.Lib.hid hby
  clear hans hby
  clear hM9 hR9
  go_wp2_with fail
  refine HANS.out.mono ?_; rintro e wz ⟨rfl, hx⟩
  have hbz := HBY.out.trans (hx.mono HBY.out.size)
  have HBZ := Go.Lib.hid hbz
  clear hbz
  clear hx m0 m1 m2 m3 m4 m5 m6 m7 m8 m9 m10 m11 m12 m13 r0 r1 r2 r3 r4 r5 r6 r7 r8 r9 r10 r11 r12 r13
  go_wp2_with fail
  refine (HAW.out _).mono ?_; rintro e wy ⟨rfl, hx⟩
  have HXX := Go.Lib.hid hx
  clear hx
  go_wp2_with fail
  go_ret
  exact ⟨rfl, HBZ.out.trans (HXX.out.mono HBZ.out.size)⟩

set_option maxRecDepth 100000 in
set_option maxHeartbeats 16000000 in
theorem k7 (id t c k i2 : Int) (n f : List UInt8) (w : World) (hn : n.length ≤ maxLen) (h0 : n.length ≤ 300) (h1 : 0 ≤ t) (h2 : t ≤ 60000) (h3 : 0 ≤ c) (h4 : c ≤ 60000) (hi0 : 0 ≤ i2) (hi1 : i2 < 65536) (HNL : Hid (n.length ≤ maxLen)) (HFL : Hid (f.length ≤ maxLen)) (HFL3 : Hid (f.length ≤ 300)) (HSAME : Hid (Nm.sameN n f = true)) (HS7 : Hid (Nm.sameN n ([1, 113] ++ f) = false)) (HAW : Hid (∀ W, Calls Try.prog 10 #[] W fun e w' => e = .returned (.bool true) ∧ Below W.heap.size W w')) (HV : Hid (∀ W, Calls Try.prog 23 #[.string (mk n)] W fun e w' => e = .returned (.bool true) ∧ Below W.heap.size W w')) (HASK : Hid (∀ W, Calls Try.prog 12 #[.int .i64 id, .agg #[.string (mk n), .int .i64 t, .int .i64 c]] W (RetM W (askN i2 ⟨n, t, c⟩)))) (HFO : Hid (∀ W, Calls Try.prog 24 #[.string (mk n)] W fun e w' => e = .returned (.string (mk f)) ∧ Below W.heap.size W w')) (HRN : Hid (∀ W, Calls Try.prog 25 #[.int .i64 k, .int .i64 8] W fun e w' => e = .returned (.int .i64 7) ∧ W = w')) :
    Calls Try.prog 4 #[.int .i64 id, .string (mk n), .int .i64 t, .int .i64 c, .int .i64 k] w fun e w' => e = .returned (.bool true) ∧ Below w.heap.size w w' := by
  obtain ⟨fs, hu⟩ := undMsg
  have HU := Go.Lib.hid hu
  clear hu
  have HB := Go.Lib.hid (Below.refl w.heap.size w)
  have hnm : (mk n).size = n.length := size_mk n
  unfold maxLen at hn
  have e1 : ¬ (300 : Int) < (n.length : Int) := by omega
  go_enter Try.func4, Try.ntmps4
  go_wp2_with fail
  refine (HV.out _).mono ?_; rintro e w1 ⟨rfl, hx⟩
  have hb1 := HB.out.trans (hx.mono HB.out.size)
  clear hx HB
  have HB1 := Go.Lib.hid hb1
  clear hb1
  go_wp2_with fail
  refine (HASK.out _).mono ?_; rintro e w2 ⟨f1, f2, f3, f4, rfl, htm, hx⟩
  obtain ⟨aq, cq, aa, ca, asv, cs, ad, cd, rfl, rfl, rfl, rfl⟩ := htm.places
  have htm : MsgT w2 (askN i2 ⟨n, t, c⟩) (.slice aq 1 cq) (.slice aa 0 ca) (.slice asv 0 cs) (.slice ad 0 cd) := htm
  have hb2 := HB1.out.trans (hx.mono HB1.out.size)
  have hz2 := hb2.size
  have hrep := Reply_any (askN i2 ⟨n, t, c⟩) _ _ _ _ 0 (.slice none 0 0) (.slice none 0 0) [] [] (w2.alloc (.cells #[.int .i64 i2, .bool false, .int .i64 0, .bool false, .bool false, .bool false, .bool false, .int .i64 0, .slice aq 1 cq, .slice aa 0 ca, .slice asv 0 cs, .slice ad 0 cd, .bool true, .int .i64 1232] 27)) (htm.lies.below ((Below.refl _ _).alloc (Nat.le_refl _) _) (Nat.le_refl _)) (SlC.nil _ _) (SlC.nil _ _) (by simp [askN]) (by decide) (by decide)
  have hone : (#[.int .i64 i2, .bool false, .int .i64 0, .bool false, .bool false, .bool false, .bool false, .int .i64 0, .slice aq 1 cq, .slice aa 0 ca, .slice asv 0 cs, .slice ad 0 cd, .bool true, .int .i64 1232] : Array Value).all (·.oneCell') = true := by simp [Value.oneCell']
  have hM2 : (w2.alloc (.cells #[.int .i64 i2, .bool false, .int .i64 0, .bool false, .bool false, .bool false, .bool false, .int .i64 0, .slice aq 1 cq, .slice aa 0 ca, .slice asv 0 cs, .slice ad 0 cd, .bool true, .int .i64 1232] 27)).heap[w2.heap.size]? = some (.cells #[.int .i64 i2, .bool false, .int .i64 0, .bool false, .bool false, .bool false, .bool false, .int .i64 0, .slice aq 1 cq, .slice aa 0 ca, .slice asv 0 cs, .slice ad 0 cd, .bool true, .int .i64 1232] 27 (0, 0)) := World.alloc_heap_new _ _
  have hbm : Below w2.heap.size w2 (w2.alloc (.cells #[.int .i64 i2, .bool false, .int .i64 0, .bool false, .bool false, .bool false, .bool false, .int .i64 0, .slice aq 1 cq, .slice aa 0 ca, .slice asv 0 cs, .slice ad 0 cd, .bool true, .int .i64 1232] 27)) := (Below.refl _ _).alloc (Nat.le_refl _) _
  have hml := htm.lies
  clear hx htm
  have HB2 := Go.Lib.hid hb2
  have HREP := Go.Lib.hid hrep
  have HONE := Go.Lib.hid hone
  have HM2 := Go.Lib.hid hM2
  have HBM := Go.Lib.hid hbm
  have HML := Go.Lib.hid hml
  clear hb2 hrep hone hM2 hbm hml
  go_wp2_with (first | (refine wpList_store_row rfl 27 (.tmp 11) (.tmp 44) rfl w2.heap.size #[.int .i64 i2, .bool false, .int .i64 0, .bool false, .bool false, .bool false, .bool false, .int .i64 0, .slice aq 1 cq, .slice aa 0 ca, .slice asv 0 cs, .slice ad 0 cd, .bool true, .int .i64 1232] rfl rfl _ _ (World.alloc_heap_new _ _) infoMsg rfl HONE.out ?_; rw [World.setRow_alloc_new]) | (refine wpList_load_row rfl 27 (.tmp 11) rfl w2.heap.size rfl 27 #[.int .i64 i2, .bool false, .int .i64 0, .bool false, .bool false, .bool false, .bool false, .int .i64 0, .slice aq 1 cq, .slice aa 0 ca, .slice asv 0 cs, .slice ad 0 cd, .bool true, .int .i64 1232] (0, 0) _ HM2.out HU.out rfl infoMsg ?_))
  refine HREP.out.mono ?_; rintro e w3 ⟨f1, f2, f3, f4, rfl, htr, hx⟩
  obtain ⟨bq, eq, ba, ea, bsv, es, bd, ed, rfl, rfl, rfl, rfl⟩ := htr.places
  have htr : MsgT w3 (replyN (askN i2 ⟨n, t, c⟩) 0 [] []) (.slice bq 1 eq) (.slice ba 0 ea) (.slice bsv 0 es) (.slice bd 0 ed) := htr
  have hla : SlC w3 5 (.slice ba 0 ea) 0 [] := htr.an.1
  have hls : SlC w3 5 (.slice bsv 0 es) 0 [] := htr.sv.1
  have hld : SlC w3 5 (.slice bd 0 ed) 0 [] := htr.ad.1
  have hbm3 := HBM.out.trans (hx.mono HBM.out.size)
  have hM3 := heap_old ((hx.block _ (Array.getElem?_eq_some_iff.1 HM2.out).1).trans HM2.out) (.cells #[.int .i64 i2, .bool true, .int .i64 0, .bool false, .bool false, .bool false, .bool true, .int .i64 0, .slice bq 1 eq, .slice ba 0 ea, .slice bsv 0 es, .slice bd 0 ed, .bool true, .int .i64 1232] 27)
  have hltm : w2.heap.size < w3.heap.size := (Array.getElem?_eq_some_iff.1 ((hx.block _ (Array.getElem?_eq_some_iff.1 HM2.out).1).trans HM2.out)).1
  have hR3 : (w3.alloc (.cells #[.int .i64 i2, .bool true, .int .i64 0, .bool false, .bool false, .bool false, .bool true, .int .i64 0, .slice bq 1 eq, .slice ba 0 ea, .slice bsv 0 es, .slice bd 0 ed, .bool true, .int .i64 1232] 27)).heap[w3.heap.size]? = some (.cells #[.int .i64 i2, .bool true, .int .i64 0, .bool false, .bool false, .bool false, .bool true, .int .i64 0, .slice bq 1 eq, .slice ba 0 ea, .slice bsv 0 es, .slice bd 0 ed, .bool true, .int .i64 1232] 27 (0, 0)) := World.alloc_heap_new _ _
  have hbm4 : Below w2.heap.size w2 (w3.alloc (.cells #[.int .i64 i2, .bool true, .int .i64 0, .bool false, .bool false, .bool false, .bool true, .int .i64 0, .slice bq 1 eq, .slice ba 0 ea, .slice bsv 0 es, .slice bd 0 ed, .bool true, .int .i64 1232] 27)) := hbm3.alloc hbm3.size _
  have hone2 : (#[.int .i64 i2, .bool true, .int .i64 0, .bool false, .bool false, .bool false, .bool true, .int .i64 0, .slice bq 1 eq, .slice ba 0 ea, .slice bsv 0 es, .slice bd 0 ed, .bool true, .int .i64 1232] : Array Value).all (·.oneCell') = true := by simp [Value.oneCell']
  clear hx htr hbm3 HBM HM2 HREP
  have hg := cell_of_heap hR3
  have r0 := hg 0
  have r1 := hg 1
  have r2 := hg 2
  have r3 := hg 3
  have r4 := hg 4
  have r5 := hg 5
  have r6 := hg 6
  have r7 := hg 7
  have r8 := hg 8
  simp only [List.getElem?_toArray, List.getElem?_cons_succ, List.getElem?_cons_zero] at r0 r1 r2 r3 r4 r5 r6 r7 r8
  clear hg
  have HM3 := Go.Lib.hid hM3
  have HR3 := Go.Lib.hid hR3
  have HBM4 := Go.Lib.hid hbm4
  have HONE2 := Go.Lib.hid hone2
  have HLA := Go.Lib.hid hla
  have HLS := Go.Lib.hid hls
  have HLD := Go.Lib.hid hld
  clear hM3 hR3 hbm4 hone2 hla hls hld
  go_wp2_with (first | (refine wpList_store_row rfl 27 (.tmp 12) (.tmp 46) rfl w3.heap.size #[.int .i64 i2, .bool true, .int .i64 0, .bool false, .bool false, .bool false, .bool true, .int .i64 0, .slice bq 1 eq, .slice ba 0 ea, .slice bsv 0 es, .slice bd 0 ed, .bool true, .int .i64 1232] rfl rfl _ _ (World.alloc_heap_new _ _) infoMsg rfl HONE2.out ?_; rw [World.setRow_alloc_new]))
  refine (HFO.out _).mono ?_; rintro e w4 ⟨rfl, hx⟩
  have hMw := (hx.block _ (Array.getElem?_eq_some_iff.1 HM3.out).1).trans HM3.out
  have hRw := (hx.block _ (Array.getElem?_eq_some_iff.1 HR3.out).1).trans HR3.out
  have hltr : w3.heap.size < w4.heap.size := (Array.getElem?_eq_some_iff.1 hRw).1
  have hbw4 := HBM4.out.trans (hx.mono HBM4.out.size)
  have hzw4 := hbw4.size
  clear hx HM3 HR3 HBM4 r0 r1 r2 r3 r4 r5 r6 r7 r8
  have hR4 := heap_old hRw (.cells #[.string (mk f), .int .i64 t, .int .i64 c] 23)
  have hc8 := cell_of_heap hR4 8
  have hf8 := frozen_of_row _ w3.heap.size 8 _ _ hR4
  simp only [List.getElem?_toArray, List.getElem?_cons_succ, List.getElem?_cons_zero] at hc8
  have hR5 : ((w4.setCell ⟨w3.heap.size, 8, none⟩ (.slice (some ⟨w4.heap.size, 0, none⟩) 1 1)).alloc (.cells #[.string (mk f), .int .i64 t, .int .i64 c] 23)).heap[w3.heap.size]? = some (.cells #[.int .i64 i2, .bool true, .int .i64 0, .bool false, .bool false, .bool false, .bool true, .int .i64 0, .slice (some ⟨w4.heap.size, 0, none⟩) 1 1, .slice ba 0 ea, .slice bsv 0 es, .slice bd 0 ed, .bool true, .int .i64 1232] 27 (0, 0)) := heap_old (heap_setCell_same w4 _ 8 _ _ _ hRw) _
  have hM5 : ((w4.setCell ⟨w3.heap.size, 8, none⟩ (.slice (some ⟨w4.heap.size, 0, none⟩) 1 1)).alloc (.cells #[.string (mk f), .int .i64 t, .int .i64 c] 23)).heap[w2.heap.size]? = some (.cells #[.int .i64 i2, .bool false, .int .i64 0, .bool false, .bool false, .bool false, .bool false, .int .i64 0, .slice aq 1 cq, .slice aa 0 ca, .slice asv 0 cs, .slice ad 0 cd, .bool true, .int .i64 1232] 27 (0, 0)) := heap_old ((heap_setCell_other w4 ⟨w3.heap.size, 8, none⟩ w2.heap.size (.slice (some ⟨w4.heap.size, 0, none⟩) 1 1) (show w2.heap.size ≠ w3.heap.size by omega)).trans hMw) _
  have hQ5 : ((w4.setCell ⟨w3.heap.size, 8, none⟩ (.slice (some ⟨w4.heap.size, 0, none⟩) 1 1)).alloc (.cells #[.string (mk f), .int .i64 t, .int .i64 c] 23)).heap[w4.heap.size]? = some (.cells #[.string (mk f), .int .i64 t, .int .i64 c] 23 (0, 0)) := by
    have h := World.alloc_heap_new (w4.setCell ⟨w3.heap.size, 8, none⟩ (.slice (some ⟨w4.heap.size, 0, none⟩) 1 1)) (.cells #[.string (mk f), .int .i64 t, .int .i64 c] 23)
    have hs : (w4.setCell ⟨w3.heap.size, 8, none⟩ (.slice (some ⟨w4.heap.size, 0, none⟩) 1 1)).heap.size = w4.heap.size := by simp
    rw [hs] at h
    exact h
  have hb6 : Below w2.heap.size w2 ((w4.setCell ⟨w3.heap.size, 8, none⟩ (.slice (some ⟨w4.heap.size, 0, none⟩) 1 1)).alloc (.cells #[.string (mk f), .int .i64 t, .int .i64 c] 23)) := (hbw4.setCell (p := ⟨w3.heap.size, 8, none⟩) (show w2.heap.size ≤ w3.heap.size by omega) (.slice (some ⟨w4.heap.size, 0, none⟩) 1 1)).alloc (by simp; omega) _
  have HM5 := Go.Lib.hid hM5
  have HR5 := Go.Lib.hid hR5
  have HQ5 := Go.Lib.hid hQ5
  have HB6 := Go.Lib.hid hb6
  clear hM5 hR5 hQ5 hb6
  clear hMw hRw hR4 hbw4
  go_wp2_with fail
  refine (HRN.out _).mono ?_; rintro e _ ⟨rfl, rfl⟩
  generalize (w4.setCell ⟨w3.heap.size, 8, none⟩ (.slice (some ⟨w4.heap.size, 0, none⟩) 1 1)).alloc (.cells #[.string (mk f), .int .i64 t, .int .i64 c] 23) = X at *
  clear hc8 hf8
  have hr8 := cell_of_heap HR5.out 8
  have hq0 := cell_of_heap HQ5.out 0
  simp only [List.getElem?_toArray, List.getElem?_cons_succ, List.getElem?_cons_zero] at hr8 hq0
  have R8 := BelowC.cell (W := X) hr8 (Array.getElem?_eq_some_iff.1 HR5.out).1
  have Q0 := BelowC.cell (W := X) hq0 (Array.getElem?_eq_some_iff.1 HQ5.out).1
  have hne : Nonempty (Subtype (Below X.heap.size X)) := ⟨⟨X, Below.refl _ _⟩⟩
  have hc0 : X.drew.cell? ⟨w4.heap.size, 0, none⟩ = some (.string (mk f)) := hq0
  have hf0 : X.drew.frozen? ⟨w4.heap.size, 0, none⟩ = false := frozen_of_row X w4.heap.size 0 _ _ HQ5.out
  have hfz : (mk f).size = f.length := size_mk f
  have hcat : (⟨#[1, 113]⟩ : ByteArray) ++ mk f = mk (1 :: 113 :: f) := by apply bl_inj; rw [bl_append, bl_mk, bl_mk]; rfl
  have hq1 : ¬ 9223372036854775807 < 2 + f.length := by have := HFL3.out; omega
  have HR6 : Hid ((X.setCell ⟨w4.heap.size, 0, none⟩ (.string (mk (1 :: 113 :: f)))).drew.heap[w3.heap.size]? = some (.cells #[.int .i64 i2, .bool true, .int .i64 0, .bool false, .bool false, .bool false, .bool true, .int .i64 0, .slice (some ⟨w4.heap.size, 0, none⟩) 1 1, .slice ba 0 ea, .slice bsv 0 es, .slice bd 0 ed, .bool true, .int .i64 1232] 27 (0, 0))) := Go.Lib.hid ((heap_setCell_other _ ⟨w4.heap.size, 0, none⟩ w3.heap.size _ (show w3.heap.size ≠ w4.heap.size by omega)).trans HR5.out)
  have HQ6 : Hid ((X.setCell ⟨w4.heap.size, 0, none⟩ (.string (mk (1 :: 113 :: f)))).drew.heap[w4.heap.size]? = some (.cells #[.string (mk (1 :: 113 :: f)), .int .i64 t, .int .i64 c] 23 (0, 0))) := Go.Lib.hid (heap_setCell_same X _ 0 _ _ _ HQ5.out)
  have HM6 : Hid ((X.setCell ⟨w4.heap.size, 0, none⟩ (.string (mk (1 :: 113 :: f)))).drew.heap[w2.heap.size]? = some (.cells #[.int .i64 i2, .bool false, .int .i64 0, .bool false, .bool false, .bool false, .bool false, .int .i64 0, .slice aq 1 cq, .slice aa 0 ca, .slice asv 0 cs, .slice ad 0 cd, .bool true, .int .i64 1232] 27 (0, 0))) := Go.Lib.hid ((heap_setCell_other _ ⟨w4.heap.size, 0, none⟩ w2.heap.size _ (show w2.heap.size ≠ w4.heap.size by omega)).trans HM5.out)
  have HB7 : Hid (Below w2.heap.size w2 (X.setCell ⟨w4.heap.size, 0, none⟩ (.string (mk (1 :: 113 :: f)))).drew) := Go.Lib.hid (HB6.out.setCell (p := ⟨w4.heap.size, 0, none⟩) (show w2.heap.size ≤ w4.heap.size by omega) _).drew
  go_wp2_with fail
  refine Go.Mix.wp_region_mixT (Es := []) 10 (Below X.heap.size X) mixed (by kernel_rfl) (Below.refl _ _).drew ?_
  iterate 10 (refine Go.Mix.mixT_step rfl (fun K hK => ?_); have HKK := Go.Lib.hid hK; clear hK; go_simp; refine HKK.out _ _ ?_; clear HKK K)
  refine Go.Mix.mixT_last rfl (fun K hK => ?_)
  have HKK := Go.Lib.hid hK
  clear hK
  go_simp
  refine HKK.out _ _ ?_
  clear HKK K R8 Q0 hc0 hf0 hq0 hr8
  have HQS := Go.Lib.hid (slc_row3 (X.setCell ⟨w4.heap.size, 0, none⟩ (.string (mk (1 :: 113 :: f)))).drew w4.heap.size (1 :: 113 :: f) t c (0, 0) HQ6.out)
  have hfl7 : (1 :: 113 :: f).length ≤ maxLen := by have := HFL3.out; unfold maxLen; simp only [List.length_cons]; omega
  have HQOK := Go.Lib.hid (show ∀ x ∈ ([⟨1 :: 113 :: f, t, c⟩] : List Qn), x.name.length ≤ maxLen from fun x hx => by simp at hx; first | (subst hx; exact hfl7) | (rcases hx with rfl | rfl <;> exact hfl7))
  -- the answer
  have hans := Answers_any (askN i2 ⟨n, t, c⟩) ⟨i2, true, 0, false, false, false, true, 0, [⟨1 :: 113 :: f, t, c⟩], [], [], [], true, 1232⟩ _ _ _ _ _ _ _ _ (X.setCell ⟨w4.heap.size, 0, none⟩ (.string (mk (1 :: 113 :: f)))).drew (HML.out.below HB7.out (Nat.le_refl _)) ⟨HQS.out, slC_none HLA.out, slC_none HLS.out, slC_none HLD.out⟩ (by intro x hx; simp [askN] at hx; subst hx; exact HNL.out) HQOK.out
  rw [show answersN (askN i2 ⟨n, t, c⟩) ⟨i2, true, 0, false, false, false, true, 0, [⟨1 :: 113 :: f, t, c⟩], [], [], [], true, 1232⟩ = false from ans7 HS7.out] at hans
  have hM9 := HM6.out
  have hR9 := HR6.out
  have hg := cell_of_heap hM9
  have m0 := hg 0
  have m1 := hg 1
  have m2 := hg 2
  have m3 := hg 3
  have m4 := hg 4
  have m5 := hg 5
  have m6 := hg 6
  have m7 := hg 7
  have m8 := hg 8
  have m9 := hg 9
  have m10 := hg 10
  have m11 := hg 11
  have m12 := hg 12
  have m13 := hg 13
  simp only [List.getElem?_toArray, List.getElem?_cons_succ, List.getElem?_cons_zero] at m0 m1 m2 m3 m4 m5 m6 m7 m8 m9 m10 m11 m12 m13
  clear hg
  have hg := cell_of_heap hR9
  have r0 := hg 0
  have r1 := hg 1
  have r2 := hg 2
  have r3 := hg 3
  have r4 := hg 4
  have r5 := hg 5
  have r6 := hg 6
  have r7 := hg 7
  have r8 := hg 8
  have r9 := hg 9
  have r10 := hg 10
  have r11 := hg 11
  have r12 := hg 12
  have r13 := hg 13
  simp only [List.getElem?_toArray, List.getElem?_cons_succ, List.getElem?_cons_zero] at r0 r1 r2 r3 r4 r5 r6 r7 r8 r9 r10 r11 r12 r13
  clear hg
  have hby := HB2.out.trans (HB7.out.mono HB2.out.size)
  have HANS := Go.Lib.hid hans
  have HBY := Go.Lib.hid hby
  clear hans hby
  clear hM9 hR9
  go_wp2_with fail
  refine HANS.out.mono ?_; rintro e wz ⟨rfl, hx⟩
  have hbz := HBY.out.trans (hx.mono HBY.out.size)
  have HBZ := Go.Lib.hid hbz
  clear hbz
  clear hx m0 m1 m2 m3 m4 m5 m6 m7 m8 m9 m10 m11 m12 m13 r0 r1 r2 r3 r4 r5 r6 r7 r8 r9 r10 r11 r12 r13
  go_wp2_with fail
  refine (HAW.out _).mono ?_; rintro e wy ⟨rfl, hx⟩
  have HXX := Go.Lib.hid hx
  clear hx
  go_wp2_with fail
  go_ret
  exact ⟨rfl, HBZ.out.trans (HXX.out.mono HBZ.out.size)⟩


theorem walk (id : Int) (s : ByteArray) (t c k : Int) (w : World) (hid : Fits id) (hs : s.size ≤ maxLen) (ht : Fits t) (hc : Fits c) (hk : Fits k) :
    Calls Try.prog 4 #[.int .i64 id, .string s, .int .i64 t, .int .i64 c, .int .i64 k] w fun e w' => e = .returned (.bool true) ∧ Below w.heap.size w w' := by
  obtain ⟨n, rfl⟩ : ∃ n, s = mk n := ⟨bl s, (mk_bl s).symm⟩
  rw [size_mk] at hs
  have haw := Go.Lib.hid awake5_any
  have hv := fun (b : Bool) (hb : Nm.valid n = b) => Go.Lib.hid fun (W : World) => (by have h := refValid_any (mk n) W; rw [bl_mk, hb] at h; exact h : Calls Try.prog 23 #[.string (mk n)] W fun e w' => e = .returned (.bool b) ∧ Below W.heap.size W w')
  by_cases h0 : 300 < n.length
  · exact t1 id t c k n w hs h0 haw
  have h0 := Nat.le_of_not_lt h0
  cases hvb : Nm.valid n with
  | false => exact t2 id t c k n w hs h0 haw (hv _ hvb)
  | true =>
    by_cases hbad : t < 0 ∨ (0 ≤ t ∧ 60000 < t) ∨ (0 ≤ t ∧ t ≤ 60000 ∧ c < 0) ∨ (0 ≤ t ∧ t ≤ 60000 ∧ 0 ≤ c ∧ 60000 < c)
    · exact t3 id t c k n w hs h0 hbad haw (hv _ hvb)
    have h1 : 0 ≤ t := by omega
    have h2 : t ≤ 60000 := by omega
    have h3 : 0 ≤ c := by omega
    have h4 : c ≤ 60000 := by omega
    have hfl : (Nm.foldN n).length ≤ 300 := by rw [Nm.foldN_length]; exact h0
    have hsame : Nm.sameN n (Nm.foldN n) = true := by rw [Nm.foldN_valid hvb]; exact Nm.same_foldB hvb
    have hs7 : Nm.sameN n ([1, 113] ++ Nm.foldN n) = false := by
      unfold Nm.sameN
      have hb : (Nm.foldB n == Nm.foldB ([1, 113] ++ Nm.foldN n)) = false := by
        rw [beq_eq_false_iff_ne]
        intro e
        have := congrArg List.length e
        simp [Nm.foldB, Nm.foldN_length] at this
        omega
      rw [hb]
      simp
    have hfo := Go.Lib.hid fun (W : World) => (by have h := refFold_any (mk n) W (by rw [size_mk]; exact hs); rw [bl_mk] at h; exact h : Calls Try.prog 24 #[.string (mk n)] W fun e w' => e = .returned (.string (mk (Nm.foldN n))) ∧ Below W.heap.size W w')
    have hask := Go.Lib.hid fun (W : World) => Ask_any id ⟨n, t, c⟩ W
    have hi0 : 0 ≤ bits .and .i64 id 65535 := by rw [and16]; omega
    have hi1 : bits .and .i64 id 65535 < 65536 := by rw [and16]; omega
    have hrn := fun (q : Int) (hq : k % 8 = q) => Go.Lib.hid fun (W : World) => (by have h := Round_any k 8 W (by decide) (by decide); rw [hq] at h; exact h : Calls Try.prog 25 #[.int .i64 k, .int .i64 8] W fun e w' => e = .returned (.int .i64 q) ∧ W = w')
    have hfm : (Nm.foldN n).length ≤ maxLen := by unfold maxLen; omega
    have hcase : k % 8 = 0 ∨ k % 8 = 1 ∨ k % 8 = 2 ∨ k % 8 = 3 ∨ k % 8 = 4 ∨ k % 8 = 5 ∨ k % 8 = 6 ∨ k % 8 = 7 := by omega
    rcases hcase with h | h | h | h | h | h | h | h
    · exact k0 id t c k _ n _ w hs h0 h1 h2 h3 h4 hi0 hi1 (Go.Lib.hid hs) (Go.Lib.hid hfm) (Go.Lib.hid hfl) (Go.Lib.hid hsame) (Go.Lib.hid hs7) haw (hv _ hvb) hask hfo (hrn _ h)
    · exact k1 id t c k _ n _ w hs h0 h1 h2 h3 h4 hi0 hi1 (Go.Lib.hid hs) (Go.Lib.hid hfm) (Go.Lib.hid hfl) (Go.Lib.hid hsame) (Go.Lib.hid hs7) haw (hv _ hvb) hask hfo (hrn _ h)
    · exact k2 id t c k _ n _ w hs h0 h1 h2 h3 h4 hi0 hi1 (Go.Lib.hid hs) (Go.Lib.hid hfm) (Go.Lib.hid hfl) (Go.Lib.hid hsame) (Go.Lib.hid hs7) haw (hv _ hvb) hask hfo (hrn _ h)
    · exact k3 id t c k _ n _ w hs h0 h1 h2 h3 h4 hi0 hi1 (Go.Lib.hid hs) (Go.Lib.hid hfm) (Go.Lib.hid hfl) (Go.Lib.hid hsame) (Go.Lib.hid hs7) haw (hv _ hvb) hask hfo (hrn _ h)
    · exact k4 id t c k _ n _ w hs h0 h1 h2 h3 h4 hi0 hi1 (Go.Lib.hid hs) (Go.Lib.hid hfm) (Go.Lib.hid hfl) (Go.Lib.hid hsame) (Go.Lib.hid hs7) haw (hv _ hvb) hask hfo (hrn _ h)
    · exact k5 id t c k _ n _ w hs h0 h1 h2 h3 h4 hi0 hi1 (Go.Lib.hid hs) (Go.Lib.hid hfm) (Go.Lib.hid hfl) (Go.Lib.hid hsame) (Go.Lib.hid hs7) haw (hv _ hvb) hask hfo (hrn _ h)
    · exact k6 id t c k _ n _ w hs h0 h1 h2 h3 h4 hi0 hi1 (Go.Lib.hid hs) (Go.Lib.hid hfm) (Go.Lib.hid hfl) (Go.Lib.hid hsame) (Go.Lib.hid hs7) haw (hv _ hvb) hask hfo (hrn _ h)
    · exact k7 id t c k _ n _ w hs h0 h1 h2 h3 h4 hi0 hi1 (Go.Lib.hid hs) (Go.Lib.hid hfm) (Go.Lib.hid hfl) (Go.Lib.hid hsame) (Go.Lib.hid hs7) haw (hv _ hvb) hask hfo (hrn _ h)

set_option maxRecDepth 100000 in
theorem lifted (os : Os) (started : os.Started) (H : Type) (enc : TypeId × Value → H) :
    ReturnsInHanded {} Try.checked os 4 .any (Rows.matchAnswersSpec.pre6 enc Try.prog Try.f4 Rows.matchAnswersRow.domain false) (Rows.matchAnswersSpec.post enc Try.prog Try.f4 false true false false) := by
  refine returnsInHanded_of_change (C := Try.checked) own started (by kernel_rfl) Try.func4
    (ChangeSpec.witness6 (enc := enc) (C := Try.checked) false ⟨#[], #[.int .i64 0, .string ⟨#[]⟩, .int .i64 0, .int .i64 0, .int .i64 0], []⟩ 8 (by kernel_rfl) (by kernel_rfl) (by kernel_rfl) (by kernel_rfl)) ?_
  intro W base args ds gs before hval0 hW hcnd _
  have hval : ∀ (j : Nat) t v, Try.f4.params[j]? = some t → args[j]? = some v → Value.okWide Try.prog W .any base t v := hval0
  refine law_post enc 5 (by kernel_rfl) rfl rfl (by kernel_rfl) (fun ds h => match ds, h with | [_, _, _, _, _], _ => rfl) hW ?_
  obtain ⟨p, q, hA0, hV, rfl, _, _⟩ := hW
  have hA : DataW.TrodAll enc Try.prog W 0 (fun _ => true) true Try.f4.params.toList args.toList ds p := hA0
  rw [Try.params4] at hA hval
  obtain ⟨v0, vs0, d0, ds0, p0, q0, hargs, rfl, rfl, h0, r0⟩ := trodAll_cons hA
  obtain ⟨v1, vs1, d1, ds1, p1, q1, rfl, rfl, rfl, h1, r1⟩ := trodAll_cons r0
  obtain ⟨v2, vs2, d2, ds2, p2, q2, rfl, rfl, rfl, h2, r2⟩ := trodAll_cons r1
  obtain ⟨v3, vs3, d3, ds3, p3, q3, rfl, rfl, rfl, h3, r3⟩ := trodAll_cons r2
  obtain ⟨v4, vs4, d4, ds4, p4, q4, rfl, rfl, rfl, h4, r4⟩ := trodAll_cons r3
  obtain ⟨rfl, rfl, rfl⟩ := trodAll_nil r4
  obtain rfl : args = #[v0, v1, v2, v3, v4] := by cases args; simp_all
  obtain ⟨a0, rfl, rfl, rfl, w0⟩ := open_int Try.underlying3 (hval 0 3 v0 rfl rfl) h0
  obtain ⟨s1, rfl, rfl, rfl, w1⟩ := open_string Try.underlying9 (hval 1 9 v1 rfl rfl) h1
  obtain ⟨a2, rfl, rfl, rfl, w2⟩ := open_int Try.underlying3 (hval 2 3 v2 rfl rfl) h2
  obtain ⟨a3, rfl, rfl, rfl, w3⟩ := open_int Try.underlying3 (hval 3 3 v3 rfl rfl) h3
  obtain ⟨a4, rfl, rfl, rfl, w4⟩ := open_int Try.underlying3 (hval 4 3 v4 rfl rfl) h4
  exact walk a0 s1 a2 a3 a4 W (fits_of_wf w0) w1 (fits_of_wf w2) (fits_of_wf w3) (fits_of_wf w4)

theorem over : Rows.matchAnswersRow.holds Try.pinned (OpenSpec.ofChange Rows.matchAnswersSpec) :=
  OpenClaim.holds_of_wide 4 Try.f4 rfl rfl rfl rfl rfl rfl rfl ⟨rfl, rfl, rfl, rfl, rfl⟩ rfl rfl rfl rfl rfl (by kernel_rfl) Try.func4 (by kernel_rfl)
    (of_decide_eq_true (by kernel_rfl)) (by unfold Func.isWrapper; first | (rw [if_pos (by decide +kernel)]; kernel_rfl) | (rw [if_neg (by decide +kernel)]; exact ⟨rfl, rfl⟩))
    (fun os started H enc _ => lifted os started H enc)

/-- the statement -/
theorem proved : Rows.MatchAnswersSaid := over
#print axioms proved
end Go.Proofs.Ytcamopppeanipaa.matchAnswers

