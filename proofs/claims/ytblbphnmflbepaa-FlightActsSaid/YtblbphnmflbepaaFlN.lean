/- Flight: what the document fixes: sent, awake. -/
import Derived.Test.YtblbphnmflbepaaFlM
namespace Go.Proofs.Ytblbphnmflbepaa
open Go.RowKit Go.Lib
set_option linter.unusedVariables false

def sentN (j i p a : Int) : Sn := ⟨j, i, p, [0], a, [1, 97, 0], 1, 1, [0]⟩
theorem jobsUp_nil : JobsUp [] := fun a b _ h => by simp at h
theorem jobsUp_one (s : Sn) : JobsUp [s] := fun a b h1 h2 => by simp at h2; omega
theorem ret_sn1 {fn : Func} {p : Tmp} {a : Act} {W : World} {R : Ending → World → Prop} {s : Sn} {g : Nat} (hr : fn.results = #[.cell p 36]) (hp : a.tmps.getD p undef = .pointer (some ⟨g, 0, none⟩)) (hd : a.defers = [])
    (hg : W.heap[g]? = some (.cells (snA s) 36 (0, 0))) (h : R (.returned (snV s)) W) : bodyPost Try.prog fn R Exit.ret a W := by
  obtain ⟨fs, hu⟩ : ∃ fs, Try.prog.underlying 36 = some (.struct fs) := ⟨_, Try.underlying36⟩
  exact bodyPost_ret (results_cell_row hr _ _ g _ _ (0, 0) _ hp hg hu rfl sn_size) hd h
theorem sent_any (j i p a : Int) (w : World) : Calls Try.prog 20 #[.int .i64 j, .int .i64 i, .int .i64 p, .int .i64 a] w fun e w' => e = .returned (snV (sentN j i p a)) ∧ Below w.heap.size w w' := by
  go_enter Try.func20, Try.ntmps20
  go_wp2_with fail
  refine ret_sn1 (s := sentN j i p a) rfl rfl rfl (heap_alloc_new _ _) ⟨rfl, (Below.refl _ w).alloc (Nat.le_refl _) _⟩
theorem Add_nil (s : Sn) (w : World) : Calls Try.prog 10 #[.pointer none, snV s] w fun e w' => e = .returned (.int .i64 4) ∧ Below w.heap.size w w' := by
  go_enter Try.func10, Try.ntmps10
  go_wp2_with fail
  go_ret
  exact ⟨rfl, (Below.refl _ w).alloc (Nat.le_refl _) _⟩

def mFl : Msg := replyN (askN 6 ⟨[1, 97, 0], 1, 1⟩) 0 [] []
theorem bitsF : bits .and .i64 6 65535 = 6 := by decide +kernel
theorem aw1 : addN (max 1 0) [] (sentN 1 5 9 7) = ([sentN 1 5 9 7], 0) := by decide +kernel
theorem aw2 : addN (max 1 0) [sentN 1 5 9 7] (sentN 2 5 9 7) = ([sentN 1 5 9 7], 4) := by decide +kernel
theorem aw3 : addN (max 1 0) [sentN 1 5 9 7] (sentN 1 6 9 7) = ([sentN 1 6 9 7], 0) := by decide +kernel
theorem aw4 : matchN 7 9 mFl [sentN 1 6 9 7] = (sentN 1 6 9 7, true) := by decide +kernel
theorem aw5 : matchN 7 8 mFl [sentN 1 6 9 7] = (s0, false) := by decide +kernel
theorem aw6 : matchN 6 9 mFl [sentN 1 6 9 7] = (s0, false) := by decide +kernel
theorem aw7 : dropN [sentN 1 6 9 7] 1 = ([], sentN 1 6 9 7, 0) := by decide +kernel
theorem aw8 : dropN [] 1 = ([], s0, 5) := by decide +kernel
theorem snOk_one {j i p a : Int} : SnOk [sentN j i p a] := fun s hs => by
  obtain rfl := List.mem_singleton.1 hs
  exact (by decide : (3 : Nat) ≤ maxLen)
/-- the cells of a box in later worlds -/
theorem cells_later {X : World} {B : Nat} {cs : Array Value} {T : TypeId} {fr : Nat × Nat} (h : X.heap[B]? = some (.cells cs T fr)) (i : Nat) (v : Value) (hv : cs[i]? = some v) : ∀ W', Below X.heap.size X W' → W'.cell? ⟨B, i, none⟩ = some v := fun W' hb =>
  (hb.cell (p := ⟨B, i, none⟩) (Array.getElem?_eq_some_iff.1 h).1).trans (by simp [World.cell?, h, hv])
theorem fld_sent (w : World) : (Instr.field 36 (snV (sentN 1 1 1 1)) 4).run Try.prog w = .ok (.agg #[.string (mk [1, 97, 0]), .int .i64 1, .int .i64 1]) w := by kernel_rfl
set_option maxRecDepth 100000 in
set_option maxHeartbeats 8000000 in
theorem awake_any (w : World) : Calls Try.prog 8 #[] w fun e w' => e = .returned (.bool true) ∧ Below w.heap.size w w' := by
  have hnew := New_any w.heap.size 1 w (Nat.le_refl _)
  have HNEW := Go.Lib.hid hnew
  clear hnew
  go_enter Try.func8, Try.ntmps8
  go_wp2_with fail
  refine HNEW.out.mono ?_; rintro e w1 ⟨rfl, hT, hb, hlt⟩
  have HT1 := Go.Lib.hid hT
  have HB1 := Go.Lib.hid hb
  clear hT hb
  clear HNEW
  go_wp2_with fail
  refine (sent_any 1 5 9 7 w1).mono ?_; rintro e w2 ⟨rfl, hx⟩
  have hT2 := HT1.out.below hx
  have hb2 := HB1.out.trans (hx.mono HB1.out.size)
  have hadd := Add_any w.heap.size w.heap.size (max 1 0) [] (sentN 1 5 9 7) w2 hT2 jobsUp_nil (by simp) hb2.size
  rw [aw1] at hadd
  have HB2 := Go.Lib.hid hb2
  have HADD := Go.Lib.hid hadd
  clear hb2 hadd
  clear hx hT2 HT1 HB1
  go_wp2_with fail
  refine HADD.out.mono ?_; rintro e w3 ⟨rfl, hT3, hx, _⟩
  have hb3 := HB2.out.trans hx
  have HT3 := Go.Lib.hid hT3
  have HB3 := Go.Lib.hid hb3
  clear hT3 hb3
  clear hx HADD HB2
  go_wp2_with fail
  refine (sent_any 2 5 9 7 w3).mono ?_; rintro e w4 ⟨rfl, hx⟩
  have hT2 := HT3.out.below hx
  have hb2 := HB3.out.trans (hx.mono HB3.out.size)
  have hadd := Add_any w.heap.size w.heap.size (max 1 0) [sentN 1 5 9 7] (sentN 2 5 9 7) w4 hT2 (jobsUp_one _) (by simp) hb2.size
  rw [aw2] at hadd
  have HB2 := Go.Lib.hid hb2
  have HADD := Go.Lib.hid hadd
  clear hb2 hadd
  clear hx hT2 HT3 HB3
  go_wp2_with fail
  refine HADD.out.mono ?_; rintro e w5 ⟨rfl, hT3, hx, _⟩
  have hb3 := HB2.out.trans hx
  have HT3 := Go.Lib.hid hT3
  have HB3 := Go.Lib.hid hb3
  clear hT3 hb3
  clear hx HADD HB2
  go_wp2_with fail
  refine (sent_any 1 6 9 7 w5).mono ?_; rintro e w6 ⟨rfl, hx⟩
  have hT2 := HT3.out.below hx
  have hb2 := HB3.out.trans (hx.mono HB3.out.size)
  have hadd := Add_any w.heap.size w.heap.size (max 1 0) [sentN 1 5 9 7] (sentN 1 6 9 7) w6 hT2 (jobsUp_one _) (by simp) hb2.size
  rw [aw3] at hadd
  have HB2 := Go.Lib.hid hb2
  have HADD := Go.Lib.hid hadd
  clear hb2 hadd
  clear hx hT2 HT3 HB3
  go_wp2_with fail
  refine HADD.out.mono ?_; rintro e w7 ⟨rfl, hT3, hx, _⟩
  have hb3 := HB2.out.trans hx
  have HT3 := Go.Lib.hid hT3
  have HB3 := Go.Lib.hid hb3
  clear hT3 hb3
  clear hx HADD HB2
  go_wp2_with fail
  refine (sent_any 1 1 1 1 w7).mono ?_; rintro e w8 ⟨rfl, hx⟩
  have hT2 := HT3.out.below hx
  have hb2 := HB3.out.trans (hx.mono HB3.out.size)
  have hask := refAsk_any 6 ⟨[1, 97, 0], 1, 1⟩ w8
  have hfld := fld_sent w8
  rw [bitsF] at hask
  have HB2 := Go.Lib.hid hb2
  have HT2 := Go.Lib.hid hT2
  have HASK := Go.Lib.hid hask
  clear hb2 hT2 hask
  clear hx HT3 HB3
  go_wp2_with fail
  refine HASK.out.mono ?_; rintro e w9 ⟨f1, f2, f3, f4, rfl, htm, hx⟩
  have hT2 := HT2.out.below hx
  have hb2 := HB2.out.trans (hx.mono HB2.out.size)
  have hrep : Calls Try.prog 22 #[MV (askN 6 ⟨[1, 97, 0], 1, 1⟩) f1 f2 f3 f4, .int .i64 0, .slice none 0 0, .slice none 0 0] w9 (RetM w9 mFl) := refReply_any (askN 6 ⟨[1, 97, 0], 1, 1⟩) f1 f2 f3 f4 0 (.slice none 0 0) (.slice none 0 0) [] [] w9 htm.lies (SlC.nil _ _) (SlC.nil _ _) (by simp [askN]) (by simp) (by simp)
  have HB3 := Go.Lib.hid hb2
  have HT3 := Go.Lib.hid hT2
  have HREP := Go.Lib.hid hrep
  clear hb2 hT2 hrep
  clear hx HT2 HB2 HASK htm hfld
  go_wp2_with fail
  refine HREP.out.mono ?_; rintro e w10 ⟨f5, f6, f7, f8, rfl, htm, hx⟩
  have hT2 := HT3.out.below hx
  have hb2 := HB3.out.trans (hx.mono HB3.out.size)
  have hml := htm.lies
  obtain ⟨aq, cq, rfl, _, _⟩ := hml.qs.slice
  obtain ⟨aa, ca, rfl, _, _⟩ := hml.an.slice
  obtain ⟨asv, cs, rfl, _, _⟩ := hml.sv.slice
  obtain ⟨ad, cd, rfl, _, _⟩ := hml.ad.slice
  obtain ⟨X, hX⟩ : ∃ X, w10.alloc (.cells #[.int .i64 mFl.id, .bool mFl.resp, .int .i64 mFl.op, .bool mFl.auth, .bool mFl.cut, .bool mFl.des, .bool mFl.avail, .int .i64 mFl.code, .slice aq mFl.qs.length cq, .slice aa mFl.an.length ca, .slice asv mFl.sv.length cs, .slice ad mFl.ad.length cd, .bool mFl.edns, .int .i64 mFl.size] 40) = X := ⟨_, rfl⟩
  have hwX : Below w10.heap.size w10 X := by rw [← hX]; exact (Below.refl _ _).alloc (Nat.le_refl _) _
  have hXh : X.heap[w10.heap.size]? = some (.cells (MC mFl (.slice aq mFl.qs.length cq) (.slice aa mFl.an.length ca) (.slice asv mFl.sv.length cs) (.slice ad mFl.ad.length cd)) 40 (0, 0)) := by rw [← hX]; exact heap_alloc_new _ _
  have m0 := cells_later hXh 0 _ rfl
  have m1 := cells_later hXh 1 _ rfl
  have m2 := cells_later hXh 2 _ rfl
  have m3 := cells_later hXh 3 _ rfl
  have m4 := cells_later hXh 4 _ rfl
  have m5 := cells_later hXh 5 _ rfl
  have m6 := cells_later hXh 6 _ rfl
  have m7 := cells_later hXh 7 _ rfl
  have m8 := cells_later hXh 8 _ rfl
  have m9 := cells_later hXh 9 _ rfl
  have m10 := cells_later hXh 10 _ rfl
  have m11 := cells_later hXh 11 _ rfl
  have m12 := cells_later hXh 12 _ rfl
  have m13 := cells_later hXh 13 _ rfl
  have hTX := hT2.below hwX
  have hbX := hb2.trans (hwX.mono hb2.size)
  have hmX := hml.below hwX (Nat.le_refl _)
  have hXX : Below X.heap.size X X := Below.refl _ _
  have hqn : ∀ x ∈ mFl.qs, x.name.length ≤ maxLen := fun x hx => by
    obtain rfl : x = ⟨[1, 97, 0], 1, 1⟩ := by simpa [mFl, replyN, askN] using hx
    decide
  have hm1 := Match_any w.heap.size w.heap.size (max 1 0) [sentN 1 6 9 7] 7 9 mFl _ _ _ _ X hTX (by simp) hmX hqn snOk_one
  rw [aw4] at hm1
  have HT4 := Go.Lib.hid hT2
  have HBX := Go.Lib.hid hbX
  have HTX := Go.Lib.hid hTX
  have HMX := Go.Lib.hid hmX
  have HM1 := Go.Lib.hid hm1
  have HXH := Go.Lib.hid hXh
  have HQN := Go.Lib.hid hqn
  clear hT2 hbX hTX hmX hm1 hXh hqn
  clear hx HT3 HB3 HREP htm hml hwX hb2
  go_wp2_with fail
  refine HM1.out.mono ?_; rintro e w11 ⟨rfl, hx⟩
  have hT11 := HTX.out.below hx
  obtain ⟨Y, hY⟩ : ∃ Y, w11.alloc (.cells #[.int .i64 (sentN 1 6 9 7).job, .int .i64 (sentN 1 6 9 7).id, .int .i64 (sentN 1 6 9 7).port, .string (mk (sentN 1 6 9 7).sn), .int .i64 (sentN 1 6 9 7).sa, .string (mk (sentN 1 6 9 7).qn), .int .i64 (sentN 1 6 9 7).qt, .int .i64 (sentN 1 6 9 7).qc, .string (mk (sentN 1 6 9 7).zone)] 36) = Y := ⟨_, rfl⟩
  have hwY : Below w11.heap.size w11 Y := by rw [← hY]; exact (Below.refl _ _).alloc (Nat.le_refl _) _
  have y6 : Y.heap[w11.heap.size]? = some (.cells (snA (sentN 1 6 9 7)) 36 (0, 0)) := by rw [← hY]; exact heap_alloc_new _ _
  have hXY : Below X.heap.size X Y := hx.trans (hwY.mono hx.size)
  have hTY := HTX.out.below hXY
  have hm2 := Match_any w.heap.size w.heap.size (max 1 0) [sentN 1 6 9 7] 7 8 mFl _ _ _ _ Y hTY (by simp) (HMX.out.below hXY (Nat.le_refl _)) HQN.out snOk_one
  rw [aw5] at hm2
  have HT11 := Go.Lib.hid hT11
  have HTY := Go.Lib.hid hTY
  have HM2 := Go.Lib.hid hm2
  have HWY := Go.Lib.hid hwY
  have HY6 := Go.Lib.hid y6
  clear hT11 hTY hm2 hwY y6
  clear hx HM1
  go_wp2_with fail
  refine HM2.out.mono ?_; rintro e w12 ⟨rfl, hx⟩
  obtain ⟨Z, hZ⟩ : ∃ Z, w12.alloc (.cells #[.int .i64 s0.job, .int .i64 s0.id, .int .i64 s0.port, .string (mk s0.sn), .int .i64 s0.sa, .string (mk s0.qn), .int .i64 s0.qt, .int .i64 s0.qc, .string (mk s0.zone)] 36) = Z := ⟨_, rfl⟩
  have hwZ : Below w12.heap.size w12 Z := by rw [← hZ]; exact (Below.refl _ _).alloc (Nat.le_refl _) _
  have hYZ : Below Y.heap.size Y Z := hx.trans (hwZ.mono hx.size)
  have hXZ : Below X.heap.size X Z := hXY.trans (hYZ.mono hXY.size)
  have hTZ := HTX.out.below hXZ
  have hm3 := Match_any w.heap.size w.heap.size (max 1 0) [sentN 1 6 9 7] 6 9 mFl _ _ _ _ Z hTZ (by simp) (HMX.out.below hXZ (Nat.le_refl _)) HQN.out snOk_one
  rw [aw6] at hm3
  have HM3 := Go.Lib.hid hm3
  have HYZ := Go.Lib.hid hYZ
  clear hm3 hYZ
  clear hx HM2 hwZ hTZ
  go_wp2_with fail
  refine HM3.out.mono ?_; rintro e w13 ⟨rfl, hx⟩
  obtain ⟨U, hU⟩ : ∃ U, w13.alloc (.cells #[.int .i64 s0.job, .int .i64 s0.id, .int .i64 s0.port, .string (mk s0.sn), .int .i64 s0.sa, .string (mk s0.qn), .int .i64 s0.qt, .int .i64 s0.qc, .string (mk s0.zone)] 36) = U := ⟨_, rfl⟩
  have hwU : Below w13.heap.size w13 U := by rw [← hU]; exact (Below.refl _ _).alloc (Nat.le_refl _) _
  have hZU : Below Z.heap.size Z U := hx.trans (hwU.mono hx.size)
  have hXU : Below X.heap.size X U := hXZ.trans (hZU.mono hXZ.size)
  have hYU : Below Y.heap.size Y U := HYZ.out.trans (hZU.mono HYZ.out.size)
  have hTU := HTX.out.below hXU
  have hbU := HBX.out.trans (hXU.mono HBX.out.size)
  have hd1 := Drop_any w.heap.size w.heap.size (max 1 0) [sentN 1 6 9 7] 1 U hTU (jobsUp_one _) (by simp) hbU.size
  rw [aw7] at hd1
  have h11 : w11.heap.size < Y.heap.size := (Array.getElem?_eq_some_iff.1 HY6.out).1
  have hb11 : w.heap.size < w11.heap.size := HT11.out.lt
  have u6 : U.heap[w11.heap.size]? = _ := (hYU.block _ h11).trans HY6.out
  have r6 : rowOf w.heap.size U ≠ some w11.heap.size := by
    rw [rowOf_same (hYU.block _ (by omega)), rowOf_same (HWY.out.block _ hb11)]
    exact fun e => Nat.lt_irrefl _ (HT11.out.row_lt _ e)
  have l6 := (Array.getElem?_eq_some_iff.1 u6).1
  have HD1 := Go.Lib.hid hd1
  have HBU := Go.Lib.hid hbU
  have HU6 := Go.Lib.hid u6
  have HR6 := Go.Lib.hid r6
  have HL6 := Go.Lib.hid l6
  have H11 := Go.Lib.hid h11
  have HB11 := Go.Lib.hid hb11
  clear hd1 hbU u6 r6 l6 h11 hb11
  clear hx HM3 hXY hXZ hXU hYU hTU hwU hZU m0 m1 m2 m3 m4 m5 m6 m7 m8 m9 m10 m11 m12 m13 hX hXX hY hZ
  go_wp2_with fail
  refine HD1.out.mono ?_; rintro e w14 ⟨rfl, hT14, hb14, hk14⟩
  obtain ⟨V, hV⟩ : ∃ V, w14.alloc (.cells #[.int .i64 (sentN 1 6 9 7).job, .int .i64 (sentN 1 6 9 7).id, .int .i64 (sentN 1 6 9 7).port, .string (mk (sentN 1 6 9 7).sn), .int .i64 (sentN 1 6 9 7).sa, .string (mk (sentN 1 6 9 7).qn), .int .i64 (sentN 1 6 9 7).qt, .int .i64 (sentN 1 6 9 7).qc, .string (mk (sentN 1 6 9 7).zone)] 36) = V := ⟨_, rfl⟩
  have hwV : Below w14.heap.size w14 V := by rw [← hV]; exact (Below.refl _ _).alloc (Nat.le_refl _) _
  have hTV := hT14.below hwV
  have hbV := (HBU.out.trans hb14).trans (hwV.mono (HBU.out.trans hb14).size)
  have v6 : V.heap[w11.heap.size]? = _ := (hwV.block _ (Nat.lt_of_lt_of_le HL6.out hk14.size)).trans ((hk14.block _ HL6.out (by have := HB11.out; omega) HR6.out).trans HU6.out)
  have rv6 : rowOf w.heap.size V ≠ some w11.heap.size := by rw [rowOf_same (hwV.block _ hT14.lt)]; exact hk14.old HL6.out HR6.out
  have v12 : V.heap[w14.heap.size]? = some (.cells (snA (sentN 1 6 9 7)) 36 (0, 0)) := by rw [← hV]; exact heap_alloc_new _ _
  have rv12 : rowOf w.heap.size V ≠ some w14.heap.size := by rw [rowOf_same (hwV.block _ hT14.lt)]; exact fun e => Nat.lt_irrefl _ (hT14.row_lt _ e)
  have hd2 := Drop_any w.heap.size w.heap.size (max 1 0) [] 1 V hTV jobsUp_nil (by simp) hbV.size
  rw [aw8] at hd2
  have hb14l : w.heap.size < w14.heap.size := hT14.lt
  have HD2 := Go.Lib.hid hd2
  have HBV := Go.Lib.hid hbV
  have HV6 := Go.Lib.hid v6
  have HRV6 := Go.Lib.hid rv6
  have HV12 := Go.Lib.hid v12
  have HRV12 := Go.Lib.hid rv12
  have HB14 := Go.Lib.hid hb14l
  clear hd2 hbV v6 rv6 v12 rv12 hb14l
  clear hT14 hb14 hk14 hwV hTV HD1 hU HU6 HR6 HL6 HBU
  go_wp2_with fail
  refine HD2.out.mono ?_; rintro e w15 ⟨rfl, hT15, hb15, hk15⟩
  obtain ⟨R, hR⟩ : ∃ R, w15.alloc (.cells #[.int .i64 s0.job, .int .i64 s0.id, .int .i64 s0.port, .string (mk s0.sn), .int .i64 s0.sa, .string (mk s0.qn), .int .i64 s0.qt, .int .i64 s0.qc, .string (mk s0.zone)] 36) = R := ⟨_, rfl⟩
  have hwR : Below w15.heap.size w15 R := by rw [← hR]; exact (Below.refl _ _).alloc (Nat.le_refl _) _
  have hbR := (HBV.out.trans hb15).trans (hwR.mono (HBV.out.trans hb15).size)
  have q6 := (hwR.block _ (Nat.lt_of_lt_of_le (Array.getElem?_eq_some_iff.1 HV6.out).1 hk15.size)).trans ((hk15.block _ (Array.getElem?_eq_some_iff.1 HV6.out).1 (by have := HB11.out; omega) HRV6.out).trans HV6.out)
  have q12 := (hwR.block _ (Nat.lt_of_lt_of_le (Array.getElem?_eq_some_iff.1 HV12.out).1 hk15.size)).trans ((hk15.block _ (Array.getElem?_eq_some_iff.1 HV12.out).1 (by have := HB14.out; omega) HRV12.out).trans HV12.out)
  obtain ⟨e0, e1, e2, e3, e4, e5, e6, e7, e8⟩ := SnBlk.of_heap q6
  obtain ⟨d0, d1, d2, d3, d4, d5, d6, d7, d8⟩ := SnBlk.of_heap q12
  have hid6 : ((sentN 1 6 9 7).id == 6) = true := rfl
  have HBR := Go.Lib.hid hbR
  clear hbR
  clear q6 q12 hT15 hb15 hk15 hwR HD2 hV
  go_wp2_with fail
  refine (Len_nil _).mono ?_; rintro e _ ⟨rfl, rfl⟩
  go_wp2_with fail
  refine (sent_any 1 1 1 1 _).mono ?_; rintro e wa ⟨rfl, hx⟩
  have hba := HBR.out.trans (hx.mono HBR.out.size)
  have HBA := Go.Lib.hid hba
  clear hba
  clear hx e0 e1 e2 e3 e4 e5 e6 e7 e8 d0 d1 d2 d3 d4 d5 d6 d7 d8
  go_wp2_with fail
  refine (Add_nil _ _).mono ?_; rintro e wz ⟨rfl, hx⟩
  have hbz := HBA.out.trans (hx.mono HBA.out.size)
  have HBZ := Go.Lib.hid hbz
  clear hbz
  clear hx
  go_wp2_with fail
  go_ret
  exact ⟨rfl, HBZ.out⟩
end Go.Proofs.Ytblbphnmflbepaa

