/- Merged texts of the seat, in their order: Fit, FitB, FitC. -/
import Derived.Test.YthfhmbooeemaaaaG8
import Derived.Test.YthfhmbooeemaaaaG9
/- Message: Fit: a message's bytes, cut until they are few enough. For every message. -/
namespace Go.Proofs.Ythfhmbooeemaaaa
open Go.RowKit
set_option maxRecDepth 100000
set_option linter.unusedVariables false

def cut1 (m : Msg) : Msg := ⟨m.id, m.resp, m.op, m.auth, true, m.des, m.avail, m.code, m.qs, m.an, m.sv, [], m.edns, m.size⟩
def cut2 (m : Msg) : Msg := ⟨m.id, m.resp, m.op, m.auth, true, m.des, m.avail, m.code, m.qs, m.an, [], [], m.edns, m.size⟩
def cut3 (m : Msg) : Msg := ⟨m.id, m.resp, m.op, m.auth, true, m.des, m.avail, m.code, m.qs, [], [], [], m.edns, m.size⟩
/-- does it fit? -/
def fitOk (m : Msg) (most : Int) : Bool := ((encN m).2 == 0) && decide (((encN m).1.length : Int) ≤ most)
def fitN (m : Msg) (most : Int) : List UInt8 × Int :=
  if checkM m then (if fitOk m most then ((encN m).1, 0) else if fitOk (cut1 m) most then ((encN (cut1 m)).1, 0) else if fitOk (cut2 m) most then ((encN (cut2 m)).1, 0) else if fitOk (cut3 m) most then ((encN (cut3 m)).1, 0) else ([], 3)) else ([], 1)
theorem cut_S {m : Msg} (h : MsgS m) : MsgS (cut1 m) ∧ MsgS (cut2 m) ∧ MsgS (cut3 m) := by
  have hr : ∀ (m' : Msg), (∀ r, (r ∈ m'.an ∨ r ∈ m'.sv ∨ r ∈ m'.ad) → (r ∈ m.an ∨ r ∈ m.sv ∨ r ∈ m.ad)) → ∀ x ∈ allR m', RROk x.2 := fun m' hh x hx => by
    obtain ⟨s, r⟩ := x
    obtain ⟨s', h'⟩ := mem_allR.2 (hh r (mem_allR.1 ⟨s, hx⟩))
    exact h.rr (s', r) h'
  refine ⟨⟨h.q, h.a, h.s, Nat.zero_le _, h.qn, hr _ ?_⟩, ⟨h.q, h.a, Nat.zero_le _, Nat.zero_le _, h.qn, hr _ ?_⟩, ⟨h.q, Nat.zero_le _, Nat.zero_le _, Nat.zero_le _, h.qn, hr _ ?_⟩⟩
  · rintro r (h | h | h)
    · exact .inl h
    · exact .inr (.inl h)
    · cases h
  · rintro r (h | h | h)
    · exact .inl h
    · cases h
    · cases h
  · rintro r (h | h | h) <;> cases h
theorem cut_L {w : World} {m : Msg} {q a s d : Value} (h : MsgL w m q a s d) : MsgL w (cut1 m) q a s nilS ∧ MsgL w (cut2 m) q a nilS nilS ∧ MsgL w (cut3 m) q nilS nilS nilS :=
  ⟨⟨h.qs, h.an, h.sv, SlC.nil _ _⟩, ⟨h.qs, h.an, SlC.nil _ _, SlC.nil _ _⟩, ⟨h.qs, SlC.nil _ _, SlC.nil _ _, SlC.nil _ _⟩⟩
/-- one block is stored into, no more -/
def OneSet (N : Nat) (row : Array Value) (w : World) (e : Ending) (w' : World) : Prop := (∃ v, e = .returned v) ∧ w'.heap[N]? = some (.cells row 27 (0, 0)) ∧ KeepsR N w w' ∧ (∀ B, B ≤ N → B ≤ w.heap.size → Below B w w')
theorem Fit1_any (w : World) : Calls Try.prog 56 #[] w fun e w' => (∃ v, e = .returned v) ∧ w = w' := by
  go_enter Try.func56, Try.ntmps56
  go_wp2_with fail
  go_end0
  exact ⟨⟨_, rfl⟩, rfl⟩
theorem Fit2_any (m : Msg) (q a s d : Value) (N : Nat) (w : World) (h : w.heap[N]? = some (.cells (MC m q a s d) 27 (0, 0))) (hd : ∃ x n c, d = .slice x n c) : Calls Try.prog 57 #[.pointer (some ⟨N, 0, none⟩)] w (OneSet N (MC (cut1 m) q a s nilS) w) := by
  obtain ⟨x, n, c, rfl⟩ := hd
  have c4 : w.cell? ⟨N, 4, none⟩ = some (.bool m.cut) := row_cell h 4 _ rfl
  have f4 := row_frozen h 4
  have h2 := heap_set (i := 4) (v := .bool true) h
  have hk2 := KeepsR.setCell (o := 4) (v := .bool true) (KeepsR.refl N w) h
  obtain ⟨X, hX⟩ : ∃ X, w.setCell ⟨N, 4, none⟩ (.bool true) = X := ⟨_, rfl⟩
  rw [hX] at h2 hk2
  have hbX : ∀ B, B ≤ N → B ≤ w.heap.size → Below B w X := fun B h1 h3 => by rw [← hX]; exact ((Below.refl w.heap.size w).mono h3).setCell (p := ⟨N, 4, none⟩) h1 _
  have c11 : X.cell? ⟨N, 11, none⟩ = some (.slice x n c) := row_cell h2 11 _ rfl
  have f11 := row_frozen h2 11
  have h3 := heap_set (i := 11) (v := nilS) h2
  have hk3 := hk2.setCell (o := 11) (v := nilS) h2
  have hbY : ∀ B, B ≤ N → B ≤ w.heap.size → Below B w (X.setCell ⟨N, 11, none⟩ nilS) := fun B h1 h4 => (hbX B h1 h4).setCell (p := ⟨N, 11, none⟩) h1 _
  have H := Go.Lib.hid h
  have H2 := Go.Lib.hid h2
  have H3 := Go.Lib.hid h3
  have HK2 := Go.Lib.hid hk2
  have HK3 := Go.Lib.hid hk3
  have HBX := Go.Lib.hid hbX
  have HBY := Go.Lib.hid hbY
  clear h h2 h3 hk2 hk3 hbX hbY
  go_enter Try.func57, Try.ntmps57
  go_wp2_with fail
  go_end0
  exact ⟨⟨_, rfl⟩, H3.out, HK3.out, HBY.out⟩
theorem Fit3_any (m : Msg) (q a s d : Value) (N : Nat) (w : World) (h : w.heap[N]? = some (.cells (MC (cut1 m) q a s nilS) 27 (0, 0))) (hd : ∃ x n c, s = .slice x n c) : Calls Try.prog 58 #[.pointer (some ⟨N, 0, none⟩)] w (OneSet N (MC (cut2 m) q a nilS nilS) w) := by
  obtain ⟨x, n, c, rfl⟩ := hd
  have c10 : w.cell? ⟨N, 10, none⟩ = some (.slice x n c) := row_cell h 10 _ rfl
  have f10 := row_frozen h 10
  have h2 := heap_set (i := 10) (v := nilS) h
  have hk2 := KeepsR.setCell (o := 10) (v := nilS) (KeepsR.refl N w) h
  have hbX : ∀ B, B ≤ N → B ≤ w.heap.size → Below B w (w.setCell ⟨N, 10, none⟩ nilS) := fun B h1 h3 => ((Below.refl w.heap.size w).mono h3).setCell (p := ⟨N, 10, none⟩) h1 _
  have H := Go.Lib.hid h
  have H2 := Go.Lib.hid h2
  have HK2 := Go.Lib.hid hk2
  have HBX := Go.Lib.hid hbX
  clear h h2 hk2 hbX
  go_enter Try.func58, Try.ntmps58
  go_wp2_with fail
  go_end0
  exact ⟨⟨_, rfl⟩, H2.out, HK2.out, HBX.out⟩
theorem Fit4_any (m : Msg) (q a s d : Value) (N : Nat) (w : World) (h : w.heap[N]? = some (.cells (MC (cut2 m) q a nilS nilS) 27 (0, 0))) (hd : ∃ x n c, a = .slice x n c) : Calls Try.prog 59 #[.pointer (some ⟨N, 0, none⟩)] w (OneSet N (MC (cut3 m) q nilS nilS nilS) w) := by
  obtain ⟨x, n, c, rfl⟩ := hd
  have c9 : w.cell? ⟨N, 9, none⟩ = some (.slice x n c) := row_cell h 9 _ rfl
  have f9 := row_frozen h 9
  have h2 := heap_set (i := 9) (v := nilS) h
  have hk2 := KeepsR.setCell (o := 9) (v := nilS) (KeepsR.refl N w) h
  have hbX : ∀ B, B ≤ N → B ≤ w.heap.size → Below B w (w.setCell ⟨N, 9, none⟩ nilS) := fun B h1 h3 => ((Below.refl w.heap.size w).mono h3).setCell (p := ⟨N, 9, none⟩) h1 _
  have H := Go.Lib.hid h
  have H2 := Go.Lib.hid h2
  have HK2 := Go.Lib.hid hk2
  have HBX := Go.Lib.hid hbX
  clear h h2 hk2 hbX
  go_enter Try.func59, Try.ntmps59
  go_wp2_with fail
  go_end0
  exact ⟨⟨_, rfl⟩, H2.out, HK2.out, HBX.out⟩
end Go.Proofs.Ythfhmbooeemaaaa

/- Message: Fit's walk. For every message. -/
namespace Go.Proofs.Ythfhmbooeemaaaa
open Go.RowKit
set_option maxRecDepth 100000
set_option linter.unusedVariables false

/-- the functions of Fit's list -/
abbrev fitFs (N : Nat) : Array Value := #[.func (.func 56) #[] #[], .func (.func 57) #[] #[.pointer (some ⟨N, 0, none⟩)], .func (.func 58) #[] #[.pointer (some ⟨N, 0, none⟩)], .func (.func 59) #[] #[.pointer (some ⟨N, 0, none⟩)]]
/-- the message before the k-th try, its cells -/
def fitRow (m : Msg) (q a s d : Value) : Nat → Array Value
  | 0 => MC m q a s d
  | 1 => MC m q a s d
  | 2 => MC (cut1 m) q a s nilS
  | 3 => MC (cut2 m) q a nilS nilS
  | _ => MC (cut3 m) q nilS nilS nilS
/-- none that was tried fits -/
def noFit (m : Msg) (most : Int) (k : Nat) : Prop := (1 ≤ k → fitOk m most = false) ∧ (2 ≤ k → fitOk (cut1 m) most = false) ∧ (3 ≤ k → fitOk (cut2 m) most = false) ∧ (4 ≤ k → fitOk (cut3 m) most = false)
set_option maxHeartbeats 4000000 in
theorem Fit_bad (m : Msg) (q a s d : Value) (most : Int) (w : World) (hm : MsgL w m q a s d) (hs : MsgS m) (hc : checkM m = false) : Calls Try.prog 25 #[MV m q a s d, .int .i64 most] w (EncEnd w (fitN m most)) := by
  have hF : fitN m most = ([], 1) := by unfold fitN; rw [hc]; rfl
  rw [hF]
  obtain ⟨aq, cq, rfl, _, _⟩ := hm.qs.slice
  obtain ⟨aa, ca, rfl, _, _⟩ := hm.an.slice
  obtain ⟨av, cs, rfl, _, _⟩ := hm.sv.slice
  obtain ⟨ad, cd, rfl, _, _⟩ := hm.ad.slice
  obtain ⟨X, hX⟩ : ∃ X, w.alloc (.cells (MC m (.slice aq m.qs.length cq) (.slice aa m.an.length ca) (.slice av m.sv.length cs) (.slice ad m.ad.length cd)) 27) = X := ⟨_, rfl⟩
  have hb : Below w.heap.size w X := by rw [← hX]; exact (Below.refl _ w).alloc (Nat.le_refl _) _
  have g1 : X.heap[w.heap.size]? = some (.cells (MC m (.slice aq m.qs.length cq) (.slice aa m.an.length ca) (.slice av m.sv.length cs) (.slice ad m.ad.length cd)) 27 (0, 0)) := by rw [← hX]; exact heap_alloc_new _ _
  have hck := MCheck_any m _ _ _ _ X (hm.below hb (Nat.le_refl _)) hs
  rw [hc] at hck
  obtain ⟨fs, hu⟩ := undMsg
  have HCK := Go.Lib.hid hck
  have G1 := Go.Lib.hid g1
  have HB := Go.Lib.hid hb
  have HU := Go.Lib.hid hu
  clear hck g1 hb hu
  clear hm hs hc hF
  simp only [MC] at hX
  go_enter Try.func25, Try.ntmps25
  go_wp2_with (refine wpList_load_rowG rfl 27 (.tmp 2) rfl w.heap.size rfl _ _ (0, 0) _ G1.out HU.out rfl infoMsg ?_)
  refine HCK.out.mono ?_; rintro e w1 ⟨rfl, h1⟩
  have hb1 := HB.out.trans (h1.mono HB.out.size)
  have HB1 := Go.Lib.hid hb1
  clear hb1
  clear h1 hX
  go_wp2_with fail
  go_ret2
  exact ⟨none, 0, rfl, SlT.nil _ _ _, HB1.out⟩
set_option maxHeartbeats 8000000 in
theorem Fit_ok (m : Msg) (q a s d : Value) (most : Int) (w : World) (hm : MsgL w m q a s d) (hs : MsgS m) (hc : checkM m = true) : Calls Try.prog 25 #[MV m q a s d, .int .i64 most] w (EncEnd w (fitN m most)) := by
  obtain ⟨F, hF⟩ : ∃ F, F = fitN m most := ⟨_, rfl⟩
  rw [← hF]
  unfold fitN at hF
  rw [hc, if_pos rfl] at hF
  obtain ⟨aq, cq, rfl, _, _⟩ := hm.qs.slice
  obtain ⟨aa, ca, rfl, _, _⟩ := hm.an.slice
  obtain ⟨av, cs, rfl, _, _⟩ := hm.sv.slice
  obtain ⟨ad, cd, rfl, _, _⟩ := hm.ad.slice
  obtain ⟨X, hX⟩ : ∃ X, w.alloc (.cells (MC m (.slice aq m.qs.length cq) (.slice aa m.an.length ca) (.slice av m.sv.length cs) (.slice ad m.ad.length cd)) 27) = X := ⟨_, rfl⟩
  have hb : Below w.heap.size w X := by rw [← hX]; exact (Below.refl _ w).alloc (Nat.le_refl _) _
  have g1 : X.heap[w.heap.size]? = some (.cells (MC m (.slice aq m.qs.length cq) (.slice aa m.an.length ca) (.slice av m.sv.length cs) (.slice ad m.ad.length cd)) 27 (0, 0)) := by rw [← hX]; exact heap_alloc_new _ _
  have hck := MCheck_any m _ _ _ _ X (hm.below hb (Nat.le_refl _)) hs
  rw [hc] at hck
  obtain ⟨fs, hu⟩ := undMsg
  have HCK := Go.Lib.hid hck
  have G1 := Go.Lib.hid g1
  have HB := Go.Lib.hid hb
  have HU := Go.Lib.hid hu
  have HM := Go.Lib.hid hm
  have HS := Go.Lib.hid hs
  have HF := Go.Lib.hid hF
  clear hck g1 hb hu hm hs hF
  clear hc
  simp only [MC] at hX
  go_enter Try.func25, Try.ntmps25
  go_wp2_with (refine wpList_load_rowG rfl 27 (.tmp 2) rfl w.heap.size rfl _ _ (0, 0) _ G1.out HU.out rfl infoMsg ?_)
  refine HCK.out.mono ?_; rintro e w1 ⟨rfl, h1⟩
  have hb1 := HB.out.trans (h1.mono HB.out.size)
  have g2 := (h1.block _ (Array.getElem?_eq_some_iff.1 G1.out).1).trans G1.out
  obtain ⟨Y, hY⟩ : ∃ Y, w1.alloc (.cells (fitFs w.heap.size) 1) = Y := ⟨_, rfl⟩
  have hbY : Below w1.heap.size w1 Y := by rw [← hY]; exact (Below.refl _ w1).alloc (Nat.le_refl _) _
  have gF : Y.heap[w1.heap.size]? = some (.cells (fitFs w.heap.size) 1 (0, 0)) := by rw [← hY]; exact heap_alloc_new _ _
  have g3 := (hbY.block _ (Array.getElem?_eq_some_iff.1 g2).1).trans g2
  have hb2 := hb1.trans (hbY.mono hb1.size)
  have hlt := (Array.getElem?_eq_some_iff.1 g2).1
  have G3 := Go.Lib.hid g3
  have GF := Go.Lib.hid gF
  have HB2 := Go.Lib.hid hb2
  clear g3 gF hb2
  clear h1 hX g2 hb1 hbY HB G1 HCK
  simp only [fitFs] at hY
  go_wp2_with fail
  clear hY
  go_loopw [18] (fun i wr => ∃ k : Nat, i = .int .i64 k ∧ k ≤ 4 ∧ wr.heap[w.heap.size]? = some (.cells (fitRow m (.slice aq m.qs.length cq) (.slice aa m.an.length ca) (.slice av m.sv.length cs) (.slice ad m.ad.length cd) k) 27 (0, 0)) ∧ wr.heap[w1.heap.size]? = some (.cells (fitFs w.heap.size) 1 (0, 0)) ∧ Below w.heap.size w wr ∧ noFit m most k) (fun i _ => 4 - (intOf i).toNat)
  case atStart => exact ⟨0, rfl, by omega, G3.out, GF.out, HB2.out, ⟨fun h => by omega, fun h => by omega, fun h => by omega, fun h => by omega⟩⟩
  case round =>
    obtain ⟨k, rfl, hk, hrow, hfs, hbw, hno⟩ := hrel
    have f0 : wr.cell? ⟨w1.heap.size, 0, none⟩ = some (.func (.func 56) #[] #[]) := row_cell hfs 0 _ rfl
    have f1 : wr.cell? ⟨w1.heap.size, 1, none⟩ = some (.func (.func 57) #[] #[.pointer (some ⟨w.heap.size, 0, none⟩)]) := row_cell hfs 1 _ rfl
    have f2 : wr.cell? ⟨w1.heap.size, 2, none⟩ = some (.func (.func 58) #[] #[.pointer (some ⟨w.heap.size, 0, none⟩)]) := row_cell hfs 2 _ rfl
    have f3 : wr.cell? ⟨w1.heap.size, 3, none⟩ = some (.func (.func 59) #[] #[.pointer (some ⟨w.heap.size, 0, none⟩)]) := row_cell hfs 3 _ rfl
    have HROW := Go.Lib.hid hrow
    have HFS := Go.Lib.hid hfs
    have HBW := Go.Lib.hid hbw
    have HNO := Go.Lib.hid hno
    clear hrow hfs hbw hno
    rcases (by omega : k = 0 ∨ k = 1 ∨ k = 2 ∨ k = 3 ∨ k = 4) with rfl | rfl | rfl | rfl | rfl
    · go_wp2_with fail
      refine (Fit1_any wr).mono ?_; rintro e _ ⟨⟨v, rfl⟩, rfl⟩
      have h2 := HROW.out
      have hfs2 := HFS.out
      have hbw2 := HBW.out
      have hml := HM.out.below hbw2 (Nat.le_refl _)
      have hms := HS.out
      generalize wr = w2 at *
      have henc := Encode_all m (.slice aq m.qs.length cq) (.slice aa m.an.length ca) (.slice av m.sv.length cs) (.slice ad m.ad.length cd) w2 hml hms
      have hfit : fitOk m most = (((encN m).2 == 0) && decide (((encN m).1.length : Int) ≤ most)) := rfl
      have hF1 := HF.out
      skip
      generalize encN m = E at *
      obtain ⟨B, x⟩ := E
      simp only at hfit
      have HENC := Go.Lib.hid henc
      have H2 := Go.Lib.hid h2
      have HFS2 := Go.Lib.hid hfs2
      have HBW2 := Go.Lib.hid hbw2
      have HF1 := Go.Lib.hid hF1
      clear henc h2 hfs2 hbw2 hF1
      clear hml hms
      go_wp2_with (refine wpList_load_rowG rfl 27 (.tmp 2) rfl w.heap.size rfl _ _ (0, 0) _ H2.out HU.out rfl infoMsg ?_)
      refine HENC.out.mono ?_; rintro e w3 ⟨ab, cb, rfl, hsl, hb3⟩
      have hrow3 := (hb3.block _ (Array.getElem?_eq_some_iff.1 H2.out).1).trans H2.out
      have hfs3 := (hb3.block _ (Array.getElem?_eq_some_iff.1 HFS2.out).1).trans HFS2.out
      have hbw3 := HBW2.out.trans (hb3.mono HBW2.out.size)
      simp only at hsl ⊢
      have HROW3 := Go.Lib.hid hrow3
      have HFS3 := Go.Lib.hid hfs3
      have HBW3 := Go.Lib.hid hbw3
      have HSL := Go.Lib.hid hsl
      clear hrow3 hfs3 hbw3 hsl
      clear hb3 HENC f0 f1 f2 f3
      by_cases hx : x = 0
      · subst hx
        by_cases hl : (B.length : Int) ≤ most
        · have hF2 := HF1.out
          rw [hfit, decide_eq_true hl] at hF2
          simp only [beq_self_eq_true, Bool.and_self, if_true] at hF2
          have HF2 := Go.Lib.hid hF2
          clear hF2
          clear hfit
          go_wp2_with fail
          go_ret2
          exact ⟨ab, cb, by rw [HF2.out]; rfl, by rw [HF2.out]; exact HSL.out, HBW3.out⟩
        · have hnf : fitOk m most = false := by rw [hfit, decide_eq_false hl, Bool.and_false]
          have HNF := Go.Lib.hid hnf
          clear hnf
          clear hfit
          go_wp2_with fail
          go_roundw
          case rel => exact ⟨1, rfl, by omega, HROW3.out, HFS3.out, HBW3.out, ⟨fun _ => HNF.out, fun h => by omega, fun h => by omega, fun h => by omega⟩⟩
          case measure => decide
      · have hbx : (x == 0) = false := beq_eq_false_iff_ne.2 hx
        have hnf : fitOk m most = false := by rw [hfit, hbx, Bool.false_and]
        have HNF := Go.Lib.hid hnf
        clear hnf
        clear hfit
        go_wp2_with fail
        go_roundw
        case rel => exact ⟨1, rfl, by omega, HROW3.out, HFS3.out, HBW3.out, ⟨fun _ => HNF.out, fun h => by omega, fun h => by omega, fun h => by omega⟩⟩
        case measure => decide
    · go_wp2_with fail
      refine (Fit2_any m _ _ _ _ w.heap.size wr HROW.out ⟨_, _, _, rfl⟩).mono ?_; rintro e w2 ⟨⟨v, rfl⟩, h2, hk2, hb2⟩
      have hfs2 := hk2.row HFS.out (show w1.heap.size ≠ w.heap.size by omega)
      have hbw2 := HBW.out.trans (hb2 w.heap.size (Nat.le_refl _) HBW.out.size)
      have hml := (cut_L (HM.out.below hbw2 (Nat.le_refl _))).1
      have hms := (cut_S HS.out).1
      have henc := Encode_all (cut1 m) (.slice aq m.qs.length cq) (.slice aa m.an.length ca) (.slice av m.sv.length cs) nilS w2 hml hms
      have hfit : fitOk (cut1 m) most = (((encN (cut1 m)).2 == 0) && decide (((encN (cut1 m)).1.length : Int) ≤ most)) := rfl
      have hF1 := HF.out
      rw [HNO.out.1 (by omega), if_neg (by simp)] at hF1
      generalize encN (cut1 m) = E at *
      obtain ⟨B, x⟩ := E
      simp only at hfit
      have HENC := Go.Lib.hid henc
      have H2 := Go.Lib.hid h2
      have HFS2 := Go.Lib.hid hfs2
      have HBW2 := Go.Lib.hid hbw2
      have HF1 := Go.Lib.hid hF1
      clear henc h2 hfs2 hbw2 hF1
      clear hml hms hk2 hb2
      go_wp2_with (refine wpList_load_rowG rfl 27 (.tmp 2) rfl w.heap.size rfl _ _ (0, 0) _ H2.out HU.out rfl infoMsg ?_)
      refine HENC.out.mono ?_; rintro e w3 ⟨ab, cb, rfl, hsl, hb3⟩
      have hrow3 := (hb3.block _ (Array.getElem?_eq_some_iff.1 H2.out).1).trans H2.out
      have hfs3 := (hb3.block _ (Array.getElem?_eq_some_iff.1 HFS2.out).1).trans HFS2.out
      have hbw3 := HBW2.out.trans (hb3.mono HBW2.out.size)
      simp only at hsl ⊢
      have HROW3 := Go.Lib.hid hrow3
      have HFS3 := Go.Lib.hid hfs3
      have HBW3 := Go.Lib.hid hbw3
      have HSL := Go.Lib.hid hsl
      clear hrow3 hfs3 hbw3 hsl
      clear hb3 HENC f0 f1 f2 f3
      by_cases hx : x = 0
      · subst hx
        by_cases hl : (B.length : Int) ≤ most
        · have hF2 := HF1.out
          rw [hfit, decide_eq_true hl] at hF2
          simp only [beq_self_eq_true, Bool.and_self, if_true] at hF2
          have HF2 := Go.Lib.hid hF2
          clear hF2
          clear hfit
          go_wp2_with fail
          go_ret2
          exact ⟨ab, cb, by rw [HF2.out]; rfl, by rw [HF2.out]; exact HSL.out, HBW3.out⟩
        · have hnf : fitOk (cut1 m) most = false := by rw [hfit, decide_eq_false hl, Bool.and_false]
          have HNF := Go.Lib.hid hnf
          clear hnf
          clear hfit
          go_wp2_with fail
          go_roundw
          case rel => exact ⟨2, rfl, by omega, HROW3.out, HFS3.out, HBW3.out, ⟨fun _ => HNO.out.1 (by omega), fun _ => HNF.out, fun h => by omega, fun h => by omega⟩⟩
          case measure => decide
      · have hbx : (x == 0) = false := beq_eq_false_iff_ne.2 hx
        have hnf : fitOk (cut1 m) most = false := by rw [hfit, hbx, Bool.false_and]
        have HNF := Go.Lib.hid hnf
        clear hnf
        clear hfit
        go_wp2_with fail
        go_roundw
        case rel => exact ⟨2, rfl, by omega, HROW3.out, HFS3.out, HBW3.out, ⟨fun _ => HNO.out.1 (by omega), fun _ => HNF.out, fun h => by omega, fun h => by omega⟩⟩
        case measure => decide
    · go_wp2_with fail
      refine (Fit3_any m _ _ _ nilS w.heap.size wr HROW.out ⟨_, _, _, rfl⟩).mono ?_; rintro e w2 ⟨⟨v, rfl⟩, h2, hk2, hb2⟩
      have hfs2 := hk2.row HFS.out (show w1.heap.size ≠ w.heap.size by omega)
      have hbw2 := HBW.out.trans (hb2 w.heap.size (Nat.le_refl _) HBW.out.size)
      have hml := (cut_L (HM.out.below hbw2 (Nat.le_refl _))).2.1
      have hms := (cut_S HS.out).2.1
      have henc := Encode_all (cut2 m) (.slice aq m.qs.length cq) (.slice aa m.an.length ca) nilS nilS w2 hml hms
      have hfit : fitOk (cut2 m) most = (((encN (cut2 m)).2 == 0) && decide (((encN (cut2 m)).1.length : Int) ≤ most)) := rfl
      have hF1 := HF.out
      rw [HNO.out.1 (by omega), if_neg (by simp), HNO.out.2.1 (by omega), if_neg (by simp)] at hF1
      generalize encN (cut2 m) = E at *
      obtain ⟨B, x⟩ := E
      simp only at hfit
      have HENC := Go.Lib.hid henc
      have H2 := Go.Lib.hid h2
      have HFS2 := Go.Lib.hid hfs2
      have HBW2 := Go.Lib.hid hbw2
      have HF1 := Go.Lib.hid hF1
      clear henc h2 hfs2 hbw2 hF1
      clear hml hms hk2 hb2
      go_wp2_with (refine wpList_load_rowG rfl 27 (.tmp 2) rfl w.heap.size rfl _ _ (0, 0) _ H2.out HU.out rfl infoMsg ?_)
      refine HENC.out.mono ?_; rintro e w3 ⟨ab, cb, rfl, hsl, hb3⟩
      have hrow3 := (hb3.block _ (Array.getElem?_eq_some_iff.1 H2.out).1).trans H2.out
      have hfs3 := (hb3.block _ (Array.getElem?_eq_some_iff.1 HFS2.out).1).trans HFS2.out
      have hbw3 := HBW2.out.trans (hb3.mono HBW2.out.size)
      simp only at hsl ⊢
      have HROW3 := Go.Lib.hid hrow3
      have HFS3 := Go.Lib.hid hfs3
      have HBW3 := Go.Lib.hid hbw3
      have HSL := Go.Lib.hid hsl
      clear hrow3 hfs3 hbw3 hsl
      clear hb3 HENC f0 f1 f2 f3
      by_cases hx : x = 0
      · subst hx
        by_cases hl : (B.length : Int) ≤ most
        · have hF2 := HF1.out
          rw [hfit, decide_eq_true hl] at hF2
          simp only [beq_self_eq_true, Bool.and_self, if_true] at hF2
          have HF2 := Go.Lib.hid hF2
          clear hF2
          clear hfit
          go_wp2_with fail
          go_ret2
          exact ⟨ab, cb, by rw [HF2.out]; rfl, by rw [HF2.out]; exact HSL.out, HBW3.out⟩
        · have hnf : fitOk (cut2 m) most = false := by rw [hfit, decide_eq_false hl, Bool.and_false]
          have HNF := Go.Lib.hid hnf
          clear hnf
          clear hfit
          go_wp2_with fail
          go_roundw
          case rel => exact ⟨3, rfl, by omega, HROW3.out, HFS3.out, HBW3.out, ⟨fun _ => HNO.out.1 (by omega), fun _ => HNO.out.2.1 (by omega), fun _ => HNF.out, fun h => by omega⟩⟩
          case measure => decide
      · have hbx : (x == 0) = false := beq_eq_false_iff_ne.2 hx
        have hnf : fitOk (cut2 m) most = false := by rw [hfit, hbx, Bool.false_and]
        have HNF := Go.Lib.hid hnf
        clear hnf
        clear hfit
        go_wp2_with fail
        go_roundw
        case rel => exact ⟨3, rfl, by omega, HROW3.out, HFS3.out, HBW3.out, ⟨fun _ => HNO.out.1 (by omega), fun _ => HNO.out.2.1 (by omega), fun _ => HNF.out, fun h => by omega⟩⟩
        case measure => decide
    · go_wp2_with fail
      refine (Fit4_any m _ _ nilS nilS w.heap.size wr HROW.out ⟨_, _, _, rfl⟩).mono ?_; rintro e w2 ⟨⟨v, rfl⟩, h2, hk2, hb2⟩
      have hfs2 := hk2.row HFS.out (show w1.heap.size ≠ w.heap.size by omega)
      have hbw2 := HBW.out.trans (hb2 w.heap.size (Nat.le_refl _) HBW.out.size)
      have hml := (cut_L (HM.out.below hbw2 (Nat.le_refl _))).2.2
      have hms := (cut_S HS.out).2.2
      have henc := Encode_all (cut3 m) (.slice aq m.qs.length cq) nilS nilS nilS w2 hml hms
      have hfit : fitOk (cut3 m) most = (((encN (cut3 m)).2 == 0) && decide (((encN (cut3 m)).1.length : Int) ≤ most)) := rfl
      have hF1 := HF.out
      rw [HNO.out.1 (by omega), if_neg (by simp), HNO.out.2.1 (by omega), if_neg (by simp), HNO.out.2.2.1 (by omega), if_neg (by simp)] at hF1
      generalize encN (cut3 m) = E at *
      obtain ⟨B, x⟩ := E
      simp only at hfit
      have HENC := Go.Lib.hid henc
      have H2 := Go.Lib.hid h2
      have HFS2 := Go.Lib.hid hfs2
      have HBW2 := Go.Lib.hid hbw2
      have HF1 := Go.Lib.hid hF1
      clear henc h2 hfs2 hbw2 hF1
      clear hml hms hk2 hb2
      go_wp2_with (refine wpList_load_rowG rfl 27 (.tmp 2) rfl w.heap.size rfl _ _ (0, 0) _ H2.out HU.out rfl infoMsg ?_)
      refine HENC.out.mono ?_; rintro e w3 ⟨ab, cb, rfl, hsl, hb3⟩
      have hrow3 := (hb3.block _ (Array.getElem?_eq_some_iff.1 H2.out).1).trans H2.out
      have hfs3 := (hb3.block _ (Array.getElem?_eq_some_iff.1 HFS2.out).1).trans HFS2.out
      have hbw3 := HBW2.out.trans (hb3.mono HBW2.out.size)
      simp only at hsl ⊢
      have HROW3 := Go.Lib.hid hrow3
      have HFS3 := Go.Lib.hid hfs3
      have HBW3 := Go.Lib.hid hbw3
      have HSL := Go.Lib.hid hsl
      clear hrow3 hfs3 hbw3 hsl
      clear hb3 HENC f0 f1 f2 f3
      by_cases hx : x = 0
      · subst hx
        by_cases hl : (B.length : Int) ≤ most
        · have hF2 := HF1.out
          rw [hfit, decide_eq_true hl] at hF2
          simp only [beq_self_eq_true, Bool.and_self, if_true] at hF2
          have HF2 := Go.Lib.hid hF2
          clear hF2
          clear hfit
          go_wp2_with fail
          go_ret2
          exact ⟨ab, cb, by rw [HF2.out]; rfl, by rw [HF2.out]; exact HSL.out, HBW3.out⟩
        · have hnf : fitOk (cut3 m) most = false := by rw [hfit, decide_eq_false hl, Bool.and_false]
          have HNF := Go.Lib.hid hnf
          clear hnf
          clear hfit
          go_wp2_with fail
          go_roundw
          case rel => exact ⟨4, rfl, by omega, HROW3.out, HFS3.out, HBW3.out, ⟨fun _ => HNO.out.1 (by omega), fun _ => HNO.out.2.1 (by omega), fun _ => HNO.out.2.2.1 (by omega), fun _ => HNF.out⟩⟩
          case measure => decide
      · have hbx : (x == 0) = false := beq_eq_false_iff_ne.2 hx
        have hnf : fitOk (cut3 m) most = false := by rw [hfit, hbx, Bool.false_and]
        have HNF := Go.Lib.hid hnf
        clear hnf
        clear hfit
        go_wp2_with fail
        go_roundw
        case rel => exact ⟨4, rfl, by omega, HROW3.out, HFS3.out, HBW3.out, ⟨fun _ => HNO.out.1 (by omega), fun _ => HNO.out.2.1 (by omega), fun _ => HNO.out.2.2.1 (by omega), fun _ => HNF.out⟩⟩
        case measure => decide
    · have hF1 := HF.out
      rw [HNO.out.1 (by omega), if_neg (by simp), HNO.out.2.1 (by omega), if_neg (by simp), HNO.out.2.2.1 (by omega), if_neg (by simp), HNO.out.2.2.2 (by omega), if_neg (by simp)] at hF1
      have HF1 := Go.Lib.hid hF1
      clear hF1
      go_wp2_with fail
      go_ret2
      exact ⟨none, 0, by rw [HF1.out]; rfl, by rw [HF1.out]; exact SlT.nil _ _ _, HBW.out⟩
/-- Fit, whatever the message -/
theorem Fit_any (m : Msg) (q a s d : Value) (most : Int) (w : World) (hm : MsgL w m q a s d) (hs : MsgS m) : Calls Try.prog 25 #[MV m q a s d, .int .i64 most] w (EncEnd w (fitN m most)) := by
  cases hc : checkM m with
  | false => exact Fit_bad m q a s d most w hm hs hc
  | true => exact Fit_ok m q a s d most w hm hs hc
end Go.Proofs.Ythfhmbooeemaaaa

/- Message: Fit of messages of many like records. Lists alone. -/
namespace Go.Proofs.Ythfhmbooeemaaaa
open Go.RowKit
set_option maxRecDepth 100000
set_option linter.unusedVariables false

theorem cM_fit {a b c : Nat} {ct ed : Bool} (ha : a ≤ 64) (hb : b ≤ 64) (hc : c ≤ 64) (most : Int) : fitOk (cM a b c ct ed) most = decide (((19 + 15 * (a + b + c) + if ed then 11 else 0 : Nat) : Int) ≤ most) := by
  unfold fitOk
  rw [cM_enc ha hb hc]
  simp only [cM_len]
  rfl
/-- what is told of them -/
theorem cM_fitN {a b c : Nat} (ha : a ≤ 40) (hb : b ≤ 40) (hc : c ≤ 40) (most : Int) :
    (most < 19 ∧ fitN (cM a b c false false) most = ([], 3)) ∨
    (¬ most < 19 ∧ 19 + 15 * ((a : Int) + b + c) ≤ most ∧ fitN (cM a b c false false) most = (bytesM (cM a b c false false), 0)) ∨
    (¬ most < 19 ∧ ¬ 19 + 15 * ((a : Int) + b + c) ≤ most ∧ 19 + 15 * ((a : Int) + b) ≤ most ∧ fitN (cM a b c false false) most = (bytesM (cM a b 0 true false), 0)) ∨
    (¬ most < 19 ∧ ¬ 19 + 15 * ((a : Int) + b + c) ≤ most ∧ ¬ 19 + 15 * ((a : Int) + b) ≤ most ∧ 19 + 15 * (a : Int) ≤ most ∧ fitN (cM a b c false false) most = (bytesM (cM a 0 0 true false), 0)) ∨
    (¬ most < 19 ∧ ¬ 19 + 15 * ((a : Int) + b + c) ≤ most ∧ ¬ 19 + 15 * ((a : Int) + b) ≤ most ∧ ¬ 19 + 15 * (a : Int) ≤ most ∧ fitN (cM a b c false false) most = (bytesM (cM 0 0 0 true false), 0)) := by
  have e1 : cut1 (cM a b c false false) = cM a b 0 true false := rfl
  have e2 : cut2 (cM a b c false false) = cM a 0 0 true false := rfl
  have e3 : cut3 (cM a b c false false) = cM 0 0 0 true false := rfl
  have f0 := cM_fit (a := a) (b := b) (c := c) (ct := false) (ed := false) (by omega) (by omega) (by omega) most
  have f1 := cM_fit (a := a) (b := b) (c := 0) (ct := true) (ed := false) (by omega) (by omega) (by omega) most
  have f2 := cM_fit (a := a) (b := 0) (c := 0) (ct := true) (ed := false) (by omega) (by omega) (by omega) most
  have f3 := cM_fit (a := 0) (b := 0) (c := 0) (ct := true) (ed := false) (by omega) (by omega) (by omega) most
  simp only [Bool.false_eq_true, if_false, Nat.add_zero, Nat.mul_zero] at f0 f1 f2 f3
  have g0 := cM_enc (a := a) (b := b) (c := c) (ct := false) (ed := false) (by omega) (by omega) (by omega)
  have g1 := cM_enc (a := a) (b := b) (c := 0) (ct := true) (ed := false) (by omega) (by omega) (by omega)
  have g2 := cM_enc (a := a) (b := 0) (c := 0) (ct := true) (ed := false) (by omega) (by omega) (by omega)
  have g3 := cM_enc (a := 0) (b := 0) (c := 0) (ct := true) (ed := false) (by omega) (by omega) (by omega)
  have hck : checkM (cM a b c false false) = true := by rw [cM_check]; exact decide_eq_true ⟨by omega, by omega, by omega⟩
  unfold fitN
  rw [hck, e1, e2, e3, f0, f1, f2, f3, g0, g1, g2, g3]
  by_cases h3 : most < 19
  · left
    refine ⟨h3, ?_⟩
    rw [decide_eq_false (by omega), decide_eq_false (by omega), decide_eq_false (by omega), decide_eq_false (by omega)]
    rfl
  · right
    by_cases h0 : 19 + 15 * ((a : Int) + b + c) ≤ most
    · left
      refine ⟨h3, h0, ?_⟩
      rw [decide_eq_true (by omega)]
      rfl
    · right
      by_cases h1 : 19 + 15 * ((a : Int) + b) ≤ most
      · left
        refine ⟨h3, h0, h1, ?_⟩
        rw [decide_eq_false (by omega), decide_eq_true (by omega)]
        rfl
      · right
        by_cases h2 : 19 + 15 * (a : Int) ≤ most
        · left
          refine ⟨h3, h0, h1, h2, ?_⟩
          rw [decide_eq_false (by omega), decide_eq_false (by omega), decide_eq_true (by omega)]
          rfl
        · right
          refine ⟨h3, h0, h1, h2, ?_⟩
          rw [decide_eq_false (by omega), decide_eq_false (by omega), decide_eq_false (by omega), decide_eq_true (by omega)]
          rfl
end Go.Proofs.Ythfhmbooeemaaaa

