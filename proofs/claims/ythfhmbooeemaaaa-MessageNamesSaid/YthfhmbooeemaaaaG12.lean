/- Merged texts of the seat, in their order: Nmz. -/
import Derived.Test.YthfhmbooeemaaaaG7
import Derived.Test.YthfhmbooeemaaaaG8
import Derived.Test.YthfhmbooeemaaaaG9
/- Message: a name that a message has many times: its bytes. Lists alone; and the message's box while it is filled. -/
namespace Go.Proofs.Ythfhmbooeemaaaa
open Go.RowKit
set_option maxRecDepth 100000
set_option linter.unusedVariables false

/-! ### a name many times -/
theorem lead_self2 {b : List UInt8} (hv : Nm.valid b = true) : Nm.lead b = some b.length := Rc.take_lead (Nat.le_refl _) (by rw [List.take_length]; exact hv)
theorem place_first {t : Int} {k : Nat} (hs : Rc.shape t = some (k, 1, 0)) {a b : List UInt8} (ha : a.length = k) (hv : Nm.valid b = true) : Rc.placesP t (a ++ b) = ([(k, b.length)], true) := by
  unfold Rc.placesP
  rw [hs]
  simp only
  rw [if_neg (by simp [ha])]
  have hd : (a ++ b).drop k = b := by rw [← ha, List.drop_left]
  have hn : Rc.names (a ++ b) k 1 = some ([(k, b.length)], k + b.length) := by
    rw [Rc.names_succ (m := 0) (l := []) (e := k) rfl, hd, lead_self2 hv]
    rfl
  rw [hn]
  simp [ha]
def rMX (n : List UInt8) : Rc.RR := ⟨n, 15, 1, 0, [49, 50] ++ n⟩
def rSRV (n : List UInt8) : Rc.RR := ⟨n, 33, 1, 0, [49, 50, 51, 52, 53, 54] ++ n⟩
def r99 (n : List UInt8) : Rc.RR := ⟨n, 99, 1, 0, n⟩
def triN (n : List UInt8) : List Rc.RR := [rMX n, rSRV n, r99 n]
def anN (n : List UInt8) (t : Nat) : List Rc.RR := (List.replicate t (triN n)).flatten
theorem anN_succ (n : List UInt8) (t : Nat) : anN n (t + 1) = anN n t ++ triN n := by
  unfold anN
  rw [List.replicate_succ', List.flatten_append]
  simp
theorem anN_length (n : List UInt8) : ∀ t, (anN n t).length = 3 * t
  | 0 => rfl
  | t + 1 => by rw [anN_succ, List.length_append, anN_length n t]; simp [triN]; omega
theorem mem_anN {n : List UInt8} : ∀ {t : Nat} {r : Rc.RR}, r ∈ anN n t → r ∈ triN n
  | 0, r, h => by cases h
  | t + 1, r, h => by
    rw [anN_succ] at h
    rcases List.mem_append.1 h with h | h
    · exact mem_anN h
    · exact h
def nM (n : List UInt8) (t : Nat) : Msg := ⟨0, false, 0, false, false, false, false, 0, [⟨n, 1, 1⟩], anN n t, [], [], false, 0⟩
theorem triN_parts {n : List UInt8} (hv : Nm.valid n = true) (hl : n.length ≤ 100) : Rc.partsN 15 ([49, 50] ++ n) = some [(2, n.length)] ∧ Rc.partsN 33 ([49, 50, 51, 52, 53, 54] ++ n) = some [(6, n.length)] ∧ Rc.partsN 99 n = some [] := by
  have p1 := place_first (t := 15) (k := 2) rfl (a := [49, 50]) (b := n) rfl hv
  have p2 := place_first (t := 33) (k := 6) rfl (a := [49, 50, 51, 52, 53, 54]) (b := n) rfl hv
  have d1 : Rc.dataB 15 ([49, 50] ++ n) = true := by
    unfold Rc.dataB
    rw [if_neg (by simp; omega), if_neg (by decide), if_neg (by decide), if_neg (by decide), p1]
  have d2 : Rc.dataB 33 ([49, 50, 51, 52, 53, 54] ++ n) = true := by
    unfold Rc.dataB
    rw [if_neg (by simp; omega), if_neg (by decide), if_neg (by decide), if_neg (by decide), p2]
  have d3 : Rc.dataB 99 n = true := by
    unfold Rc.dataB
    rw [if_neg (by omega), if_neg (by decide), if_neg (by decide), if_neg (by decide)]
    rfl
  rw [Rc.partsN_some d1, Rc.partsN_some d2, Rc.partsN_some d3, p1, p2]
  exact ⟨rfl, rfl, rfl⟩
theorem triN_ok {n : List UInt8} (hv : Nm.valid n = true) (hl : n.length ≤ 100) : ∀ r ∈ triN n, checkB r = true := by
  obtain ⟨p1, p2, p3⟩ := triN_parts hv hl
  have q1 : Rc.dataB 15 ([49, 50] ++ n) = true := by rw [← Rc.partsN_isSome, p1]; rfl
  have q2 : Rc.dataB 33 ([49, 50, 51, 52, 53, 54] ++ n) = true := by rw [← Rc.partsN_isSome, p2]; rfl
  have q3 : Rc.dataB 99 n = true := by rw [← Rc.partsN_isSome, p3]; rfl
  intro r hr
  simp only [triN, List.mem_cons, List.not_mem_nil, or_false] at hr
  rcases hr with rfl | rfl | rfl
  · unfold checkB rMX; simp only [hv, q1]; rfl
  · unfold checkB rSRV; simp only [hv, q2]; rfl
  · unfold checkB r99; simp only [hv, q3]; rfl
theorem nM_check {n : List UInt8} {t : Nat} (hv : Nm.valid n = true) (hl : n.length ≤ 100) (ht : t ≤ 20) : checkM (nM n t) = true := by
  have hr : ((allR (nM n t)).all fun x => checkB x.2) = true := by
    rw [List.all_eq_true]
    rintro ⟨s, r⟩ hx
    rcases mem_allR.1 ⟨s, hx⟩ with h | h | h
    · exact triN_ok hv hl r (mem_anN h)
    · cases h
    · cases h
  have hq : (nM n t).qs.all qOk = true := by
    show [(⟨n, 1, 1⟩ : Qn)].all qOk = true
    simp only [List.all_cons, List.all_nil, Bool.and_true]
    unfold qOk
    simp only [hv]
    rfl
  unfold checkM
  rw [hr, hq]
  have hc : cntOk (nM n t) = true := by
    unfold cntOk nM
    simp only [anN_length, List.length_nil, List.length_singleton]
    rw [Bool.and_eq_true]
    exact ⟨rfl, decide_eq_true (by omega)⟩
  rw [hc]
  rfl
/-- not squeezed -/
theorem nameS_whole : ∀ (ls : List (List UInt8)) (k : Nat) (M : Met), nameS false ls k M = (Nm.wire ls, M)
  | [], _, _ => rfl
  | l :: ls, k, M => by
    rw [nameS]
    simp only [Bool.false_eq_true, if_false, Bool.false_and]
    rw [nameS_whole ls]
    simp [Nm.wire, Nm.pre]
/-- met already -/
theorem nameS_met {ls : List (List UInt8)} (hne : ls ≠ []) {k p : Nat} {M : Met} (h : look M (Nm.wire ls) = some p) : nameS true ls k M = (two2 (49152 + (p : Int)), M) := by
  cases ls with
  | nil => exact absurd rfl hne
  | cons l ls =>
    rw [nameS]
    simp only [if_true, h]
/-- new: it stands whole, and is met from now on -/
theorem nameS_new : ∀ (ls : List (List UInt8)) (k : Nat) (M : Met), k + (Nm.wire ls).length ≤ 16384 → (∀ x p, look M x = some p → (Nm.wire ls).length < x.length) →
    (nameS true ls k M).1 = Nm.wire ls ∧ (∀ x, (Nm.wire ls).length < x.length → look (nameS true ls k M).2 x = look M x) ∧ (ls ≠ [] → look (nameS true ls k M).2 (Nm.wire ls) = some k)
  | [], k, M, _, _ => ⟨rfl, fun _ _ => rfl, fun h => absurd rfl h⟩
  | l :: ls, k, M, hk, hM => by
    have hw : (Nm.wire (l :: ls)).length = 1 + l.length + (Nm.wire ls).length := by simp [Nm.wire, Nm.pre]; omega
    have hwp := Nm.wire_length_gt ls
    have hno : look M (Nm.wire (l :: ls)) = none := by
      cases h : look M (Nm.wire (l :: ls)) with
      | none => rfl
      | some p => have := hM _ _ h; omega
    rw [nameS]
    simp only [if_true, hno, Bool.true_and]
    rw [decide_eq_true (show k < 16384 by omega), if_pos rfl]
    obtain ⟨i1, i2, _⟩ := nameS_new ls (k + 1 + l.length) (M ++ [(Nm.wire (l :: ls), k)]) (by omega) (fun x p h => by
      rw [look_snoc] at h
      split at h
      · rename_i hx
        rw [← hx, hw]
        omega
      · have := hM _ _ h
        omega)
    refine ⟨by rw [i1]; simp [Nm.wire, Nm.pre], fun x hx => ?_, fun _ => ?_⟩
    · rw [i2 x (by omega), look_snoc, if_neg (fun h => by rw [h] at hx; omega)]
    · rw [i2 _ (by omega), look_snoc, if_pos rfl]
theorem len_two (x : Int) : (two2 x).length = 2 := rfl
theorem triN_S {n : List UInt8} (hv : Nm.valid n = true) (hl : n.length ≤ 100) (hne : n ≠ [0]) {k : Nat} {M : Met} (h : look M n = some 12) : (secS (triN n) k M).1.length = 46 + 2 * n.length ∧ (secS (triN n) k M).2 = M := by
  obtain ⟨p1, p2, p3⟩ := triN_parts hv hl
  obtain ⟨v1, v2, v3⟩ := Nm.labs_valid hv
  have hls : Nm.labs n ≠ [] := fun h => hne (by rw [v1, h]; rfl)
  have hm : ∀ k, nameS true (Nm.labs n) k M = (two2 (49152 + ((12 : Nat) : Int)), M) := fun k => nameS_met hls (by rw [← v1]; exact h)
  have hw : ∀ k, nameS false (Nm.labs n) k M = (n, M) := fun k => by rw [nameS_whole, ← v1]
  have t2 : ([49, 50] ++ n).drop 2 = n := rfl
  have t6 : ([49, 50, 51, 52, 53, 54] ++ n).drop 6 = n := rfl
  have a1 : ∀ k, (recS (rMX n) k M).1.length = 16 ∧ (recS (rMX n) k M).2 = M := fun k => by
    unfold recS rMX
    simp only [p1, Option.getD_some, partsS, t2, List.take_length, hm]
    rw [show ((15 : Int) != 33) = true from rfl, hm]
    refine ⟨?_, rfl⟩
    have : ([49, 50] ++ n).drop (2 + n.length) = [] := List.drop_eq_nil_of_le (by simp; omega)
    rw [this]
    simp [two2, four]
  have a2 : ∀ k, (recS (rSRV n) k M).1.length = 18 + n.length ∧ (recS (rSRV n) k M).2 = M := fun k => by
    unfold recS rSRV
    simp only [p2, Option.getD_some, partsS, t6, List.take_length, hm]
    rw [show ((33 : Int) != 33) = false from rfl, hw]
    refine ⟨?_, rfl⟩
    have : ([49, 50, 51, 52, 53, 54] ++ n).drop (6 + n.length) = [] := List.drop_eq_nil_of_le (by simp; omega)
    rw [this]
    simp [two2, four]
    omega
  have a3 : ∀ k, (recS (r99 n) k M).1.length = 12 + n.length ∧ (recS (r99 n) k M).2 = M := fun k => by
    unfold recS r99
    simp only [p3, Option.getD_some, partsS, hm]
    refine ⟨?_, trivial⟩
    simp [two2, four]
    omega
  unfold triN
  simp only [secS, List.length_append, (a1 _).1, (a1 _).2, (a2 _).1, (a2 _).2, (a3 _).1, (a3 _).2]
  refine ⟨?_, trivial⟩
  simp
  omega
theorem anN_S {n : List UInt8} (hv : Nm.valid n = true) (hl : n.length ≤ 100) (hne : n ≠ [0]) {k : Nat} {M : Met} (h : look M n = some 12) : ∀ t, (secS (anN n t) k M).1.length = t * (46 + 2 * n.length) ∧ (secS (anN n t) k M).2 = M
  | 0 => ⟨by simp [anN, secS], rfl⟩
  | t + 1 => by
    obtain ⟨i1, i2⟩ := anN_S hv hl hne h t
    obtain ⟨j1, j2⟩ := triN_S hv hl hne (k := k + t * (46 + 2 * n.length)) h
    rw [anN_succ, secS_append, i1, i2]
    refine ⟨?_, j2⟩
    rw [List.length_append, i1, j1, Nat.add_mul, Nat.one_mul]
theorem nM_len {n : List UInt8} {t : Nat} (hv : Nm.valid n = true) (hl : n.length ≤ 100) (hne : n ≠ [0]) : (bytesM (nM n t)).length = 12 + n.length + 4 + t * (46 + 2 * n.length) := by
  obtain ⟨v1, v2, v3⟩ := Nm.labs_valid hv
  have hls : Nm.labs n ≠ [] := fun h => hne (by rw [v1, h]; rfl)
  obtain ⟨s1, _, s3⟩ := nameS_new (Nm.labs n) 12 [] (by rw [← v1]; omega) (fun x p h => by cases h)
  have s3 := s3 hls
  rw [← v1] at s1 s3
  have hq : qsS [⟨n, 1, 1⟩] 12 [] = (n ++ two2 1 ++ two2 1, (nameS true (Nm.labs n) 12 []).2) := by
    simp only [qsS, qS, s1, List.append_nil]
  unfold bytesM
  show (hdrB (nM n t) ++ (qsS [⟨n, 1, 1⟩] 12 []).1 ++ (secS (anN n t ++ [] ++ []) (12 + (qsS [⟨n, 1, 1⟩] 12 []).1.length) (qsS [⟨n, 1, 1⟩] 12 []).2).1 ++ []).length = _
  rw [hq]
  simp only [List.append_nil, List.length_append, hdrB_len, len_two, (anN_S hv hl hne s3 t).1]
  omega
theorem nM_enc {n : List UInt8} {t : Nat} (hv : Nm.valid n = true) (hl : n.length ≤ 100) (hne : n ≠ [0]) (ht : t ≤ 20) : encN (nM n t) = if 4096 < 12 + n.length + 4 + t * (46 + 2 * n.length) then ([], 3) else (bytesM (nM n t), 0) := by
  unfold encN outN
  rw [nM_check hv hl ht, if_pos rfl, endW_bytes, nM_len hv hl hne]
  simp only [Bool.false_or, decide_eq_true_eq]
  by_cases h : 4096 < 12 + n.length + 4 + t * (46 + 2 * n.length)
  · rw [if_pos h, if_pos (by exact_mod_cast h)]
  · rw [if_neg h, if_neg (by exact_mod_cast h)]
/-- the message's box while it is filled -/
structure NFill (w : World) (N : Nat) (n : List UInt8) (q va : Value) (i : Nat) (wr : World) : Prop where
  row : wr.heap[N]? = some (.cells (MC (nM n i) q va nilS nilS) 27 (0, 0))
  q : SlT wr 47 3 q 1 (encQn [⟨n, 1, 1⟩])
  a : wr.ownsRow (N + 1) 45 5 va (3 * i) (encR (anN n i))
  hb : Below w.heap.size w wr
theorem NFill.msg {w : World} {N : Nat} {n : List UInt8} {q va : Value} {i : Nat} {wr : World} (h : NFill w N n q va i wr) : MsgL wr (nM n i) q va nilS nilS :=
  ⟨h.q.1, by have := SlC.of_owns h.a; unfold RRs; show SlC wr 5 va (anN n i).length (encR (anN n i)); rw [anN_length]; exact this, SlC.nil _ _, SlC.nil _ _⟩
theorem NFill.row2 {w : World} {N : Nat} {n : List UInt8} {q va : Value} {i : Nat} {wr W1 : World} (h : NFill w N n q va i wr) {o : Obj} (hg : (wr.alloc o).grownBy W1 va.ownBlock) : W1.heap[N]? = some (.cells (MC (nM n i) q va nilS nilS) 27 (0, 0)) := by
  have hl := (Array.getElem?_eq_some_iff.1 h.row).1
  exact (hg.block N (by simp; omega) (fun e => by have := (h.a.lt N e.symm).1; omega)).trans ((Below.heap_alloc _ _ _ hl).trans h.row)
theorem NFill.app {w : World} {N : Nat} {n : List UInt8} {q va v1 : Value} {i : Nat} {wr W1 : World} (h : NFill w N n q va i wr) (hwN : w.heap.size ≤ N) {o : Obj} (hg : (wr.alloc o).grownBy W1 va.ownBlock)
    (hown : W1.ownsRow (N + 1) 45 5 v1 (3 * i + 3) (encR (anN n i) ++ encR (triN n))) : NFill w N n q v1 (i + 1) (W1.setCell ⟨N, 9, none⟩ v1) := by
  have r1 := h.row2 hg
  have hlt : ∀ g, va.ownBlock = some g → N + 1 ≤ g := fun g e => (h.a.lt g e).1
  have r3 : SlT W1 47 3 q 1 (encQn [⟨n, 1, 1⟩]) := by
    refine (h.q.below ((Below.refl _ wr).alloc (Nat.le_refl _) o)).kept hg (fun g e => ?_)
    obtain ⟨cc, fz, hk⟩ := owns_kind (h.a.alloc o) g e
    exact ⟨cc, _, fz, hk, by decide⟩
  have r4 : Below w.heap.size w W1 := (h.hb.alloc h.hb.size o).grown hg (by have := h.hb.size; simp; omega) (fun k e => by have := hlt k e; omega)
  refine ⟨heap_set r1, r3.setCell r1 (by decide), ?_, r4.setCell (p := ⟨N, 9, none⟩) hwN _⟩
  have e : encR (anN n (i + 1)) = encR (anN n i) ++ encR (triN n) := by rw [anN_succ]; simp [encR]
  rw [e, show 3 * (i + 1) = 3 * i + 3 by omega]
  exact World.ownsRow.setCellOther hown r1 (by decide) _ _
end Go.Proofs.Ythfhmbooeemaaaa

