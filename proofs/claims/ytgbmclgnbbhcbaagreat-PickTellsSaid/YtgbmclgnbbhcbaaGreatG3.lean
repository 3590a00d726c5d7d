/- Merged texts of the seat, in their order: RecA, RecB, RecC, RecD, RqA, RqB, RqC, RqD, RqE, RqF, RqI, RR, App2, Drw, PkA, PkB, PkC, PkD. -/
import Derived.Test.YtgbmclgnbbhcbaaGreatG1
import Derived.Test.YtgbmclgnbbhcbaaGreatG2
import Derived.BigQuiet
import Derived.Laws.CopyOwn
import Derived.ArgAppend
import Derived.Calls
import Derived.RunT
import Derived.Below
import Derived.Sort.Grow
import Derived.Sort.Row
import Derived.Deep.Draws
import Derived.Lib.SlicesCompact
import Derived.Sort.Statements
/- The contracts of record.Shape, places, texts, Data: what data may be, and where names stand in it. -/
namespace Go.Proofs.YtgbmclgnbbhcbaaGreat
open Go.RowKit
set_option linter.unusedVariables false

/-! ### pairs of numbers, in memory -/
def encP (l : List (Nat × Nat)) : List Value := l.flatMap fun p => [.int .i64 p.1, .int .i64 p.2]
theorem encP_snoc (l : List (Nat × Nat)) (a n : Nat) : encP (l ++ [(a, n)]) = encP l ++ [.int .i64 a, .int .i64 n] := by simp [encP]
theorem one_pair (a n : Nat) : ∀ u ∈ [Value.int .i64 (a : Int), Value.int .i64 (n : Int)], u.oneCell' = true := by
  intro u hu
  simp at hu
  rcases hu with rfl | rfl <;> rfl
/-- a list of pairs -/
def Pairs (w : World) (v : Value) (l : List (Nat × Nat)) : Prop := SlC w 2 v l.length (encP l)
theorem Pairs.below {B : Nat} {w w' : World} {v : Value} {l : List (Nat × Nat)} (h : Pairs w v l) (hb : Below B w w') (hB : w.heap.size ≤ B) : Pairs w' v l := SlC.below h hb hB
theorem encP_get : ∀ (l : List (Nat × Nat)) (j : Nat), j < l.length → (encP l)[2 * j]? = some (.int .i64 (l.getD j (0, 0)).1) ∧ (encP l)[2 * j + 1]? = some (.int .i64 (l.getD j (0, 0)).2)
  | [], j, h => by simp at h
  | p :: l, 0, _ => ⟨rfl, rfl⟩
  | p :: l, j + 1, h => by
    have := encP_get l j (by simpa using h)
    have e : encP (p :: l) = .int .i64 p.1 :: .int .i64 p.2 :: encP l := rfl
    rw [e, show 2 * (j + 1) = 2 * j + 1 + 1 by omega]
    simpa using this
theorem Pairs.at {w : World} {a : Option Addr} {m cap : Nat} {l : List (Nat × Nat)} (h : Pairs w (.slice a m cap) l) (hn : 0 < l.length) :
    ∃ b off, a = some ⟨b, off, none⟩ ∧ b < w.heap.size ∧ ∀ j, j < l.length → w.cell? ⟨b, off + 2 * j, none⟩ = some (.int .i64 (l.getD j (0, 0)).1) ∧ w.cell? ⟨b, off + (2 * j + 1), none⟩ = some (.int .i64 (l.getD j (0, 0)).2) := by
  obtain ⟨_, b, off, ha, hlt, h4⟩ := SlC.at h hn
  refine ⟨b, off, ha, hlt, fun j hj => ?_⟩
  obtain ⟨e1, e2⟩ := encP_get l j hj
  exact ⟨by rw [h4 (2 * j) (by omega), e1], by rw [h4 (2 * j + 1) (by omega), e2]⟩

/-! ### Shape -/
def shapeV (t : Int) : Value := match Rc.shape t with
  | some (a, m, b) => .tuple #[.int .i64 (a : Int), .int .i64 (m : Int), .int .i64 (b : Int), .bool true]
  | none => .tuple #[.int .i64 0, .int .i64 0, .int .i64 0, .bool false]

set_option maxRecDepth 100000 in
theorem Shape_any (t : Int) (w : World) : Calls Tryz.prog 104 #[.int .i64 t] w fun e w' => e = .returned (shapeV t) ∧ w = w' := by
  by_cases h : t = 2 ∨ t = 5 ∨ t = 12 ∨ t = 15 ∨ t = 33 ∨ t = 6
  · rcases h with rfl | rfl | rfl | rfl | rfl | rfl
    all_goals
      go_enter Tryz.func104, Tryz.ntmps104
      go_wp2
      refine bodyPost_ret (v := shapeV _) (by simp [results, Tryz.results104, go_sem, shapeV, Rc.shape]) rfl ⟨rfl, rfl⟩
  · have e1 : (t == 2) = false := by rw [beq_eq_false_iff_ne]; omega
    have e2 : (t == 5) = false := by rw [beq_eq_false_iff_ne]; omega
    have e3 : (t == 12) = false := by rw [beq_eq_false_iff_ne]; omega
    have e4 : (t == 15) = false := by rw [beq_eq_false_iff_ne]; omega
    have e5 : (t == 33) = false := by rw [beq_eq_false_iff_ne]; omega
    have e6 : (t == 6) = false := by rw [beq_eq_false_iff_ne]; omega
    have hf : Hid (shapeV t = .tuple #[.int .i64 0, .int .i64 0, .int .i64 0, .bool false]) := Go.Lib.hid (by
      unfold shapeV Rc.shape
      rw [if_neg (by omega), if_neg (by omega), if_neg (by omega), if_neg (by omega)])
    clear h
    go_enter Tryz.func104, Tryz.ntmps104
    go_wp2
    refine bodyPost_ret (v := .tuple #[.int .i64 0, .int .i64 0, .int .i64 0, .bool false]) (by simp [results, Tryz.results104, go_sem]) rfl ⟨by rw [hf.out], rfl⟩

/-! ### texts -/
/-- a text's size, of a value -/
def strLen (v : Value) : Nat := match v with | .string s => s.size | _ => 0
theorem strLen_mk (l : List UInt8) : strLen (.string (mk l)) = l.length := size_mk l

set_option maxRecDepth 100000 in
theorem texts_any (s : ByteArray) (w : World) (hs : s.size ≤ maxLen) :
    Calls Tryz.prog 103 #[.string s] w fun e w' => e = .returned (.bool (Rc.textsB (bl s))) ∧ w = w' := by
  cases hz : bl s with
  | nil =>
    have e1 : s.toList = [] := by rw [toList_bl, hz]
    have e2 : (s.toList == []) = true := by rw [e1]; rfl
    have hs0 : s = mk [] := bl_inj (by rw [hz, bl_mk])
    subst hs0
    clear hz e1 hs
    have hf : Hid (Rc.textsB [] = false) := Go.Lib.hid rfl
    go_enter Tryz.func103, Tryz.ntmps103
    go_wp2
    go_ret
    exact ⟨ret_bool hf.out.symm, rfl⟩
  | cons c0 r0 =>
    have hf : Hid (Rc.textsB (c0 :: r0) = Rc.textsF (bl s)) := Go.Lib.hid (by rw [hz]; rfl)
    have e1 : (s.toList == []) = false := by rw [toList_bl, hz]; rfl
    have hl := size_bl s
    unfold maxLen at hs
    have hle : (bl s).length ≤ 9223372036854775807 := by omega
    have hself := mk_bl s
    rw [← hself] at e1 ⊢
    clear hself
    generalize bl s = d0 at *
    clear hz hl hs s
    have HF := Go.Lib.hid hf
    clear hf
    go_enter Tryz.func103, Tryz.ntmps103
    go_wp2
    go_loop [0] (fun v => ∃ d : List UInt8, v = .string (mk d) ∧ Rc.textsF d = Rc.textsF d0 ∧ d.length ≤ 9223372036854775807) (fun v => strLen v)
    case atStart => exact ⟨d0, rfl, rfl, hle⟩
    case round =>
      obtain ⟨d, rfl, hd, hdl⟩ := hrel
      cases d with
      | nil =>
        have e1 : (!(mk []).toList.isEmpty) = false := by rw [toList_bl, bl_mk]; rfl
        have e2 : (mk []).toList = [] := by rw [toList_bl, bl_mk]
        have hfin : Hid (Rc.textsB (c0 :: r0) = true) := Go.Lib.hid (by rw [HF.out, ← hd]; rfl)
        clear hd
        go_wp2
        go_ret
        exact ⟨ret_bool hfin.out.symm, rfl⟩
      | cons c r =>
        have e1 : (!(mk (c :: r)).toList.isEmpty) = true := by rw [toList_bl, bl_mk]; rfl
        have e2 : ¬ (mk (c :: r)).toList = [] := by rw [toList_bl, bl_mk]; simp
        have hsz : (mk (c :: r)).size = r.length + 1 := by rw [size_mk]; rfl
        have h0 : 0 < (mk (c :: r)).size := by omega
        have hg : (mk (c :: r))[0] = c := rfl
        have hcb := c.toNat_lt
        have hrl : r.length + 1 ≤ 9223372036854775807 := by simpa using hdl
        by_cases hbig : r.length < c.toNat
        · have hfin : Hid (Rc.textsB (c0 :: r0) = false) := Go.Lib.hid (by rw [HF.out, ← hd, Rc.textsF_cons, if_pos hbig])
          have e3 : (r.length : Int) + 1 < 1 + (c.toNat : Int) := by omega
          clear hd hdl
          go_wp2
          go_ret
          exact ⟨ret_bool hfin.out.symm, rfl⟩
        · have hnx : Rc.textsF (r.drop c.toNat) = Rc.textsF d0 := by rw [← hd, Rc.textsF_cons, if_neg hbig]
          have e3 : ¬ (r.length : Int) + 1 < 1 + (c.toNat : Int) := by omega
          have hx : (mk (c :: r)).extract (1 + c.toNat) (r.length + 1) = mk (r.drop c.toNat) := by
            apply bl_inj
            rw [bl_extract, bl_mk, bl_mk, show 1 + c.toNat = c.toNat + 1 by omega, List.drop_succ_cons]
            exact List.take_of_length_le (by rw [List.length_drop]; omega)
          have HNX := Go.Lib.hid hnx
          clear hnx
          clear hd hdl
          go_wp2
          go_round
          case rel => exact ⟨r.drop c.toNat, by rw [hx], HNX.out, by rw [List.length_drop]; omega⟩
          case measure => rw [hx, strLen_mk, strLen_mk, List.length_drop]; simp; omega

/-! ### places -/
theorem infoPl : (Tryz.prog.info? 115).map (fun i => (i.zero, i.size, i.bytes)) = some (some (.agg #[.int .i64 0, .int .i64 0]), 2, 16) := by kernel_rfl
theorem eiPl : EI Tryz.prog 111 115 2 16 := ei_of Tryz.underlying111 infoPl rfl (by decide)
/-- a list of pairs and a bool, in new memory -/
def RetPairs (w : World) (p : List (Nat × Nat) × Bool) (e : Ending) (w' : World) : Prop := ∃ v, e = .returned (.tuple #[v, .bool p.2]) ∧ w'.ownsRow w.heap.size 115 2 v p.1.length (encP p.1) ∧ Below w.heap.size w w'
theorem pairs_owned {w : World} {g e : Nat} {v : Value} {ls : List (Nat × Nat)} (h : w.ownsRow g e 2 v ls.length (encP ls)) : Pairs w v ls := SlC.of_owns h
theorem retPairs_nil {w : World} {p : List (Nat × Nat) × Bool} {b : Bool} (h : p = ([], b)) : RetPairs w p (.returned (.tuple #[.slice none 0 0, .bool b])) w := ⟨_, by rw [h], by rw [h]; exact World.ownsRow_nil _ _ _ _, Below.refl _ _⟩

theorem ret_pairs {w w' : World} {v : Value} {p : List (Nat × Nat) × Bool} {l : List (Nat × Nat)} {b : Bool} (h1 : p = (l, b)) (h2 : w'.ownsRow w.heap.size 115 2 v l.length (encP l)) (h3 : Below w.heap.size w w') : RetPairs w p (.returned (.tuple #[v, .bool b])) w' := ⟨v, by rw [h1], by rw [h1]; exact h2, h3⟩
theorem placesP_eq {t : Int} {a m b : Nat} {d : List UInt8} (h : Rc.shape t = some (a, m, b)) (hl : ¬ d.length < a) :
    (Rc.names d a m = none → Rc.placesP t d = ([], false)) ∧ (∀ l e, Rc.names d a m = some (l, e) → Rc.placesP t d = (l, decide (d.length - e = b))) := by
  constructor
  · intro hn
    unfold Rc.placesP
    rw [h]
    simp only
    rw [if_neg hl, hn]
  · intro l e hn
    unfold Rc.placesP
    rw [h]
    simp only
    rw [if_neg hl, hn]

set_option maxRecDepth 100000 in
set_option maxHeartbeats 2000000 in
theorem places_any (t : Int) (s : ByteArray) (w : World) (hs : s.size ≤ maxLen) :
    Calls Tryz.prog 76 #[.int .i64 t, .string s] w (RetPairs w (Rc.placesP t (bl s))) := by
  have hsh := Shape_any t w
  cases hc : Rc.shape t with
  | none =>
    have hfin : Hid (Rc.placesP t (bl s) = ([], true)) := Go.Lib.hid (by unfold Rc.placesP; rw [hc])
    unfold shapeV at hsh
    rw [hc] at hsh
    have HSH := Go.Lib.hid hsh
    clear hsh
    clear hc hs
    go_enter Tryz.func76, Tryz.ntmps76
    go_wp2_with fail
    refine HSH.out.mono ?_; rintro e _ ⟨rfl, rfl⟩
    go_wp2_with fail
    go_ret2
    exact retPairs_nil hfin.out
  | some q =>
    obtain ⟨a, m, b⟩ := q
    unfold shapeV at hsh
    rw [hc] at hsh
    simp only at hsh
    have ha : a ≤ 6 ∧ m ≤ 2 ∧ b ≤ 20 := by
      unfold Rc.shape at hc
      repeat' split at hc
      all_goals first | (simp only [Option.some.injEq, Prod.mk.injEq] at hc; omega) | cases hc
    obtain ⟨ha, hm, hb20⟩ := ha
    have hl := size_bl s
    unfold maxLen at hs
    by_cases hshort : s.size < a
    · have hfin : Hid (Rc.placesP t (bl s) = ([], false)) := Go.Lib.hid (by unfold Rc.placesP; rw [hc]; simp only; rw [if_pos (by omega)])
      have HSH := Go.Lib.hid hsh
      clear hsh
      have e1 : (s.size : Int) < (a : Int) := by omega
      clear hc hs hl hshort
      go_enter Tryz.func76, Tryz.ntmps76
      go_wp2_with fail
      refine HSH.out.mono ?_; rintro e _ ⟨rfl, rfl⟩
      go_wp2_with fail
      go_ret2
      exact retPairs_nil hfin.out
    · obtain ⟨hfn, hfs⟩ := placesP_eq hc (d := bl s) (by omega)
      have HFN := Go.Lib.hid hfn
      have HFS := Go.Lib.hid hfs
      clear hfn hfs
      have e0 : decide (s.size < a) = false := decide_eq_false hshort
      have hch := fun m l e h => Rc.names_chain (d := bl s) (a := a) (by omega) m l e h
      have e1 : ¬ (s.size : Int) < (a : Int) := by omega
      have HSH := Go.Lib.hid hsh
      have HCH := Go.Lib.hid hch
      have HL := Go.Lib.hid hl
      clear hsh hch hl
      clear hc hshort
      have has : a ≤ s.size := by omega
      generalize Rc.placesP t (bl s) = res at *
      go_enter Tryz.func76, Tryz.ntmps76
      go_wp2_with fail
      refine HSH.out.mono ?_; rintro e _ ⟨rfl, rfl⟩
      go_wp2_with fail
      go_loopw [4, 10, 28] (fun v at_ i wr => ∃ (k at0 : Nat) (l : List (Nat × Nat)), i = .int .i64 k ∧ k ≤ m ∧ at_ = .int .i64 at0 ∧ Rc.names (bl s) a k = some (l, at0) ∧ wr.ownsRow w.heap.size 115 2 v l.length (encP l) ∧ Below w.heap.size w wr) (fun _ _ i _ => m - (intOf i).toNat)
      case atStart => exact ⟨0, a, [], rfl, by omega, rfl, rfl, World.ownsRow_nil _ _ _ _, Below.refl _ _⟩
      case round =>
        obtain ⟨k, at0, l, rfl, hk, rfl, hnm, hown, hbel⟩ := hrel
        obtain ⟨c1, c2, c3, c4, c5⟩ := HCH.out k l at0 hnm
        have c3' : at0 ≤ s.size := by rw [HL.out]; exact c3
        have hbz := hbel.size
        have HNM := Go.Lib.hid hnm
        have HO := Go.Lib.hid hown
        have HB := Go.Lib.hid hbel
        have HC4 := Go.Lib.hid c4
        have HC5 := Go.Lib.hid c5
        clear hnm hown hbel c4 c5
        clear c3
        by_cases hlt : k < m
        · have e2 : (k : Int) < (m : Int) := by omega
          have hx : s.extract at0 s.size = mk ((bl s).drop at0) := by
            apply bl_inj
            rw [bl_extract, bl_mk]
            exact List.take_of_length_le (by rw [List.length_drop, HL.out]; exact Nat.le_refl _)
          have hld := fun w => lead_any (mk ((bl s).drop at0)) w (by rw [size_mk, List.length_drop]; have := HL.out; unfold maxLen; omega)
          have hstep := Rc.names_succ HNM.out
          unfold leadV at hld
          rw [bl_mk] at hld
          cases hlq : Nm.lead ((bl s).drop at0) with
          | none =>
            rw [hlq] at hld hstep
            have hnone : Hid (res = ([], false)) := Go.Lib.hid (HFN.out (Rc.names_none hstep (show k + 1 ≤ m by omega)))
            have HLD := Go.Lib.hid hld
            clear hld
            clear hlq hstep
            go_wp2_with fail
            refine (HLD.out _).mono ?_; rintro e _ ⟨rfl, rfl⟩
            go_wp2_with fail
            go_ret2
            exact ret_pairs hnone.out (World.ownsRow_nil _ _ _ _) HB.out
          | some n =>
            rw [hlq] at hld hstep
            simp only at hld hstep
            have hle := Nm.lead_le hlq
            rw [List.length_drop, ← HL.out] at hle
            have HLD := Go.Lib.hid hld
            have HST := Go.Lib.hid hstep
            clear hld hstep
            clear hlq
            go_wp2_with fail
            refine (HLD.out _).mono ?_; rintro e _ ⟨rfl, rfl⟩
            go_wp2_with (at_builtin; refine wpList_app eiPl (.tmp 39) (.tmp 43) rfl rfl w.heap.size rfl rfl (HO.out.alloc _) (slc_new _ 2 1 115 [.int .i64 (at0 : Int), .int .i64 (n : Int)] rfl (by decide)) (one_pair at0 n) (by unfold maxLen; omega) (by omega) (by simp; omega) ?_; intro v1 w1 hown1 hg1)
            go_roundw
            case rel => exact ⟨k + 1, at0 + n, l ++ [(at0, n)], by go_num, by omega, by go_num, HST.out, by rw [List.length_append, encP_snoc]; exact hown1, below_app (HB.out.alloc hbz _) (HO.out.alloc _) hg1 (Nat.le_refl _) (by simp; omega)⟩
            case measure => simp [intOf]; omega
        · obtain rfl : k = m := by omega
          have hres : Hid (res = (l, decide ((bl s).length - at0 = b))) := Go.Lib.hid (HFS.out _ _ HNM.out)
          have hdec : ∀ q : Bool, q = decide ((s.size : Int) - (at0 : Int) = (b : Int)) → q = decide ((bl s).length - at0 = b) := fun q hq => by
            rw [hq, ← HL.out]
            by_cases hz : s.size - at0 = b
            · rw [decide_eq_true hz, decide_eq_true (by omega)]
            · rw [decide_eq_false hz, decide_eq_false (by omega)]
          have HDEC := Go.Lib.hid hdec
          clear hdec
          by_cases hz : (s.size : Int) - (at0 : Int) = (b : Int)
          · have e3 : ((s.size : Int) - (at0 : Int) == (b : Int)) = true := by rw [beq_iff_eq]; exact hz
            have hd := HDEC.out true (by rw [decide_eq_true hz])
            have HD := Go.Lib.hid hd
            clear hd
            clear hz
            go_wp2_with fail
            go_ret2
            exact ret_pairs (by rw [hres.out, ← HD.out]) HO.out HB.out
          · have e3 : ((s.size : Int) - (at0 : Int) == (b : Int)) = false := by rw [beq_eq_false_iff_ne]; exact hz
            have hd := HDEC.out false (by rw [decide_eq_false hz])
            have HD := Go.Lib.hid hd
            clear hd
            clear hz
            go_wp2_with fail
            go_ret2
            exact ret_pairs (by rw [hres.out, ← HD.out]) HO.out HB.out
end Go.Proofs.YtgbmclgnbbhcbaaGreat

/- The contracts of record.Data, and of the iterator that record.Names hands out. -/
namespace Go.Proofs.YtgbmclgnbbhcbaaGreat
open Go.RowKit Go.Shelf Go.Sq

attribute [local go_sem] Oper.semAt_some
set_option linter.unusedVariables false

set_option maxRecDepth 100000 in
set_option maxHeartbeats 2000000 in
theorem Data_any (t : Int) (s : ByteArray) (w : World) (hs : s.size ≤ maxLen) :
    Calls Tryz.prog 75 #[.int .i64 t, .string s] w fun e w' => e = .returned (.bool (Rc.dataB t (bl s))) ∧ Below w.heap.size w w' := by
  have hp := places_any t s w hs
  have htx := fun w => texts_any s w hs
  have hl := size_bl s
  have hd : Rc.dataB t (bl s) = if 1000 < (bl s).length then false else if t = 1 then decide ((bl s).length = 4) else if t = 28 then decide ((bl s).length = 16) else if t = 16 then Rc.textsB (bl s) else (Rc.placesP t (bl s)).2 := rfl
  rw [← hl] at hd
  generalize Rc.dataB t (bl s) = res at *
  generalize Rc.textsB (bl s) = tx at *
  generalize Rc.placesP t (bl s) = p at *
  obtain ⟨pl, pb⟩ := p
  simp only at hd
  have HP := Go.Lib.hid hp
  have HTX := Go.Lib.hid htx
  clear hp htx
  by_cases hbig : 1000 < s.size
  · rw [if_pos hbig] at hd
    have e1 : 1000 < (s.size : Int) := by omega
    have HD := Go.Lib.hid hd
    clear hd
    clear hs hl hbig
    go_enter Tryz.func75, Tryz.ntmps75
    go_wp2_with fail
    refine HP.out.mono ?_; rintro e w1 ⟨v, rfl, hst, hb⟩
    have HB := Go.Lib.hid hb
    clear hb
    clear hst
    go_wp2_with fail
    go_ret
    exact ⟨ret_bool HD.out.symm, HB.out⟩
  · rw [if_neg hbig] at hd
    have e1 : ¬ 1000 < (s.size : Int) := by omega
    by_cases h1 : t = 1
    · rw [if_pos h1] at hd
      subst h1
      by_cases h4 : s.size = 4
      · rw [decide_eq_true h4] at hd
        have e2 : ((s.size : Int) == 4) = true := by rw [beq_iff_eq]; omega
        have HD := Go.Lib.hid hd
        clear hd
        clear hs hl hbig h4
        go_enter Tryz.func75, Tryz.ntmps75
        go_wp2_with fail
        refine HP.out.mono ?_; rintro e w1 ⟨v, rfl, hst, hb⟩
        have HB := Go.Lib.hid hb
        clear hb
        clear hst
        go_wp2_with fail
        go_ret
        exact ⟨ret_bool HD.out.symm, HB.out⟩
      · rw [decide_eq_false h4] at hd
        have e2 : ((s.size : Int) == 4) = false := by rw [beq_eq_false_iff_ne]; omega
        have HD := Go.Lib.hid hd
        clear hd
        clear hs hl hbig h4
        go_enter Tryz.func75, Tryz.ntmps75
        go_wp2_with fail
        refine HP.out.mono ?_; rintro e w1 ⟨v, rfl, hst, hb⟩
        have HB := Go.Lib.hid hb
        clear hb
        clear hst
        go_wp2_with fail
        go_ret
        exact ⟨ret_bool HD.out.symm, HB.out⟩
    · rw [if_neg h1] at hd
      have e3 : (t == 1) = false := by rw [beq_eq_false_iff_ne]; exact h1
      by_cases h28 : t = 28
      · rw [if_pos h28] at hd
        subst h28
        clear h1 e3
        by_cases h4 : s.size = 16
        · rw [decide_eq_true h4] at hd
          have e2 : ((s.size : Int) == 16) = true := by rw [beq_iff_eq]; omega
          have HD := Go.Lib.hid hd
          clear hd
          clear hs hl hbig h4
          go_enter Tryz.func75, Tryz.ntmps75
          go_wp2_with fail
          refine HP.out.mono ?_; rintro e w1 ⟨v, rfl, hst, hb⟩
          have HB := Go.Lib.hid hb
          clear hb
          clear hst
          go_wp2_with fail
          go_ret
          exact ⟨ret_bool HD.out.symm, HB.out⟩
        · rw [decide_eq_false h4] at hd
          have e2 : ((s.size : Int) == 16) = false := by rw [beq_eq_false_iff_ne]; omega
          have HD := Go.Lib.hid hd
          clear hd
          clear hs hl hbig h4
          go_enter Tryz.func75, Tryz.ntmps75
          go_wp2_with fail
          refine HP.out.mono ?_; rintro e w1 ⟨v, rfl, hst, hb⟩
          have HB := Go.Lib.hid hb
          clear hb
          clear hst
          go_wp2_with fail
          go_ret
          exact ⟨ret_bool HD.out.symm, HB.out⟩
      · rw [if_neg h28] at hd
        have e4 : (t == 28) = false := by rw [beq_eq_false_iff_ne]; exact h28
        by_cases h16 : t = 16
        · rw [if_pos h16] at hd
          subst h16
          have HD := Go.Lib.hid hd
          clear hd
          clear hs hl hbig e3 e4 h1 h28
          go_enter Tryz.func75, Tryz.ntmps75
          go_wp2_with fail
          refine HP.out.mono ?_; rintro e w1 ⟨v, rfl, hst, hb⟩
          have HB := Go.Lib.hid hb
          clear hb
          clear hst
          go_wp2_with fail
          refine (HTX.out _).mono ?_; rintro e _ ⟨rfl, rfl⟩
          go_wp2_with fail
          go_ret
          exact ⟨ret_bool HD.out.symm, HB.out⟩
        · rw [if_neg h16] at hd
          have e5 : (t == 16) = false := by rw [beq_eq_false_iff_ne]; exact h16
          have HD := Go.Lib.hid hd
          clear hd
          clear hs hl hbig h1 h28 h16
          go_enter Tryz.func75, Tryz.ntmps75
          go_wp2_with fail
          refine HP.out.mono ?_; rintro e w1 ⟨v, rfl, hst, hb⟩
          have HB := Go.Lib.hid hb
          clear hb
          clear hst
          go_wp2_with fail
          go_ret
          exact ⟨ret_bool HD.out.symm, HB.out⟩

/-! ### Names -/
/-- record.Names(t, d): both are boxed; the function value captures the boxes -/
theorem Names_any (t : Int) (s : ByteArray) (w : World) :
    Calls Tryz.prog 58 #[.int .i64 t, .string s] w fun e w' => e = .returned (.func (.func 74) #[] #[.pointer (some ⟨w.heap.size, 0, none⟩), .pointer (some ⟨w.heap.size + 1, 0, none⟩)]) ∧
      w' = (w.alloc (.cells #[.int .i64 t] 3)).alloc (.cells #[.string s] 9) := by
  go_enter Tryz.func58, Tryz.ntmps58
  go_wp2
  go_ret
  exact ⟨rfl, rfl⟩

theorem abides_below {β : Type} {B : Nat} {J : β → World → Prop} (hJ : AbidesFrom B J) {s : β} {W W' : World} (h : J s W) (hb : Below W.heap.size W W') : J s W' :=
  hJ s W W' none h ⟨hb.os, hb.tape, hb.output, hb.size, fun k hk _ => hb.block k hk⟩ (fun r e => by cases e)

abbrev IsPlace (T : Nat) : Prop := T = 115
/-- the pairs as the iterator hands them out -/
def encPair (p : Nat × Nat) : Array Value := #[.int .i64 p.1, .int .i64 p.2]

theorem pair_cells {w : World} {B e k cap : Nat} {a : Option Addr} {L : List (Nat × Nat)} (h : w.ownsRow B e 2 (.slice a L.length cap) L.length (encP L)) (hk : k < L.length) :
    ∃ g cur, a = some ⟨g, 0, none⟩ ∧ w.heap[g]? = some (.cells cur e (0, 0)) ∧ w.cell? ⟨g, k * 2, none⟩ = some (.int .i64 (L.getD k (0, 0)).1) ∧ w.cell? ⟨g, k * 2 + 1, none⟩ = some (.int .i64 (L.getD k (0, 0)).2) := by
  have hP : Pairs w (.slice a L.length cap) L := SlC.of_owns h
  obtain ⟨b, off, ha, _, hc⟩ := Pairs.at hP (by omega)
  obtain ⟨h1, h2⟩ := h
  rcases h2 with ⟨hv, h0⟩ | ⟨g, cap', cur, hv, _, hg, _⟩
  · simp only [Value.slice.injEq] at hv
    omega
  · simp only [Value.slice.injEq] at hv
    obtain ⟨hv1, _, _⟩ := hv
    rw [hv1] at ha
    simp only [Option.some.injEq, Addr.mk.injEq] at ha
    obtain ⟨rfl, rfl, _⟩ := ha
    obtain ⟨c1, c2⟩ := hc k hk
    rw [Nat.zero_add, Nat.mul_comm] at c1 c2
    exact ⟨g, cur, hv1, hg, c1, c2⟩

set_option maxRecDepth 100000 in
set_option maxHeartbeats 2000000 in
theorem names_seq (n : Nat) (hn : 3 ≤ n) (Bt Bd : Nat) (t : Int) (s : ByteArray) (hs : s.size ≤ maxLen) (w : World) (hBt : Bt < w.heap.size) (hBd : Bd < w.heap.size)
    (hct : w.cell? ⟨Bt, 0, none⟩ = some (.int .i64 t)) (hcd : w.cell? ⟨Bd, 0, none⟩ = some (.string s)) :
    SeqOk Fence.wide n Tryz.prog 74 #[.pointer (some ⟨Bt, 0, none⟩), .pointer (some ⟨Bd, 0, none⟩)] encPair (KpT IsPlace)
      (fun xs => xs <+: (Rc.partsN t (bl s)).getD []) (fun xs => xs = (Rc.partsN t (bl s)).getD []) (fun xs => xs <+: (Rc.partsN t (bl s)).getD []) w := fun l J Jx W hW hJ hJx hY h0 => by
  have hct' := (hW.cell (p := ⟨Bt, 0, none⟩) hBt).trans hct
  have hcd' := (hW.cell (p := ⟨Bd, 0, none⟩) hBd).trans hcd
  have hd := fun w => Data_any t s w hs
  have hp := fun w => places_any t s w hs
  have hsz := hW.size
  clear hct hcd hs
  cases hdt : Rc.dataB t (bl s) with
  | false =>
    rw [hdt] at hd
    rw [Rc.partsN_none hdt] at hY ⊢
    have HD := Go.Lib.hid hd
    have HY := Go.Lib.hid hY
    have HJ := Go.Lib.hid hJ
    have HJX := Go.Lib.hid hJx
    have H0 := Go.Lib.hid h0
    have HW := Go.Lib.hid hW
    clear hd hY hJ hJx h0 hW
    clear hp hdt
    refine callsIn_of_wp Tryz.func74 rfl trivial ?_ rfl
    simp only [Tryz.ntmps74, List.size_toArray, List.length_cons, List.length_nil, Nat.reduceAdd, Nat.reduceSub, Array.replicate_succ, Array.replicate_zero, List.push_toArray, List.append_toArray, List.nil_append, List.cons_append]
    gi_wp2_with fail
    refine ⟨trivial, fun _ => by omega, (callsIn_wide.2 (HD.out _)).mono ?_⟩
    rintro e W1 ⟨rfl, hb⟩
    have hj := abides_below HJ.out H0.out hb
    have HJ1 := Go.Lib.hid hj
    have HB := Go.Lib.hid hb
    clear hj hb
    gi_wp2_with fail
    refine bodyPost_ret (results_none rfl _ _ _) rfl ?_
    exact ⟨⟨_, rfl⟩, .inl ⟨[], rfl, HJ1.out⟩⟩
  | true =>
    rw [hdt] at hd
    rw [Rc.partsN_some hdt] at hY ⊢
    simp only [Option.getD_some] at hY ⊢
    have HD := Go.Lib.hid hd
    have HY := Go.Lib.hid hY
    have HJ := Go.Lib.hid hJ
    have HJX := Go.Lib.hid hJx
    have H0 := Go.Lib.hid h0
    have HW := Go.Lib.hid hW
    have HP := Go.Lib.hid hp
    clear hd hY hJ hJx h0 hW hp
    have hL2 := (Rc.placesP_chain t (bl s)).2
    clear hdt
    generalize Rc.placesP t (bl s) = p at *
    obtain ⟨L, pb⟩ := p
    simp only at HY hL2
    refine callsIn_of_wp Tryz.func74 rfl trivial ?_ rfl
    simp only [Tryz.ntmps74, List.size_toArray, List.length_cons, List.length_nil, Nat.reduceAdd, Nat.reduceSub, Array.replicate_succ, Array.replicate_zero, List.push_toArray, List.append_toArray, List.nil_append, List.cons_append]
    gi_wp2_with fail
    refine ⟨trivial, fun _ => by omega, (callsIn_wide.2 (HD.out _)).mono ?_⟩
    rintro e W1 ⟨rfl, hb⟩
    have hj := abides_below HJ.out H0.out hb
    have hct2 := (hb.cell (p := ⟨Bt, 0, none⟩) (by show Bt < _; omega)).trans hct'
    have hcd2 := (hb.cell (p := ⟨Bd, 0, none⟩) (by show Bd < _; omega)).trans hcd'
    have hsz1 := hb.size
    have HJ1 := Go.Lib.hid hj
    have HB := Go.Lib.hid hb
    clear hj hb
    clear hct' hcd'
    gi_wp2_with fail
    refine ⟨trivial, fun _ => by omega, (callsIn_wide.2 (HP.out _)).mono ?_⟩
    rintro e W2 ⟨v, rfl, hown, hb2⟩
    have hj := abides_below HJ.out HJ1.out hb2
    have hsz2 := hb2.size
    obtain ⟨a, cap, rfl, hcap, hcm⟩ := (SlC.of_owns hown).slice
    have HJ2 := Go.Lib.hid hj
    have HB2 := Go.Lib.hid hb2
    have HO := Go.Lib.hid hown
    clear hj hb2 hown
    clear hct2 hcd2
    gi_wp2_with fail
    gi_loopw [20] (fun i wr => ∃ k : Nat, k ≤ L.length ∧ i = .int .i64 k ∧ J (L.take k) wr ∧ KpT IsPlace W2 wr)
      (fun i _ => L.length - (intOf i).toNat)
    case atStart => exact ⟨0, Nat.zero_le _, rfl, by simpa using HJ2.out, KpT.refl _⟩
    case round =>
      obtain ⟨k, hk, rfl, hj, hkp⟩ := hrel
      have HJS := Go.Lib.hid hj
      have HKP := Go.Lib.hid hkp
      clear hj hkp
      by_cases hlt : k < L.length
      · obtain ⟨g, cur, hga, hrow, hc1, hc2⟩ := pair_cells HO.out hlt
        cases hga
        have hr1 := (HKP.out.cell (o := k * 2) rfl hrow).trans hc1
        have hr2 := (HKP.out.cell (o := k * 2 + 1) rfl hrow).trans hc2
        have hsn : L.take (k + 1) = L.take k ++ [L.getD k (0, 0)] := by
          rw [List.take_succ_eq_append_getElem hlt]
          simp [hlt]
        have HSN := Go.Lib.hid hsn
        have HROW := Go.Lib.hid hrow
        clear hsn hrow
        clear hc1 hc2
        generalize L.getD k (0, 0) = q at *
        obtain ⟨qa, qn⟩ := q
        have hj3 := abides_below HJ.out HJS.out ((Below.refl _ wr).alloc (Nat.le_refl _) (.cells #[.int .i64 qa, .int .i64 qn] 115))
        have hpre : L.take k ++ [(qa, qn)] <+: L := by rw [← HSN.out]; exact List.take_prefix _ _
        obtain ⟨fn, tmps, assign, body, hy, hR⟩ := HY.out _ (qa, qn) _ hj3 hpre
        unfold encPair at hy
        have hkp3 := HKP.out.alloc (.cells #[.int .i64 qa, .int .i64 qn] 115)
        have HR := Go.Lib.hid hR
        have HJ3 := Go.Lib.hid hj3
        have HKP3 := Go.Lib.hid hkp3
        have HPRE := Go.Lib.hid hpre
        clear hR hj3 hkp3 hpre
        gi_wp2_with fail
        refine ⟨fun _ => by omega, HR.out.mono ?_⟩
        rintro e W3 (⟨rfl, hJ3, hk3⟩ | ⟨rfl, hJx3⟩)
        · have HJ4 := Go.Lib.hid hJ3
          have HK4 := Go.Lib.hid hk3
          clear hJ3 hk3
          clear hy
          gi_wp2_with fail
          go_roundw
          case rel => exact ⟨k + 1, by omega, by simp, by rw [HSN.out]; exact HJ4.out, HKP3.out.trans HK4.out⟩
          case measure => simp [intOf]; omega
        · have HJX4 := Go.Lib.hid hJx3
          clear hJx3
          clear hy
          gi_wp2_with fail
          refine bodyPost_ret (results_none rfl _ _ _) rfl ?_
          exact ⟨⟨_, rfl⟩, .inr ⟨_, HPRE.out, HJX4.out⟩⟩
      · obtain rfl : k = L.length := by omega
        gi_wp2_with fail
        go_end0
        exact ⟨⟨_, rfl⟩, .inl ⟨_, rfl, by have := HJS.out; rwa [List.take_length] at this⟩⟩
end Go.Proofs.YtgbmclgnbbhcbaaGreat

/- The contracts of record.Fold and record.Same: data with its names folded, and whether two records are alike. -/
namespace Go.Proofs.YtgbmclgnbbhcbaaGreat
open Go.RowKit Go.Shelf Go.Sq
set_option linter.unusedVariables false

attribute [local go_sem] Oper.semAt_some

theorem BelowC.cell {W : World} {p : Addr} {v : Value} (h : W.cell? p = some v) (hp : p.block < W.heap.size) (w3 : Subtype (Below W.heap.size W)) : w3.1.cell? p = some v := (w3.2.cell hp).trans h
theorem foldD_run (t : Int) (d : List UInt8) : Rc.foldD t d = (Rc.runF d ((Rc.partsN t d).getD [])).1 ++ d.drop (Rc.runF d ((Rc.partsN t d).getD [])).2 := by
  unfold Rc.foldD
  cases h : Rc.partsN t d with
  | none => rfl
  | some l => exact (Rc.runF_fold (Rc.partsN_chain h).1).1
theorem parts_chain (t : Int) (d : List UInt8) : Rc.Chain d 0 ((Rc.partsN t d).getD []) := by
  cases h : Rc.partsN t d with
  | none => exact Nat.zero_le _
  | some l => exact (Rc.partsN_chain h).1

theorem keepsFrom_below {B : Nat} {W W' : World} (h : Below W.heap.size W W') : KeepsFrom B W W' := KeepsFrom.of_grownBy (row := none) ⟨h.os, h.tape, h.output, h.size, fun k hk _ => h.block k hk⟩ (fun j e => by cases e)

abbrev fr50 (t : Int) (s : ByteArray) (N : Nat) (x : Nat × Nat) : Act := { tmps := #[.int .i64 t, .string s, undef, .pointer (some ⟨N, 0, none⟩), .string ⟨#[]⟩, .pointer (some ⟨N + 1, 0, none⟩), .pointer (some ⟨N + 1 + 1, 0, none⟩), .int .i64 (x.1 : Int), .int .i64 (x.2 : Int), .int .i64 t, .string s,
  .func (.func 74) #[] #[.pointer (some ⟨N + 1 + 1 + 1, 0, none⟩), .pointer (some ⟨N + 1 + 1 + 1 + 1, 0, none⟩)], .int .i64 (x.1 : Int), .int .i64 (x.2 : Int), undef, undef, undef, undef, undef, undef, undef, undef, undef, undef, undef, undef, undef, undef, undef, undef, undef, undef, undef, undef, undef, undef], defers := [] }

/-- what the loop has laid by -/
def FoldI (w : World) (s : ByteArray) (t : Int) (pre : List (Nat × Nat)) (W : World) : Prop :=
  ((Boxed W w.heap.size 9 (.string s) ∧ Boxed W (w.heap.size + 1) 9 (.string (mk (Rc.runF (bl s) pre).1)) ∧ Boxed W (w.heap.size + 1 + 1) 3 (.int .i64 ((Rc.runF (bl s) pre).2 : Int))) ∧ Below w.heap.size w W) ∧ w.heap.size + 5 ≤ W.heap.size

end Go.Proofs.YtgbmclgnbbhcbaaGreat

/- The contract of record.Same: whether two records are alike. -/
namespace Go.Proofs.YtgbmclgnbbhcbaaGreat
open Go.RowKit Go.Shelf Go.Sq
set_option linter.unusedVariables false

/-- a record as a value, and as cells -/
def rrC (r : Rc.RR) : Array Value := #[.string (mk r.name), .int .i64 r.ty, .int .i64 r.cl, .int .i64 r.ttl, .string (mk r.data)]
abbrev rrV (r : Rc.RR) : Value := .agg #[.string (mk r.name), .int .i64 r.ty, .int .i64 r.cl, .int .i64 r.ttl, .string (mk r.data)]
/-- its texts are texts of a machine -/
def RROk (r : Rc.RR) : Prop := r.name.length ≤ maxLen ∧ r.data.length ≤ maxLen

theorem two_boxes (w : World) (x y : Array Value) (T : TypeId) :
    ((w.alloc (.cells x T)).alloc (.cells y T)).heap[w.heap.size]? = some (.cells x T (0, 0)) ∧ ((w.alloc (.cells x T)).alloc (.cells y T)).heap[w.heap.size + 1]? = some (.cells y T (0, 0)) := by
  constructor
  · exact (Below.heap_alloc _ _ _ (by simp)).trans (World.alloc_heap_new w _)
  · have := World.alloc_heap_new (w.alloc (.cells x T)) (.cells y T)
    rwa [World.size_alloc] at this
theorem cell_of_heap {W : World} {B : Nat} {cs : Array Value} {T : TypeId} (h : W.heap[B]? = some (.cells cs T (0, 0))) (j : Nat) : W.cell? ⟨B, j, none⟩ = cs[j]? := by
  simp [World.cell?, h]

end Go.Proofs.YtgbmclgnbbhcbaaGreat

/- The contracts of record.Known, within, number, bytes; the reference's number, four, word, Known. -/
namespace Go.Proofs.YtgbmclgnbbhcbaaGreat
open Go.RowKit
set_option linter.unusedVariables false
set_option linter.unusedSimpArgs false

theorem run_conv_nw (w : World) (n : Nat) (cs : List Value) (l : List UInt8) (hn : cs.length = n) (h : cs = l.map fun b => .int .u8 b.toNat) (hm : n ≤ maxLen) :
    (convert 86 9 (.slice (some ⟨w.heap.size, 0, none⟩) n n)).run Tryz.prog (w.alloc (.cells cs.toArray 5)) = .ok (.string (mk l)) (w.alloc (.cells cs.toArray 5)) := by
  have hl : l.length = n := by rw [← hn, h]; simp
  refine run_conv_string ?_
  unfold Byts
  rw [hl, ← h]
  exact slc_new w 1 n _ cs (by rw [hn]; simp) hm
theorem four_vals (n : Int) : [Value.int IntKind.u8 (n / 16777216 % 256), Value.int IntKind.u8 (n / 65536 % 256), Value.int IntKind.u8 (n / 256 % 256), Value.int IntKind.u8 (n % 256)] = (four n).map fun b : UInt8 => Value.int .u8 b.toNat := by
  unfold four
  simp only [List.map_cons, List.map_nil, byteOf_nat, Int.ediv_one]
/-- is a type known? -/
def knownB (t : Int) : Bool := decide (t = 1 ∨ t = 2 ∨ t = 5 ∨ t = 6 ∨ t = 12 ∨ t = 15 ∨ t = 16 ∨ t = 28 ∨ t = 33)


end Go.Proofs.YtgbmclgnbbhcbaaGreat

/- The contract of record.Check. -/
namespace Go.Proofs.YtgbmclgnbbhcbaaGreat
open Go.RowKit
set_option linter.unusedVariables false

/-- may a record be? -/
def checkB (r : Rc.RR) : Bool := Nm.valid r.name && decide (1 ≤ r.ty ∧ r.ty ≤ 65535) && (r.ty != 41) && decide (0 ≤ r.cl ∧ r.cl ≤ 65535) && decide (0 ≤ r.ttl ∧ r.ttl ≤ 2147483647) && Rc.dataB r.ty r.data






end Go.Proofs.YtgbmclgnbbhcbaaGreat

/- The contracts of record.Addr. -/
namespace Go.Proofs.YtgbmclgnbbhcbaaGreat
open Go.RowKit
set_option linter.unusedVariables false

/-- what an address is told as -/
def addrV (ty : Int) (d : List UInt8) : Value := if ty = 1 ∧ d.length = 4 then .tuple #[.int .i64 (num4 (d.getD 0 0) (d.getD 1 0) (d.getD 2 0) (d.getD 3 0)), .bool true] else .tuple #[.int .i64 0, .bool false]
theorem four_of {d : List UInt8} (h : d.length = 4) : ∃ a b c e, d = [a, b, c, e] := by
  match d, h with
  | [a, b, c, e], _ => exact ⟨a, b, c, e, rfl⟩
end Go.Proofs.YtgbmclgnbbhcbaaGreat

/- The contracts of record.made, MakeA. -/
namespace Go.Proofs.YtgbmclgnbbhcbaaGreat
open Go.RowKit
set_option linter.unusedVariables false

/-- no record -/
def rZ : Rc.RR := ⟨[], 0, 0, 0, []⟩
theorem undRR : ∃ fs, Tryz.prog.underlying 64 = some (.struct fs) := ⟨_, Tryz.underlying64⟩
theorem infoR5 : (Tryz.prog.info? 64).map (·.size) = some 5 := by kernel_rfl
theorem ret_rr {fn : Func} {p : Tmp} {a : Act} {W : World} {R : Ending → World → Prop} {r : Rc.RR} {g : Nat} (hr : fn.results = #[.cell p 64]) (hp : a.tmps.getD p undef = .pointer (some ⟨g, 0, none⟩)) (hd : a.defers = [])
    (hg : W.heap[g]? = some (.cells (rrC r) 64 (0, 0))) (h : R (.returned (rrV r)) W) : bodyPost Tryz.prog fn R Exit.ret a W := by
  obtain ⟨fs, hu⟩ := undRR
  exact bodyPost_ret (results_cell_row hr _ _ g _ _ (0, 0) _ hp hg hu rfl infoR5) hd h
def madeN (r : Rc.RR) : Rc.RR := if checkB r then r else rZ
end Go.Proofs.YtgbmclgnbbhcbaaGreat

/- The contract of record.MakeA. -/
namespace Go.Proofs.YtgbmclgnbbhcbaaGreat
open Go.RowKit
set_option linter.unusedVariables false

def makeAN (n : List UInt8) (ttl x : Int) : Rc.RR := if 0 ≤ x ∧ x ≤ 4294967295 then madeN ⟨n, 1, 1, ttl, four x⟩ else rZ
theorem one_rrC (r : Rc.RR) : (rrC r).all (·.oneCell') = true := by simp [rrC, Value.oneCell']
end Go.Proofs.YtgbmclgnbbhcbaaGreat

/- The contract of record.MakeName. -/
namespace Go.Proofs.YtgbmclgnbbhcbaaGreat
open Go.RowKit
set_option linter.unusedVariables false

def makeNN (n : List UInt8) (t ttl : Int) (to : List UInt8) : Rc.RR := if t = 2 ∨ t = 5 ∨ t = 12 then madeN ⟨n, t, 1, ttl, to⟩ else rZ
end Go.Proofs.YtgbmclgnbbhcbaaGreat

/- The contract of record.Target. -/
namespace Go.Proofs.YtgbmclgnbbhcbaaGreat
open Go.RowKit Go.Shelf Go.Sq
set_option linter.unusedVariables false

attribute [local go_sem] Oper.semAt_some

theorem results_boxes2 {fn : Func} {p q : Tmp} {t u : TypeId} (h : fn.results = #[.cell p t, .cell q u]) (tmps : Array Value) (w : World) (a b : Nat) (x y : Value) {T U : TypeId}
    (hp : tmps.getD p undef = .pointer (some ⟨a, 0, none⟩)) (hq : tmps.getD q undef = .pointer (some ⟨b, 0, none⟩)) (hx : Boxed w a T x) (hy : Boxed w b U y)
    (ht : ∀ w, (isAgg t).run Tryz.prog w = .ok false w) (hu : ∀ w, (isAgg u).run Tryz.prog w = .ok false w) : (results fn tmps).run Tryz.prog w = .ok (.tuple #[x, y]) w := by
  have hp' : tmps[p]?.getD undef = .pointer (some ⟨a, 0, none⟩) := by simpa using hp
  have hq' : tmps[q]?.getD undef = .pointer (some ⟨b, 0, none⟩) := by simpa using hq
  have hx' := hx.cell
  have hy' := hy.cell
  simp [results, h, hp', hq', asAddr, loadVar, load, Sem.run_bind, ht, hu, Result.andThen, go_sem]
  simp [Sem.run, hx', hy']

theorem boxed_put {W : World} {B D : Nat} {t : TypeId} {v : Value} (h : Boxed W B t v) (hne : B ≠ D) (o : Obj) : Boxed (W.putObj D o) B t v := (World.putObj_heap_other hne).trans h
/-- what a target is told as -/
def targP (ty : Int) (d : List UInt8) : List UInt8 × Bool := if ty = 6 then ([], false) else match (Rc.partsN ty d).getD [] with
  | [] => ([], false)
  | x :: _ => ((d.drop x.1).take x.2, true)
def targV (ty : Int) (d : List UInt8) : Value := .tuple #[.string (mk (targP ty d).1), .bool (targP ty d).2]
/-- until a name has come nothing is laid by -/
def TargI (wA : World) (N : Nat) (pre : List (Nat × Nat)) (W : World) : Prop := (Boxed W (N + 1) 9 (.string ⟨#[]⟩) ∧ Boxed W (N + 1 + 1) 4 (.bool false)) ∧ Below wA.heap.size wA W ∧ pre = []
/-- when one has come it is laid by -/
def TargX (wA : World) (N : Nat) (d : List UInt8) (c : Code) (pre : List (Nat × Nat)) (W : World) : Prop := (Boxed W (N + 1) 9 (.string (mk ((d.drop (pre.getD 0 (0, 0)).1).take (pre.getD 0 (0, 0)).2))) ∧ Boxed W (N + 1 + 1) 4 (.bool true)) ∧ Below wA.heap.size wA W ∧ c = .ret ∧ pre.length = 1
abbrev fr14 (rn rd : List UInt8) (t cl tl : Int) (N M : Nat) (x : Nat × Nat) : Act := { tmps := #[.agg #[.string (mk rn), .int .i64 t, .int .i64 cl, .int .i64 tl, .string (mk rd)], .pointer (some ⟨N, 0, none⟩), .pointer (some ⟨N + 1, 0, none⟩), .pointer (some ⟨N + 1 + 1, 0, none⟩), .int .i64 (x.1 : Int), .int .i64 (x.2 : Int),
  .pointer (some ⟨N, 1, none⟩), .int .i64 t, .bool false, .pointer (some ⟨N, 1, none⟩), .int .i64 t, .pointer (some ⟨N, 4, none⟩), .string (mk rd), .func (.func 74) #[] #[.pointer (some ⟨M + 1 + 1, 0, none⟩), .pointer (some ⟨M + 1 + 1 + 1, 0, none⟩)],
  .int .i64 (x.1 : Int), .int .i64 (x.2 : Int), undef, undef, undef, undef, undef, undef, undef], defers := [] }
theorem notAgg_s (w : World) : (isAgg 9).run Tryz.prog w = .ok false w := by simp [isAgg, go_sem]
theorem notAgg_b (w : World) : (isAgg 4).run Tryz.prog w = .ok false w := by simp [isAgg, go_sem]
set_option maxRecDepth 100000 in
set_option maxHeartbeats 4000000 in
theorem Target_any (r : Rc.RR) (w : World) (hr : RROk r) :
    Calls Tryz.prog 41 #[rrV r] w fun e w' => e = .returned (targV r.ty r.data) ∧ Below w.heap.size w w' := by
  obtain ⟨rn, t, cl, tl, rd⟩ := r
  obtain ⟨_, hs⟩ := hr
  simp only at hs
  simp only [rrV]
  have hH := World.alloc_heap_new w (.cells #[.string (mk rn), .int .i64 t, .int .i64 cl, .int .i64 tl, .string (mk rd)] 64)
  have hbA : Below w.heap.size w (w.alloc (.cells #[.string (mk rn), .int .i64 t, .int .i64 cl, .int .i64 tl, .string (mk rd)] 64)) := (Below.refl _ w).alloc (Nat.le_refl _) _
  have hsA : (w.alloc (.cells #[.string (mk rn), .int .i64 t, .int .i64 cl, .int .i64 tl, .string (mk rd)] 64)).heap.size = w.heap.size + 1 := World.size_alloc _ _
  have hg := cell_of_heap hH
  have g4 : (w.alloc (.cells #[.string (mk rn), .int .i64 t, .int .i64 cl, .int .i64 tl, .string (mk rd)] 64)).cell? ⟨w.heap.size, 4, none⟩ = some (.string (mk rd)) := hg 4
  clear hg
  by_cases ht : t = 6
  · subst ht
    have hv : Hid (targV 6 rd = .tuple #[.string ⟨#[]⟩, .bool false]) := Go.Lib.hid rfl
    have HH := Go.Lib.hid hH
    have HBA := Go.Lib.hid hbA
    have HSA := Go.Lib.hid hsA
    have G4 := Go.Lib.hid g4
    clear hH hbA hsA g4
    go_enter Tryz.func41, Tryz.ntmps41
    go_wp2_with fail
    have y1 := Boxed.new (w.alloc (.cells #[.string (mk rn), .int .i64 6, .int .i64 cl, .int .i64 tl, .string (mk rd)] 64)) 9 (.string ⟨#[]⟩)
    have y2 := Boxed.new ((w.alloc (.cells #[.string (mk rn), .int .i64 6, .int .i64 cl, .int .i64 tl, .string (mk rd)] 64)).alloc (.cells #[.string ⟨#[]⟩] 9)) 4 (.bool false)
    rw [World.size_alloc] at y1
    rw [World.size_alloc, World.size_alloc] at y2
    have x1 := y1.alloc (.cells #[.bool false] 4)
    refine bodyPost_ret (results_boxes2 rfl _ _ _ _ _ _ rfl rfl x1 y2 notAgg_s notAgg_b) rfl ⟨by rw [hv.out], ?_⟩
    exact (HBA.out.alloc (by simp) _).alloc (by simp; omega) _
  · have e1 : (t == 6) = false := beq_eq_false_iff_ne.2 ht
    have hnm := fun w => Names_any t (mk rd) w
    have hch := Go.Lib.hid (parts_chain t rd)
    have HNM := Go.Lib.hid hnm
    have HH := Go.Lib.hid hH
    have HBA := Go.Lib.hid hbA
    have HSA := Go.Lib.hid hsA
    have G4 := Go.Lib.hid g4
    clear hnm hH hbA hsA g4
    refine (callsIn_wide (n := 6)).1 ?_
    refine callsIn_of_wp_marks Tryz.func41 rfl trivial ?_ rfl
    simp only [Tryz.ntmps41, List.size_toArray, List.length_cons, List.length_nil, Nat.reduceAdd, Nat.reduceSub, Array.replicate_succ, Array.replicate_zero, List.push_toArray, List.append_toArray, List.nil_append, List.cons_append]
    gi_wp2_with fail
    refine ⟨trivial, (callsIn_wide.2 (HNM.out _)).mono ?_⟩
    rintro e w2 ⟨rfl, hw2⟩
    have hsz2 : w2.heap.size = w.heap.size + 5 := by rw [hw2]; simp
    generalize hwA : w.alloc (.cells #[.string (mk rn), .int .i64 t, .int .i64 cl, .int .i64 tl, .string (mk rd)] 64) = wA at *
    have hb2 : Below wA.heap.size wA w2 := by
      rw [hw2]
      exact (((((Below.refl _ wA).alloc (Nat.le_refl _) _).alloc (by simp) _).alloc (by simp; omega) _).alloc (by simp; omega) _)
    have x1 : Boxed w2 (w.heap.size + 1) 9 (.string ⟨#[]⟩) := by
      rw [hw2]
      have := Boxed.new wA 9 (.string ⟨#[]⟩)
      rw [HSA.out] at this
      exact ((this.alloc _).alloc _).alloc _
    have x2 : Boxed w2 (w.heap.size + 1 + 1) 4 (.bool false) := by
      rw [hw2]
      have := Boxed.new (wA.alloc (.cells #[.string ⟨#[]⟩] 9)) 4 (.bool false)
      rw [World.size_alloc, HSA.out] at this
      exact (this.alloc _).alloc _
    have x4 : Boxed w2 (wA.heap.size + 1 + 1) 3 (.int .i64 t) := by
      rw [hw2]
      have := Boxed.new ((wA.alloc (.cells #[.string ⟨#[]⟩] 9)).alloc (.cells #[.bool false] 4)) 3 (.int .i64 t)
      rw [World.size_alloc, World.size_alloc] at this
      exact this.alloc _
    have x5 : Boxed w2 (wA.heap.size + 1 + 1 + 1) 9 (.string (mk rd)) := by
      rw [hw2]
      have := Boxed.new (((wA.alloc (.cells #[.string ⟨#[]⟩] 9)).alloc (.cells #[.bool false] 4)).alloc (.cells #[.int .i64 t] 3)) 9 (.string (mk rd))
      rw [World.size_alloc, World.size_alloc, World.size_alloc] at this
      exact this
    have hseq := names_seq 5 (by omega) _ _ t (mk rd) (by rw [size_mk]; exact hs) w2 (by rw [hsz2, HSA.out]; omega) (by rw [hsz2, HSA.out]; omega) x4.cell x5.cell
    rw [bl_mk] at hseq
    have h0 : TargI wA w.heap.size [] w2 := ⟨⟨x1, x2⟩, hb2, rfl⟩
    have HSEQ := Go.Lib.hid hseq
    have H0 := Go.Lib.hid h0
    clear hseq h0
    clear x1 x2 x4 x5 hw2
    have HSZ2 := Go.Lib.hid hsz2
    have HB2 := Go.Lib.hid hb2
    clear hsz2 hb2
    gi_wp2_with fail
    refine wpIn_rangeFunc_ok rfl (by omega) (gf := 74) (lb := #[.pointer (some ⟨wA.heap.size + 1 + 1, 0, none⟩), .pointer (some ⟨wA.heap.size + 1 + 1 + 1, 0, none⟩)]) rfl trivial (enters_of Tryz.func74 (by kernel_rfl) rfl)
      HSEQ.out KpT.trans (fun W l o o' _ h1 h2 _ => KpT.put W l o o' h1 h2) (Below.refl _ _) (fun _ => rfl)
      (TargI wA w.heap.size) (TargX wA w.heap.size rd)
      (OwnFrom.and (OwnFrom.and (Own.from (boxed_own _ _ (fun _ => _)) _) (Own.from (boxed_own _ _ (fun _ => _)) _)) (OwnFrom.and (ownFrom_below (Nat.le_refl _) (by rw [HSZ2.out, HSA.out]; omega)) (ownFrom_pure _ _)))
      (fun c => OwnFrom.and (OwnFrom.and (Own.from (boxed_own _ _ (fun pre : List (Nat × Nat) => .string (mk ((rd.drop (pre.getD 0 (0, 0)).1).take (pre.getD 0 (0, 0)).2)))) _) (Own.from (boxed_own _ _ (fun _ => _)) _)) (OwnFrom.and (ownFrom_below (Nat.le_refl _) (by rw [HSZ2.out, HSA.out]; omega)) (ownFrom_pure _ _)))
      H0.out (fun x a' _ => a' = fr14 rn rd t cl tl w.heap.size wA.heap.size x) (fun _ _ _ _ _ _ hs _ _ => hs) ?assign ?body ?done ?stop
    case assign =>
      intro l pre x W K hi hok hK
      have HK := Go.Lib.hid hK
      have HI := Go.Lib.hid hi
      clear hK hi
      unfold encPair
      gi_wp2
      exact HK.out _ _ (KeepsFrom.refl _ _) (KpT.refl _) HI.out rfl
    case body =>
      rintro l pre x a' W ⟨⟨b1, b2⟩, hb, rfl⟩ hok rfl
      have hpr := hok
      rw [List.nil_append] at hok
      obtain ⟨m, hm⟩ := hok
      have hmem := Rc.chain_mem _ _ hch.out x (by rw [← hm]; simp)
      obtain ⟨xa, xn⟩ := x
      simp only at hmem
      obtain ⟨_, n2, n3⟩ := hmem
      have c4 : W.cell? ⟨w.heap.size, 4, none⟩ = some (.string (mk rd)) := (hb.cell (p := ⟨w.heap.size, 4, none⟩) (by rw [HSA.out]; exact Nat.lt_succ_self _)).trans G4.out
      have hx2 : (mk rd).extract xa (xa + xn) = mk ((rd.drop xa).take xn) := by
        apply bl_inj
        rw [bl_extract, bl_mk, bl_mk, show xa + xn - xa = xn by omega]
      have hsz : (mk rd).size = rd.length := size_mk _
      unfold maxLen at hs
      have w1 : IntKind.i64.wrap ((xa : Int) + (xn : Int)) = (xa : Int) + (xn : Int) := by rw [IntKind.wrap_i64]; omega
      have w2' : ((xa : Int) + (xn : Int)).toNat = xa + xn := by omega
      have i3 : (xa : Int) + (xn : Int) ≤ ((mk rd).size : Int) := by rw [hsz]; omega
      have i4 : (xa : Int) ≤ (xa : Int) + (xn : Int) := by omega
      have i5 : (0 : Int) ≤ (xa : Int) + (xn : Int) := by omega
      have i6 : xa + xn ≤ (mk rd).size := by rw [hsz]; omega
      generalize hpart : mk ((rd.drop xa).take xn) = part at *
      generalize mk rd = sd at *
      have HPART := Go.Lib.hid hpart
      clear hpart
      have k1 := b1.lt
      have k2 := b2.lt
      have f1 := b1.frozen
      have f2 := (b2.other (B' := w.heap.size + 1) (by omega) (.string part)).frozen
      have cc1 := b1.cell
      have cc2 := (b2.other (B' := w.heap.size + 1) (by omega) (.string part)).cell
      have k3 := (b2.other (B' := w.heap.size + 1) (by omega) (.string part)).lt
      have HB := Go.Lib.hid hb
      clear hb
      clear hsz
      gi_wp2_with fail
      have u1 := (b1.set (.string part)).other (B' := w.heap.size + 1 + 1) (by omega) (.bool true)
      have u2 := (b2.other (B' := w.heap.size + 1) (by omega) (.string part)).set (.bool true)
      refine ⟨((KeepsOthers.setCell _ _ _).from _).trans ((KeepsOthers.setCell _ _ _).from _), ⟨by show Boxed _ _ _ (.string (mk ((rd.drop xa).take xn))); rw [HPART.out]; exact u1, u2⟩, ?_, rfl, rfl⟩
      exact (HB.out.setCell (p := ⟨w.heap.size + 1, 0, none⟩) (by rw [HSA.out]; exact Nat.le_refl _) _).setCell (p := ⟨w.heap.size + 1 + 1, 0, none⟩) (by rw [HSA.out]; exact Nat.le_succ _) _
    case done =>
      rintro D ys W hD hys ⟨⟨b1, b2⟩, hb, rfl⟩ hK
      have hv : Hid (targV t rd = .tuple #[.string ⟨#[]⟩, .bool false]) := Go.Lib.hid (by unfold targV targP; rw [if_neg ht, ← hys]; rfl)
      have k1 := b1.lt
      have k2 := b2.lt
      have f1 := b1.frozen
      have f2 := (b2.other (B' := w.heap.size + 1) (by omega) (.string ⟨#[]⟩)).frozen
      have cc1 := b1.cell
      have cc2 := (b2.other (B' := w.heap.size + 1) (by omega) (.string ⟨#[]⟩)).cell
      have k3 := (b2.other (B' := w.heap.size + 1) (by omega) (.string ⟨#[]⟩)).lt
      have HB := Go.Lib.hid hb
      have HYS := Go.Lib.hid hys
      have HDD := Go.Lib.hid hD
      have HK := Go.Lib.hid hK
      clear hb hys hD hK
      gi_wp2_with fail
      have v1 := (b1.set (.string ⟨#[]⟩)).other (B' := w.heap.size + 1 + 1) (by omega) (.bool false)
      have v2 := (b2.other (B' := w.heap.size + 1) (by omega) (.string ⟨#[]⟩)).set (.bool false)
      have hD' := HDD.out
      rw [HSZ2.out] at hD'
      have hK' : ((W.setCell ⟨w.heap.size + 1, 0, none⟩ (.string ⟨#[]⟩)).setCell ⟨w.heap.size + 1 + 1, 0, none⟩ (.bool false)).heap[D]? = some (.deferred (some [])) :=
        (Below.heap_setCell _ ⟨w.heap.size + 1 + 1, 0, none⟩ _ _ (by show D ≠ w.heap.size + 1 + 1; omega)).trans ((Below.heap_setCell _ ⟨w.heap.size + 1, 0, none⟩ _ _ (by show D ≠ w.heap.size + 1; omega)).trans HK.out)
      have hbz := (HB.out.setCell (p := ⟨w.heap.size + 1, 0, none⟩) (by rw [HSA.out]; exact Nat.le_refl _) (.string ⟨#[]⟩)).setCell (p := ⟨w.heap.size + 1 + 1, 0, none⟩) (by rw [HSA.out]; exact Nat.le_succ _) (.bool false)
      generalize (W.setCell ⟨w.heap.size + 1, 0, none⟩ (.string ⟨#[]⟩)).setCell ⟨w.heap.size + 1 + 1, 0, none⟩ (.bool false) = Z at *
      refine ⟨by simp, .inl ⟨_, _, rfl, run_takeDeferred hK', ?_⟩⟩
      refine ⟨_, results_boxes2 rfl _ _ _ _ _ _ rfl rfl (boxed_put v1 (by omega) _) (boxed_put v2 (by omega) _) notAgg_s notAgg_b, ?_⟩
      exact ⟨by rw [hv.out], HBA.out.trans ((hbz.mono (by rw [HSA.out]; omega)).trans (belowK_b (w := w) (Nat.le_refl _) Z D _ _ (by omega) hK' rfl rfl))⟩
    case stop =>
      rintro D c pre W hD hpre ⟨⟨b1, b2⟩, hb, rfl, hl1⟩ hK
      have hv : Hid (targV t rd = .tuple #[.string (mk ((rd.drop (pre.getD 0 (0, 0)).1).take (pre.getD 0 (0, 0)).2)), .bool true]) := Go.Lib.hid (by
        obtain ⟨m, hm⟩ := hpre
        match pre, hl1, hm with
        | [x], _, hm => unfold targV targP; rw [if_neg ht, ← hm]; rfl)
      generalize mk ((rd.drop (pre.getD 0 (0, 0)).1).take (pre.getD 0 (0, 0)).2) = part at *
      have HB := Go.Lib.hid hb
      have HYS := Go.Lib.hid hpre
      have HDD := Go.Lib.hid hD
      have HK := Go.Lib.hid hK
      clear hb hpre hD hK
      gi_wp2_with fail
      have hD' := HDD.out
      rw [HSZ2.out] at hD'
      refine ⟨by simp, .inl ⟨_, _, rfl, run_takeDeferred HK.out, ?_⟩⟩
      refine ⟨_, results_boxes2 rfl _ _ _ _ _ _ rfl rfl (boxed_put b1 (by omega) _) (boxed_put b2 (by omega) _) notAgg_s notAgg_b, ?_⟩
      exact ⟨by rw [hv.out], HBA.out.trans ((HB.out.mono (by rw [HSA.out]; omega)).trans (belowK_b (w := w) (Nat.le_refl _) W D _ _ (by omega) HK.out rfl rfl))⟩
end Go.Proofs.YtgbmclgnbbhcbaaGreat

/- Slices of records in memory; slices.IndexFunc, ContainsFunc at records, for whatever closure has a contract. -/
namespace Go.Proofs.YtgbmclgnbbhcbaaGreat
open Go.RowKit Go.Shelf Go.Sq
set_option linter.unusedVariables false

def encR (l : List Rc.RR) : List Value := l.flatMap fun r => [.string (mk r.name), .int .i64 r.ty, .int .i64 r.cl, .int .i64 r.ttl, .string (mk r.data)]
theorem encR_snoc (l : List Rc.RR) (r : Rc.RR) : encR (l ++ [r]) = encR l ++ [.string (mk r.name), .int .i64 r.ty, .int .i64 r.cl, .int .i64 r.ttl, .string (mk r.data)] := by simp [encR]
theorem encR_length (l : List Rc.RR) : (encR l).length = l.length * 5 := by
  induction l with
  | nil => rfl
  | cons r l ih =>
    have : encR (r :: l) = [.string (mk r.name), .int .i64 r.ty, .int .i64 r.cl, .int .i64 r.ttl, .string (mk r.data)] ++ encR l := rfl
    rw [this, List.length_append, ih]
    simp
    omega
theorem one_rr (r : Rc.RR) : ∀ u ∈ [Value.string (mk r.name), .int .i64 r.ty, .int .i64 r.cl, .int .i64 r.ttl, .string (mk r.data)], u.oneCell' = true := by
  intro u hu
  simp at hu
  rcases hu with rfl | rfl | rfl | rfl | rfl <;> rfl
theorem one_rrs (l : List Rc.RR) : ∀ u ∈ encR l, u.oneCell' = true := by
  intro u hu
  obtain ⟨r, _, h⟩ := List.mem_flatMap.1 hu
  exact one_rr r u h
def RRs (w : World) (v : Value) (l : List Rc.RR) : Prop := SlC w 5 v l.length (encR l)
theorem RRs.below {B : Nat} {w w' : World} {v : Value} {l : List Rc.RR} (h : RRs w v l) (hb : Below B w w') (hB : w.heap.size ≤ B) : RRs w' v l := SlC.below h hb hB
/-- nought -/
def r0 : Rc.RR := ⟨[], 0, 0, 0, []⟩
theorem encR_get : ∀ (l : List Rc.RR) (j : Nat), j < l.length → (encR l)[j * 5]? = some (.string (mk (l.getD j r0).name)) ∧ (encR l)[j * 5 + 1]? = some (.int .i64 (l.getD j r0).ty) ∧ (encR l)[j * 5 + 2]? = some (.int .i64 (l.getD j r0).cl) ∧
    (encR l)[j * 5 + 3]? = some (.int .i64 (l.getD j r0).ttl) ∧ (encR l)[j * 5 + 4]? = some (.string (mk (l.getD j r0).data))
  | [], j, h => by simp at h
  | p :: l, 0, _ => ⟨rfl, rfl, rfl, rfl, rfl⟩
  | p :: l, j + 1, h => by
    have := encR_get l j (by simpa using h)
    have e : encR (p :: l) = [.string (mk p.name), .int .i64 p.ty, .int .i64 p.cl, .int .i64 p.ttl, .string (mk p.data)] ++ encR l := rfl
    have key : ∀ i, (encR (p :: l))[(j + 1) * 5 + i]? = (encR l)[j * 5 + i]? := fun i => by
      rw [e, List.getElem?_append_right (by simp; omega)]
      congr 1
      simp
      omega
    have k0 := key 0
    simp only [Nat.add_zero] at k0
    rw [k0, key 1, key 2, key 3, key 4]
    simpa using this
/-- the five cells of an element -/
def RRAt (w : World) (b off : Nat) (r : Rc.RR) : Prop := w.cell? ⟨b, off, none⟩ = some (.string (mk r.name)) ∧ w.cell? ⟨b, off + 1, none⟩ = some (.int .i64 r.ty) ∧ w.cell? ⟨b, off + 2, none⟩ = some (.int .i64 r.cl) ∧
  w.cell? ⟨b, off + 3, none⟩ = some (.int .i64 r.ttl) ∧ w.cell? ⟨b, off + 4, none⟩ = some (.string (mk r.data))
theorem RRs.at {w : World} {a : Option Addr} {m cap : Nat} {l : List Rc.RR} (h : RRs w (.slice a m cap) l) (hn : 0 < l.length) :
    ∃ b off, a = some ⟨b, off, none⟩ ∧ b < w.heap.size ∧ ∀ j, j < l.length → RRAt w b (off + j * 5) (l.getD j r0) := by
  obtain ⟨_, b, off, ha, hlt, h4⟩ := SlC.at h hn
  refine ⟨b, off, ha, hlt, fun j hj => ?_⟩
  obtain ⟨e0, e1, e2, e3, e4⟩ := encR_get l j hj
  refine ⟨by rw [h4 (j * 5) (by omega), e0], ?_, ?_, ?_, ?_⟩
  · rw [Nat.add_assoc, h4 (j * 5 + 1) (by omega), e1]
  · rw [Nat.add_assoc, h4 (j * 5 + 2) (by omega), e2]
  · rw [Nat.add_assoc, h4 (j * 5 + 3) (by omega), e3]
  · rw [Nat.add_assoc, h4 (j * 5 + 4) (by omega), e4]
theorem RRAt.below {B : Nat} {w w' : World} {b off : Nat} {r : Rc.RR} (h : RRAt w b off r) (hb : Below B w w') (hB : b < B) : RRAt w' b off r := by
  obtain ⟨h0, h1, h2, h3, h4⟩ := h
  exact ⟨(hb.cell (p := ⟨b, off, none⟩) hB).trans h0, (hb.cell (p := ⟨b, off + 1, none⟩) hB).trans h1, (hb.cell (p := ⟨b, off + 2, none⟩) hB).trans h2, (hb.cell (p := ⟨b, off + 3, none⟩) hB).trans h3, (hb.cell (p := ⟨b, off + 4, none⟩) hB).trans h4⟩

/-- the first that is meant; below 0: none -/
def idx {α : Type} (p : α → Bool) : List α → Int
  | [] => -1
  | x :: l => if p x then 0 else if idx p l < 0 then -1 else idx p l + 1
theorem idx_lt {α : Type} (p : α → Bool) : ∀ l : List α, idx p l < l.length ∧ -1 ≤ idx p l
  | [] => by simp [idx]
  | x :: l => by
    have := idx_lt p l
    simp only [idx, List.length_cons]
    split
    · omega
    · split <;> omega
theorem idx_drop {α : Type} (p : α → Bool) : ∀ (l : List α) (k : Nat), (∀ x ∈ l.take k, p x = false) → idx p l = if idx p (l.drop k) < 0 then -1 else idx p (l.drop k) + k
  | l, 0, _ => by
    have := idx_lt p l
    rw [List.drop_zero]
    split <;> omega
  | [], k + 1, _ => by simp [idx]
  | x :: l, k + 1, h => by
    have hx : p x = false := h x (by simp)
    have := idx_drop p l k (fun y hy => h y (by simp [hy]))
    simp only [idx, hx, List.drop_succ_cons, Bool.false_eq_true, if_false]
    have h2 := idx_lt p (l.drop k)
    rw [this]
    by_cases hneg : idx p (l.drop k) < 0
    · rw [if_pos hneg, if_pos hneg, if_pos (by omega)]
    · rw [if_neg hneg, if_neg hneg, if_neg (by omega)]
      omega
theorem idx_any {α : Type} (p : α → Bool) : ∀ l : List α, (0 ≤ idx p l ↔ l.any p = true)
  | [] => by simp [idx]
  | x :: l => by
    have ih := idx_any p l
    simp only [idx, List.any_cons]
    cases hx : p x with
    | true => simp
    | false =>
      simp only [Bool.false_eq_true, if_false, Bool.false_or]
      rw [← ih]
      split <;> omega


end Go.Proofs.YtgbmclgnbbhcbaaGreat

/- 'append' of one row to a slice of the call's own: where the new slice lies (where the old one lay, or in new memory). Conditions: the lengths' sum is within what Go's growslice bears. -/
namespace Go.Proofs.YtgbmclgnbbhcbaaGreat
open Go.RowKit

/-- where it lay, or in new memory -/
def SameOrNew (N : Nat) (v v' : Value) : Prop := v'.ownBlock = v.ownBlock ∨ ∃ g, v'.ownBlock = some g ∧ N ≤ g
theorem new_block {w : World} {base e sz n : Nat} {v : Value} {xs : List Value} (h : w.ownsRow base e sz v n xs) (hn : 0 < n) : ∃ g, v.ownBlock = some g ∧ base ≤ g := by
  rcases h.2 with ⟨rfl, h0⟩ | ⟨g, cap, cur, rfl, hb, _⟩
  · omega
  · exact ⟨g, rfl, hb⟩

theorem run_app2 {P : Program} {t e sz bytes : Nat} (ei : EI P t e sz bytes) (w : World) (ty base : Nat) {v : Value} {n m c : Nat} {a : Addr} {xs news : List Value} (hown : w.ownsRow base e sz v n xs)
    (hl : news.length = m * sz) (hc : ∀ j u, news[j]? = some u → w.cell? (a.add j) = some u) (h1 : ∀ u ∈ news, u.oneCell' = true) (hm : 0 < m) (h63 : n + m ≤ maxLen) (hbytes : (n + m) * bytes ≤ 140737488355328) (hbase : base ≤ w.heap.size) :
    ∃ v' w', (Builtin.append_ #[t, t] ty #[v, .slice (some a) m c]).run P w = .ok v' w' ∧ w'.ownsRow base e sz v' (n + m) (xs ++ news) ∧ w.grownBy w' v.ownBlock ∧ SameOrNew w.heap.size v v' := by
  obtain ⟨i, z, ht, hi, hz, hsz, hby, hzs, hpos⟩ := ei
  obtain ⟨v', w', hrun, ho, hg, _⟩ := run_append_own (P := P) w base t ty e i z sz bytes ht hi hz hsz hby hzs hpos v n xs hown a m c news hl hc h1 h63 hbytes hbase
  refine ⟨v', w', hrun, ho, hg, ?_⟩
  rcases hown.2 with ⟨rfl, rfl⟩ | ⟨g, cap, cur, rfl, hbg, hgh, hnc, hcm, hcs, htake⟩
  · have hx : xs = [] := List.eq_nil_of_length_eq_zero (by simpa using hown.1)
    subst hx
    obtain ⟨v2, w2, hrun2, ho2, _⟩ := run_append_own (P := P) w w.heap.size t ty e i z sz bytes ht hi hz hsz hby hzs hpos _ 0 [] (World.ownsRow_nil _ _ _ _) a m c news hl hc h1 h63 hbytes (Nat.le_refl _)
    have he := hrun.symm.trans hrun2
    simp only [Result.ok.injEq] at he
    obtain ⟨rfl, rfl⟩ := he
    obtain ⟨g, hg1, hg2⟩ := new_block ho2 (by omega)
    exact .inr ⟨g, hg1, hg2⟩
  · by_cases hroom : n + m ≤ cap
    · have hfit : n * i.size + news.length ≤ cur.size := by rw [hsz, hl, hcs, ← Nat.add_mul]; exact Nat.mul_le_mul_right _ hroom
      have hr := run_append_room (P := P) w t ty e i ht hi g n cap cur hgh a m c news (by rw [hsz]; exact hl) hc h1 hroom hfit
      have he := hrun.symm.trans hr
      simp only [Result.ok.injEq] at he
      obtain ⟨rfl, _⟩ := he
      exact .inl rfl
    · have holds : ∀ j u, xs[j]? = some u → w.cell? ((⟨g, 0, none⟩ : Addr).add j) = some u := hown.cells (g := g) rfl
      obtain ⟨v2, w2, hrun2, ho2, _⟩ := run_append_arg_grows (P := P) (w := w) t ty e i z sz bytes ht hi hz hsz hby hzs hpos ⟨g, 0, none⟩ n cap xs hown.1 holds a m c news hl hc (by omega) h63 hbytes
      have he := hrun.symm.trans hrun2
      simp only [Result.ok.injEq] at he
      obtain ⟨rfl, rfl⟩ := he
      obtain ⟨g2, hg1, hg2⟩ := new_block ho2 (by omega)
      exact .inr ⟨g2, hg1, hg2⟩

/-- one element, of a slice that was built just now, appended in a region whose order is open -/
theorem mixT_app1 {P : Program} {t e sz bytes : Nat} (ei : EI P t e sz bytes) {w : World} {ops : Array Oper} {rest : List Oper} {o : Oper} {a : Act} {Es : List Nat} {C : World → Prop} {Q : Act → World → Prop} {k tl : Nat} (s x : Operand)
    (hk : (Es.contains k && !(k == tl)) = true) (hgd : Region.wanted o (yielded ops a.tmps) = true)
    (ho : o.op = .call { callee := .builtin .append, args := #[s, x], argTypes := #[t, t] }) (base : Nat) {v : Value} {n c : Nat} {ad : Addr} {xs news : List Value} (hs : a.eval s = v) (hx : a.eval x = .slice (some ad) 1 c)
    (hown : w.ownsRow base e sz v n xs) (hl : news.length = sz) (hc : ∀ j u, news[j]? = some u → w.cell? (ad.add j) = some u) (h1 : ∀ u ∈ news, u.oneCell' = true) (h63 : n + 1 ≤ maxLen) (hbytes : (n + 1) * bytes ≤ 140737488355328) (hbase : base ≤ w.heap.size)
    (h : ∀ v' w', w'.ownsRow base e sz v' (n + 1) (xs ++ news) → w.grownBy w' v.ownBlock → SameOrNew w.heap.size v v' → C w' ∧ Go.Mix.MixT P ops (fun k => Es.contains k) C Q tl (k + 1) rest (a.put o.dst v') w') :
    Go.Mix.MixT P ops (fun k => Es.contains k) C Q tl k (o :: rest) a w :=
  Go.Mix.mixT_eff hk fun K hK => by
    rw [if_pos hgd]
    obtain ⟨v', w', hrun, ho1, hg1, hn1⟩ := run_app2 (c := c) ei w o.type base hown (by rw [Nat.one_mul]; exact hl) hc h1 (by omega) h63 hbytes hbase
    unfold Oper.wp execOp
    simp only [ho, resolve, invoke, builtin, Sem.run_bind, Sem.run_pure, Result.andThen_ok, List.map_toArray, List.map_cons, List.map_nil, hs, hx, hrun]
    exact hK _ _ (h v' w' ho1 hg1 hn1).1 (h v' w' ho1 hg1 hn1).2
end Go.Proofs.YtgbmclgnbbhcbaaGreat

/- No step of the machine takes a draw back: what has been drawn grows. So a call that leaves old memory alone ends in a world that is the old one with some draws more and new blocks behind. No conditions beside. -/
namespace Go.Drw
open Go Go.RowKit Go.Sort
set_option linter.unusedVariables false
set_option linter.unusedSimpArgs false

def rw' {α : Type} : Result α → World
  | .ok _ w => w
  | .halt _ w => w

theorem ask_drawn {α : Type} (a : Ask α) : ∀ w : World, w.drawn ≤ (w.ask a).2.drawn := by
  induction a with
  | done a => intro w; exact Nat.le_refl _
  | ask what range k ih =>
    intro w
    unfold World.ask
    simp only
    split
    · exact ih _ _
    · exact Nat.le_trans (Nat.le_succ _) (ih _ { w with drawn := w.drawn + 1 })

theorem sys_drawn (w : World) (c : Sys) : w.drawn ≤ (w.sys c).2.drawn := by
  have := ask_drawn (Kernel.perform c w.os) w
  unfold World.sys
  generalize w.ask (Kernel.perform c w.os) = x at *
  obtain ⟨⟨r, os⟩, w1⟩ := x
  cases r <;> first | exact this | exact Nat.le_refl _

theorem viewStore_drawn {p : Program} {w w' : World} {at_ : Addr} {u : TypeId} {k : Addr} {v : Value} {at2 : Bool} {l : List Addr} (h : w.viewStore p at_ u k v at2 = .ok (w', l)) : w'.drawn = w.drawn := by
  unfold World.viewStore at h
  simp only [bind, Except.bind, pure, Except.pure, throw, throwThe, MonadExceptOf.throw] at h
  repeat' split at h
  all_goals first | (cases h; done) | (cases h; rfl) | (simp at h; done) | (simp at h; obtain ⟨h, _⟩ := h; rw [← h])

theorem farStore_drawn {p : Program} {w w' : World} {a : Addr} {v : Value} {at2 : Bool} {l : List Addr} (h : w.farStore p a v at2 = .ok (w', l)) : w'.drawn = w.drawn := by
  unfold World.farStore at h
  split at h
  · split at h
    · rename_i h2
      cases h
      exact viewStore_drawn h2
    · cases h
  · cases h

theorem run_drawn {α : Type} (p : Program) (s : Sem α) : ∀ w : World, w.drawn ≤ (rw' (s.run p w)).drawn := by
  induction s with
  | pure a => intro w; exact Nat.le_refl _
  | load m a k ih =>
    intro w
    simp only [Sem.run]
    split
    · exact ih _ _
    · split
      · exact ih _ _
      · exact Nat.le_refl _
  | store m a v k ih =>
    intro w
    have key : w.drawn ≤ (rw' (match w.cell? a with
      | some _ => if w.frozen? a then Result.halt (.unsupported (.unsafePointer "a write to bytes that a string shares")) w else k.run p (w.setCell a v)
      | none => match w.farStore p a v (m == .atomic) with
        | .ok (w, _) => k.run p w
        | .error h => .halt h w)).drawn := by
      split
      · split
        · exact Nat.le_refl _
        · refine Nat.le_trans ?_ (ih _)
          unfold World.setCell
          split <;> exact Nat.le_refl _
      · split
        · rename_i h
          exact Nat.le_trans (Nat.le_of_eq (farStore_drawn h).symm) (ih _)
        · exact Nat.le_refl _
    cases v <;> simp only [Sem.run] <;> first | exact Nat.le_refl _ | exact key
  | new o k ih => intro w; exact ih _ { w with heap := w.heap.push o }
  | shape r k ih => intro w; exact ih _ _
  | freeze a n k ih =>
    intro w
    refine Nat.le_trans ?_ (ih _)
    unfold World.freeze
    split <;> exact Nat.le_refl _
  | frozen a k ih => intro w; exact ih _ _
  | getObj r k ih =>
    intro w
    simp only [Sem.run]
    split
    · exact Nat.le_refl _
    · exact ih _ _
    · exact Nat.le_refl _
  | setObj r o k ih =>
    intro w
    simp only [Sem.run]
    split
    · exact Nat.le_refl _
    · exact ih { w with heap := w.heap.setIfInBounds r o }
    · exact Nat.le_refl _
  | choose q k ih =>
    intro w
    simp only [Sem.run]
    split
    · exact ih _ _
    · exact Nat.le_trans (Nat.le_succ _) (ih _ { w with drawn := w.drawn + 1 })
  | sys c k ih => intro w; exact Nat.le_trans (sys_drawn w c) (ih _ _)
  | program k ih => intro w; exact ih _ _
  | mark m k ih => intro w; exact ih _
  | halt h => intro w; exact Nat.le_refl _

theorem run_ok {α : Type} {p : Program} {s : Sem α} {w w' : World} {v : α} (h : s.run p w = .ok v w') : w.drawn ≤ w'.drawn := by
  have := run_drawn p s w
  rw [h] at this
  exact this
theorem run_halt {α : Type} {p : Program} {s : Sem α} {w w' : World} {v : Halt} (h : s.run p w = .halt v w') : w.drawn ≤ w'.drawn := by
  have := run_drawn p s w
  rw [h] at this
  exact this
theorem runT_drawn {α : Type} (p : Program) (s : Sem α) (w : World) (es : Array Event) : w.drawn ≤ (rw' (s.runT p w es).1).drawn := by
  rw [Sem.runT_fst]
  exact run_drawn p s w
theorem runT_ok {α : Type} {p : Program} {s : Sem α} {w w' : World} {es es' : Array Event} {v : α} (h : s.runT p w es = (.ok v w', es')) : w.drawn ≤ w'.drawn := by
  have := runT_drawn p s w es
  rw [h] at this
  exact this
theorem runT_halt {α : Type} {p : Program} {s : Sem α} {w w' : World} {es es' : Array Event} {v : Halt} (h : s.runT p w es = (.halt v w', es')) : w.drawn ≤ w'.drawn := by
  have := runT_drawn p s w es
  rw [h] at this
  exact this

/-- a step's world -/
def gw : GStep → World
  | .go _ w _ => w
  | .comm _ _ _ _ w _ => w
  | .spawn _ _ w _ => w
  | .count _ w _ => w
  | .timer _ _ w _ => w
  | .alone _ _ w _ => w
  | .newcoro _ _ _ w _ => w
  | .coroswitch _ _ _ w _ => w
  | .collect _ w _ => w
  | .watch _ w _ => w
  | .ended _ w _ => w
theorem gw_after (es : Array Event) (s : GStep) : gw (s.after es) = gw s := by cases s <;> rfl

theorem endWith_drawn (w : World) (fd : Nat) (text : ByteArray) (o : Outcome) : w.drawn ≤ (gw (endWith w fd text o)).drawn := by
  have := sys_drawn w (.write fd text)
  unfold endWith
  simp only
  split
  · rename_i h
    rw [h] at this
    split <;> exact this
  · rename_i h
    rw [h] at this
    exact this
  · rename_i h
    rw [h] at this
    exact this
theorem endThrow_drawn (fr : Frame) (m : String) (w : World) : gw (endThrow fr m w) = w := rfl
theorem endPrinting_drawn (p : Program) (fr : Frame) (v : Value) (w : World) : gw (endPrinting p fr v w) = w := by
  unfold endPrinting
  simp only
  split <;> rfl
theorem endFatal_drawn (p : Program) (fr : Frame) (callers : List Frame) (dying : Option Dying) (m : String) (w : World) : w.drawn ≤ (gw (endFatal p fr callers dying m w)).drawn := by
  unfold endFatal
  simp only
  split
  · exact run_ok (by assumption)
  · exact run_halt (by assumption)
  · exact run_halt (by assumption)
theorem writeOn_drawn (p : Program) (fr : Frame) (d : Dying) (f : Fatal) (w : World) : w.drawn ≤ (gw (writeOn p fr d f w)).drawn := by
  unfold writeOn
  simp only
  split
  · exact Nat.le_refl _
  · split
    · exact runT_ok (by assumption)
    · exact runT_halt (by assumption)
    · exact runT_halt (by assumption)
    · exact runT_halt (by assumption)
theorem early_drawn (p : Program) (fr : Frame) (callers : List Frame) (dying : Option Dying) (g : Nat) (w : World) : w.drawn ≤ (gw (early p fr callers dying g w)).drawn := by
  unfold early
  simp only
  repeat' split
  all_goals first | exact Nat.le_refl _ | (have h := run_ok ‹Sem.run _ _ _ = Result.ok _ _›; exact h) | (have h := run_halt ‹Sem.run _ _ _ = Result.halt _ _›; exact h)
theorem die_drawn (p : Program) (fr : Frame) (d : Dying) (w : World) : w.drawn ≤ (gw (die p fr d w)).drawn := by
  unfold die
  split
  · exact writeOn_drawn p fr d _ w
  · split
    · split
      · exact Nat.le_refl _
      · exact endWith_drawn _ _ _ _
    · simp only
      split
      · exact Nat.le_refl _
      · split
        · exact run_ok (by assumption)
        · exact run_halt (by assumption)
      · rw [gw_after]
        have := runT_drawn p (invoke (.fn (.method ‹_›) #[]) #[.iface ‹_› ‹_›]) w #[]
        split
        · rename_i h; rw [h] at this; exact this
        · rename_i h; rw [h] at this; exact this
        · rename_i h; rw [h] at this; exact this
        · rename_i h; rw [h] at this; rw [endPrinting_drawn]; exact this
        · exact Nat.le_refl _
      · exact Nat.le_refl _
theorem doReturn_drawn (p : Program) (main : Bool) (fr : Frame) (callers : List Frame) (dying : Option Dying) (v : Value) (w : World) : gw (doReturn p main fr callers dying v w) = w := by
  unfold doReturn
  repeat' split
  all_goals rfl
theorem ite_gw {c : Prop} [Decidable c] {n : Nat} {a b : GStep} (h1 : n ≤ (gw a).drawn) (h2 : n ≤ (gw b).drawn) : n ≤ (gw (if c then a else b)).drawn := by
  split
  · exact h1
  · exact h2
theorem callDeferred_drawn (p : Program) (fr : Frame) (callers : List Frame) (dying : Option Dying) (d : Deferred) (w : World) : w.drawn ≤ (gw (callDeferred p fr callers dying d w)).drawn := by
  unfold callDeferred
  refine ite_gw ?_ ?_
  · exact Nat.le_refl _
  · have := runT_drawn p (invoke d.target d.args) w #[]
    generalize (invoke d.target d.args).runT p w #[] = x at *
    obtain ⟨r, es⟩ := x
    simp only [gw_after]
    simp only at this
    split
    all_goals first
      | exact this
      | (split <;> exact this)
      | exact Nat.le_trans this (endFatal_drawn _ _ _ _ _ _)
theorem unwind_drawn (p : Program) (main : Bool) (fr : Frame) (callers : List Frame) (dying : Option Dying) (w : World) : w.drawn ≤ (gw (unwind p main fr callers dying w)).drawn := by
  unfold unwind
  split
  · simp only [gw_after]
    have := runT_drawn p (Instr.takeDeferred ‹_›) w #[]
    split
    · rename_i h; rw [h] at this; exact this
    · rename_i h; rw [h] at this; exact this
  · exact callDeferred_drawn _ _ _ _ _ _
  · split
    · exact Nat.le_refl _
    · split
      · exact Nat.le_refl _
      · split
        · exact Nat.le_refl _
        · split
          · split
            · exact Nat.le_refl _
            · split
              · exact run_ok (by assumption)
              · exact run_halt (by assumption)
              · exact run_halt (by assumption)
          · split
            · rw [endPrinting_drawn]; exact Nat.le_refl _
            · exact Nat.le_refl _
    · split
      · rw [doReturn_drawn]; exact Nat.le_refl _
      · simp only [gw_after]
        rename_i fn _
        have := runT_drawn p (results fn fr.tmps) w #[]
        split
        · rename_i h; rw [h] at this; rw [doReturn_drawn]; exact this
        · rename_i h; rw [h] at this; exact this
        · rename_i h; rw [h] at this; exact this
theorem apply_drawn (p : Program) (listen : Bool) (fr : Frame) (callers : List Frame) (dying : Option Dying) (s : Sem Next) (w : World) : w.drawn ≤ (gw (stepG.apply p listen fr callers dying s w)).drawn := by
  unfold stepG.apply
  have h0 : w.drawn ≤ (rw' (if listen then s.runT p w #[] else (s.run p w, #[])).1).drawn := by
    split
    · exact runT_drawn _ _ _ _
    · exact run_drawn _ _ _
  generalize (if listen then s.runT p w #[] else (s.run p w, #[])) = x at *
  obtain ⟨r, es⟩ := x
  simp only [gw_after]
  simp only at h0
  split
  all_goals first
    | exact h0
    | exact ite_gw h0 h0
    | (split <;> exact h0)
    | exact Nat.le_trans h0 (endFatal_drawn _ _ _ _ _ _)
    | exact Nat.le_trans h0 (early_drawn _ _ _ _ _ _)
theorem exec_drawn (p : Program) (main listen : Bool) (fr : Frame) (callers : List Frame) (dying : Option Dying) (w : World) : w.drawn ≤ (gw (stepG.exec p main listen fr callers dying w)).drawn := by
  have hleave : ∀ jump : Option Code, w.drawn ≤ (gw (match fr.roundOf with
      | none => if jump matches none | some .ret then GStep.go { frame := { fr with mode := .returning }, callers, status := .running, dying } w else .ended (.stuck "exit, goto: no such block or label" (fr.pos p)) w
      | some l =>
        let (r, es) := (Instr.endRound l jump).runT p w #[]
        GStep.after (seen p fr.fn es) <| match r with
        | .ok v w => doReturn p main fr callers dying v w
        | .halt _ w => .ended (.stuck "range over a function: no such loop" (fr.pos p)) w)).drawn := by
    intro jump
    split
    · split <;> exact Nat.le_refl _
    · rename_i l _
      simp only [gw_after]
      have := runT_drawn p (Instr.endRound l jump) w #[]
      split
      · rename_i h; rw [h] at this; rw [doReturn_drawn]; exact this
      · rename_i h; rw [h] at this; exact this
  unfold stepG.exec
  simp only
  split
  · exact hleave none
  · exact hleave (some .ret)
  all_goals first
    | exact Nat.le_refl _
    | exact apply_drawn _ _ _ _ _ _ _
    | (split <;> exact Nat.le_refl _)
    | skip
  · rename_i id k _
    cases exitTo id k with
    | none => exact hleave (some (.exit id))
    | some k => exact Nat.le_refl _
  · rename_i l k _
    cases gotoIn l k with
    | none => exact hleave (some (.goto l))
    | some k => exact Nat.le_refl _
  · simp only [gw_after]
    rename_i f params assign body k _
    have := runT_drawn p (Instr.enterLoop fr.fn fr.tmps params assign body fr.roundOf) w #[]
    split
    · rename_i h; rw [h] at this; exact Nat.le_trans this (apply_drawn _ _ _ _ _ _ _)
    · rename_i h; rw [h] at this; exact this
  · simp only [gw_after]
    rename_i l k _
    have := runT_drawn p (Instr.endLoop l) w #[]
    split
    · rename_i h; rw [h] at this; exact this
    · rename_i h; rw [h] at this; exact this
    · rename_i h; rw [h] at this; exact this
  · cases Extern.next _ with
    | none => exact Nat.le_refl _
    | some e => exact apply_drawn _ _ _ _ _ _ _
  · split
    · exact Nat.le_refl _
    · split
      · exact run_ok (by assumption)
      · exact run_halt (by assumption)
  · split
    · unfold stepG.oper
      split
      · exact Nat.le_refl _
      · split
        · exact apply_drawn _ _ _ _ _ _ _
        · exact apply_drawn _ _ _ _ _ _ _
    · exact Nat.le_refl _
theorem stepG_drawn (p : Program) (main : Bool) (g : Goroutine) (w : World) (listen : Bool) : w.drawn ≤ (gw (stepG p main g w listen)).drawn := by
  unfold stepG
  simp only
  split
  · exact die_drawn _ _ _ _
  · exact exec_drawn _ _ _ _ _ _ _
  · exact unwind_drawn _ _ _ _ _ _

/-- a machine's step that goes on -/
def Nx (w : World) : Stepped → Prop
  | .next m => w.drawn ≤ m.world.drawn
  | .ended _ _ => True
theorem Nx.trans {a b : World} {s : Stepped} (h : a.drawn ≤ b.drawn) (k : Nx b s) : Nx a s := by
  cases s with
  | next m => exact Nat.le_trans h k
  | ended o w => trivial
theorem Nx_ite {c : Prop} [Decidable c] {w : World} {a b : Stepped} (h1 : Nx w a) (h2 : Nx w b) : Nx w (if c then a else b) := by
  split
  · exact h1
  · exact h2
theorem waitingAt_drawn {rest : Rest} {cases_ : Array CommCase} {w w' : World} (h : waitingAt rest cases_ w = some w') : w'.drawn = w.drawn := by
  unfold waitingAt at h
  split at h
  · split at h
    · cases h; rfl
    · cases h
  · cases h; rfl
theorem communicate_drawn (p : Program) (rest : Rest) (gs : Array Goroutine) (i : Nat) (g : Goroutine) (cs : Array CommCase) (blocking : Bool) (shape : CommShape) (w : World) : Nx w (communicate p rest gs i g cs blocking shape w).1 := by
  unfold communicate
  simp only
  split
  · trivial
  · split
    · split
      · split
        · rename_i h; exact Nat.le_of_eq (waitingAt_drawn h).symm
        · trivial
      · exact Nat.le_refl _
    · split
      · trivial
      · rename_i hr
        have h0 := run_ok hr
        split
        · split
          · rename_i h; have h2 := run_halt h; exact Nat.le_trans h0 h2
          · trivial
        · exact h0
        · exact h0
        · split
          · exact h0
          · split
            · rename_i h; have h2 := run_ok h; exact Nat.le_trans h0 h2
            · trivial
        · exact h0
        · exact h0
        · trivial
theorem look_drawn (p : Program) (gs : Array Goroutine) (rest : Rest) (w : World) : Nx w (look p gs rest w) := by
  unfold look
  simp only
  split
  · split
    · trivial
    · split
      · trivial
      · split
        · rename_i h; have h2 := run_ok h; exact h2
        · trivial
        · trivial
  · trivial
theorem retime_drawn (m : Machine) (k : Nat) (t : Timer) (when period : Nat) : (retime m k t when period).2.world.drawn = m.world.drawn := by
  unfold retime drain
  simp only
  repeat' split
  all_goals rfl
theorem timerOp_drawn {m m' : Machine} {op : TimerOp} {v : Value} (h : timerOp m op = .ok (v, m')) : m'.world.drawn = m.world.drawn := by
  unfold timerOp at h
  split at h
  · split at h
    · cases h; rfl
    · split at h
      · split at h
        · cases h
        · cases h; rfl
      · cases h
  · unfold timerOp.named at h
    split at h
    · cases h
      exact retime_drawn _ _ _ _ _
    · cases h
  · split at h
    · rename_i m2 hm2
      have e2 : m2.world.drawn = m.world.drawn := by
        unfold timerOp.opened at hm2
        split at hm2
        · split at hm2
          · cases hm2; rfl
          · cases hm2
        · cases hm2; rfl
      unfold timerOp.named at h
      split at h
      · cases h
        exact (retime_drawn _ _ _ _ _).trans e2
      · cases h
    · cases h
  · cases h; rfl
theorem serve_drawn (p : Program) (m : Machine) (k : Nat) : Nx m.world (serve p m k) := by
  unfold serve
  split
  · trivial
  · exact Nat.le_refl _
  · simp only
    split
    · trivial
    · exact Nat.le_refl _
theorem runT_step (p : Program) (m : Machine) (i : Nat) (listen : Bool) : Nx m.world (runT p m i listen).1 := by
  unfold runT
  simp only
  have hg := stepG_drawn p (i == 0) (m.gs.swapAt! i { (default : Goroutine) with status := .finished }).1 m.world listen
  generalize stepG p (i == 0) (m.gs.swapAt! i { (default : Goroutine) with status := .finished }).1 m.world listen = s at *
  split
  · trivial
  · exact Nx.trans hg (communicate_drawn _ _ _ _ _ _ _ _ _)
  · exact hg
  · exact hg
  · refine Nx.trans hg (Nx_ite trivial (Nat.le_refl _))
  · exact hg
  · exact Nx.trans hg (look_drawn _ _ _ _)
  · exact hg
  · exact hg
  · split
    · exact hg
    · split
      · rename_i h
        have e := congrArg gw h
        rw [endThrow_drawn] at e
        exact Nat.le_trans hg (Nat.le_of_eq (congrArg World.drawn e))
      · trivial
    · trivial
  · split
    · rename_i h
      exact Nat.le_trans hg (Nat.le_of_eq (timerOp_drawn h).symm)
    · split
      · rename_i h
        have e := congrArg gw h
        rw [endThrow_drawn] at e
        exact Nat.le_trans hg (Nat.le_of_eq (congrArg World.drawn e))
      · trivial
    · trivial
    · trivial
/-- what the machine does next -/
def Mv (w : World) : Move → Prop
  | .goroutine m _ => w.drawn ≤ m.world.drawn
  | .machine s _ => Nx w s
theorem Mv.trans {a b : World} {s : Move} (h : a.drawn ≤ b.drawn) (k : Mv b s) : Mv a s := by
  cases s with
  | goroutine m i => exact Nat.le_trans h k
  | machine s o => exact Nx.trans h k
theorem Mv_ite {c : Prop} [Decidable c] {w : World} {a b : Move} (h1 : Mv w a) (h2 : Mv w b) : Mv w (if c then a else b) := by
  split
  · exact h1
  · exact h2
theorem askOn_drawn (p : Program) (m : Machine) : Mv m.world (askOn p m) := by
  have hpick : ∀ m2 : Machine, m.world.drawn ≤ m2.world.drawn → Mv m.world (match (choose (.sched (runnable m.gs m.world.os.mono).length)).run p m2.world with
      | .halt _ w => .machine (.ended (.stuck "sched" "") w)
      | .ok k world =>
        if (runnable m.gs m.world.os.mono).length ≤ 1 then .goroutine { m2 with world } ((runnable m.gs m.world.os.mono).getD k 0) else
        match (choose (.extern "sched.slice" 65536)).run p world with
        | .halt _ w => .machine (.ended (.stuck "sched.slice" "") w)
        | .ok n world => .goroutine { m2 with world, rest := { m2.rest with slice := if n = 0 then none else some ((runnable m.gs m.world.os.mono).getD k 0, n) } } ((runnable m.gs m.world.os.mono).getD k 0)) := by
    intro m2 h2
    split
    · trivial
    · rename_i h
      have e1 := run_ok h
      refine Mv_ite (Nat.le_trans h2 e1) ?_
      split
      · trivial
      · rename_i h3
        have e2 := run_ok h3
        exact Nat.le_trans h2 (Nat.le_trans e1 e2)
  unfold askOn
  simp only
  split
  · trivial
  · rename_i k w1 h
    have e1 := run_ok h
    refine Mv_ite ?_ ?_
    · exact Nx.trans e1 (serve_drawn p { m with world := w1 } _)
    · split
      · split
        · exact e1
        · refine Mv_ite e1 ?_
          split
          · trivial
          · trivial
      · split
        · exact hpick { m with world := w1 } e1
        · split
          · trivial
          · rename_i w2 h2
            exact hpick { m with world := w2 } (Nat.le_trans e1 (run_ok h2))
          · rename_i w2 h2
            have e3 := Nat.le_trans e1 (run_ok h2)
            exact e3
          · rename_i k2 w2 h2
            have e3 : m.world.drawn ≤ w2.drawn := Nat.le_trans e1 (run_ok h2)
            exact hpick (Machine.advanceTo { m with world := w2 } _) e3
theorem ask_move (p : Program) (m : Machine) : Mv m.world (ask p m) := by
  unfold ask
  split
  · split
    · trivial
    · rename_i w1 h
      have e1 := run_ok h
      have e2 := look_drawn p m.gs m.rest w1
      split
      · rename_i m2 h2
        rw [h2] at e2
        exact Mv.trans (Nat.le_trans e1 e2) (askOn_drawn p m2)
      · exact Nx.trans e1 e2
    · rename_i h
      have e1 := run_ok h
      exact Mv.trans e1 (askOn_drawn p _)
  · exact askOn_drawn p m
theorem move_drawn (p : Program) (m : Machine) : Mv m.world (move p m) := by
  unfold move
  split
  · exact Mv_ite (Nat.le_refl _) trivial
  · split
    · exact Mv_ite (Nat.le_refl _) (Mv.trans (Nat.le_refl _) (ask_move p _))
    · exact ask_move p m
theorem step_drawn {p : Program} {m m' : Machine} (h : step p m = .next m') : m.world.drawn ≤ m'.world.drawn := by
  have hm := move_drawn p m
  unfold step stepT at h
  split at h
  · rename_i m2 i h2
    rw [h2] at hm
    have hr := runT_step p m2 i true
    rw [h] at hr
    exact Nat.le_trans hm hr
  · rename_i s o h2
    rw [h2] at hm
    simp only at h
    rw [h] at hm
    exact hm
theorem runN_drawn {p : Program} : ∀ (n : Nat) {m m' : Machine}, runN p n m = .next m' → m.world.drawn ≤ m'.world.drawn
  | 0, m, m', h => by
    simp only [runN, Stepped.next.injEq] at h
    rw [h]
    exact Nat.le_refl _
  | n + 1, m, m', h => by
    simp only [runN] at h
    split at h
    · rename_i m2 h2
      exact Nat.le_trans (step_drawn h2) (runN_drawn n h)
    · rename_i h2
      cases hs : step p m with
      | next m2 => exact absurd hs (h2 m2)
      | ended o w => rw [hs] at h; cases h
theorem steps_drawn {p : Program} {m m' : Machine} (h : Steps p m m') : m.world.drawn ≤ m'.world.drawn := by
  obtain ⟨n, hn⟩ := h
  exact runN_drawn n hn
/-- what a call's contract says may be said with its draws -/
theorem calls_drawn {P : Program} {f : FuncId} {args : Array Value} {w : World} {R : Ending → World → Prop} (h : Calls P f args w R) : Calls P f args w fun e w' => R e w' ∧ ((∃ v, e = .returned v) → w.drawn ≤ w'.drawn) := by
  intro cs
  obtain ⟨e, w', fr, hR, hc, hf, hl⟩ := h cs
  refine ⟨e, w', fr, ⟨hR, ?_⟩, hc, hf, hl⟩
  rintro ⟨v, rfl⟩
  exact steps_drawn (p := P) hc
theorem grow_of {w w' : World} (h : Below w.heap.size w w') (hd : w.drawn ≤ w'.drawn) : ∃ q os, w' = grow (w.drewN q) os := by
  refine ⟨w'.drawn - w.drawn, w'.heap.extract w.heap.size w'.heap.size, ?_⟩
  obtain ⟨h1, h2, h3, h4, h5⟩ := h
  have hheap : w'.heap = w.heap ++ w'.heap.extract w.heap.size w'.heap.size := by
    apply Array.ext_getElem?
    intro i
    by_cases hi : i < w.heap.size
    · rw [Array.getElem?_append_left hi]
      exact h5 i hi
    · rw [Array.getElem?_append_right (by omega), Array.getElem?_extract]
      split
      · rw [show w.heap.size + (i - w.heap.size) = i by omega]
      · rw [Array.getElem?_eq_none (by omega)]
  obtain ⟨heap, tape, drawn, os, output⟩ := w'
  simp only at h1 h2 h3 hd hheap
  subst h1 h2 h3
  unfold grow World.drewN
  simp only [World.mk.injEq, and_true, true_and]
  exact ⟨hheap, by omega⟩
/-- a contract that leaves old memory alone, in the form that the sort asks for -/
theorem calls_grow {P : Program} {f : FuncId} {args : Array Value} {w : World} {v : Value} (h : Calls P f args w fun e w' => e = .returned v ∧ Below w.heap.size w w') : Calls P f args w fun e w' => e = .returned v ∧ ∃ q os, w' = grow (w.drewN q) os :=
  (calls_drawn h).mono fun e w' ⟨⟨he, hb⟩, hd⟩ => ⟨he, grow_of hb (hd ⟨v, he⟩)⟩
end Go.Drw

/- Pick: lists in order, each element once: there is just one of the same elements; sorted and compacted, and put together one by one, come to it. Lists alone. -/
namespace Go.Proofs.YtgbmclgnbbhcbaaGreat
open Go.Lib Go.Sort
set_option linter.unusedVariables false
set_option linter.unusedSectionVars false

/-- an order, total on those of P -/
structure Od {α : Type} (lt : α → α → Bool) (P : α → Prop) : Prop where
  irr : ∀ x, P x → lt x x = false
  tr : ∀ x y z, P x → P y → P z → lt x y = true → lt y z = true → lt x z = true
  tot : ∀ x y, P x → P y → lt x y = false → lt y x = false → x = y
variable {α : Type} {lt : α → α → Bool} {P : α → Prop}
/-- rising -/
def Asc (lt : α → α → Bool) (l : List α) : Prop := l.Pairwise fun a b => lt a b = true
theorem asc_uniq (O : Od lt P) : ∀ (l m : List α), Asc lt l → Asc lt m → (∀ x ∈ l, P x) → (∀ x ∈ m, P x) → (∀ x, x ∈ l ↔ x ∈ m) → l = m
  | [], [], _, _, _, _, _ => rfl
  | [], b :: m, _, _, _, _, h => by have := (h b).2 (List.mem_cons_self ..); cases this
  | a :: l, [], _, _, _, _, h => by have := (h a).1 (List.mem_cons_self ..); cases this
  | a :: l, b :: m, hl, hm, pl, pm, h => by
    obtain ⟨l1, l2⟩ := List.pairwise_cons.1 hl
    obtain ⟨m1, m2⟩ := List.pairwise_cons.1 hm
    have pa := pl a (List.mem_cons_self ..)
    have pb := pm b (List.mem_cons_self ..)
    have hab : a = b := by
      rcases List.mem_cons.1 ((h a).1 (List.mem_cons_self ..)) with e | e
      · exact e
      · rcases List.mem_cons.1 ((h b).2 (List.mem_cons_self ..)) with e2 | e2
        · exact e2.symm
        · have h1 := m1 a e
          have h2 := l1 b e2
          have := O.tr _ _ _ pb pa pb h1 h2
          rw [O.irr b pb] at this
          cases this
    subst hab
    have : l = m := asc_uniq O l m l2 m2 (fun x hx => pl x (List.mem_cons_of_mem _ hx)) (fun x hx => pm x (List.mem_cons_of_mem _ hx)) fun x => by
      constructor
      · intro hx
        rcases List.mem_cons.1 ((h x).1 (List.mem_cons_of_mem _ hx)) with e | e
        · subst e
          have := l1 x hx
          rw [O.irr x pa] at this
          cases this
        · exact e
      · intro hx
        rcases List.mem_cons.1 ((h x).2 (List.mem_cons_of_mem _ hx)) with e | e
        · subst e
          have := m1 x hx
          rw [O.irr x pa] at this
          cases this
        · exact e
    rw [this]
/-- put in its place, once -/
def insL [DecidableEq α] (lt : α → α → Bool) (x : α) : List α → List α
  | [] => [x]
  | y :: l => if lt y x then y :: insL lt x l else if y = x then y :: l else x :: y :: l
theorem insL_mem [DecidableEq α] (x : α) : ∀ (l : List α) (y : α), y ∈ insL lt x l ↔ y = x ∨ y ∈ l
  | [], y => by simp [insL]
  | z :: l, y => by
    unfold insL
    split
    · rw [List.mem_cons, insL_mem x l y, List.mem_cons]
      constructor
      · rintro (h | h | h)
        · exact .inr (.inl h)
        · exact .inl h
        · exact .inr (.inr h)
      · rintro (h | h | h)
        · exact .inr (.inl h)
        · exact .inl h
        · exact .inr (.inr h)
    · split
      · rename_i h
        subst h
        constructor
        · exact .inr
        · rintro (h | h)
          · rw [h]; exact List.mem_cons_self ..
          · exact h
      · exact List.mem_cons
theorem insL_asc [DecidableEq α] (O : Od lt P) (x : α) (px : P x) : ∀ (l : List α), Asc lt l → (∀ y ∈ l, P y) → Asc lt (insL lt x l)
  | [], _, _ => List.pairwise_singleton ..
  | z :: l, h, hp => by
    obtain ⟨h1, h2⟩ := List.pairwise_cons.1 h
    have pz := hp z (List.mem_cons_self ..)
    unfold insL
    split
    · rename_i hz
      refine List.pairwise_cons.2 ⟨fun y hy => ?_, insL_asc O x px l h2 fun y hy => hp y (List.mem_cons_of_mem _ hy)⟩
      rcases (insL_mem x l y).1 hy with rfl | hy
      · exact hz
      · exact h1 y hy
    · split
      · exact h
      · rename_i hz hne
        have hzx : lt x z = true := by
          cases hx : lt x z with
          | true => rfl
          | false => exact absurd (O.tot z x pz px (by simpa using hz) hx) hne
        refine List.pairwise_cons.2 ⟨fun y hy => ?_, h⟩
        rcases List.mem_cons.1 hy with rfl | hy
        · exact hzx
        · exact O.tr _ _ _ px pz (hp y (List.mem_cons_of_mem _ hy)) hzx (h1 y hy)
/-- the place: how many are ahead -/
def posL (lt : α → α → Bool) (x : α) : List α → Nat
  | [] => 0
  | y :: l => if lt y x then posL lt x l + 1 else 0
theorem insL_pos [DecidableEq α] (x : α) : ∀ (l : List α), insL lt x l = if l[posL lt x l]? = some x then l else l.take (posL lt x l) ++ x :: l.drop (posL lt x l)
  | [] => by simp [insL, posL]
  | y :: l => by
    unfold insL posL
    by_cases h : lt y x = true
    · rw [if_pos h, if_pos h, insL_pos x l]
      simp only [List.getElem?_cons_succ, List.take_succ_cons, List.drop_succ_cons]
      split <;> simp
    · rw [if_neg h, if_neg h]
      simp only [List.getElem?_cons_zero, Option.some.injEq, List.take_zero, List.drop_zero, List.nil_append]
theorem posL_le (x : α) : ∀ (l : List α), posL lt x l ≤ l.length
  | [] => Nat.le_refl _
  | y :: l => by
    unfold posL
    split
    · simp only [List.length_cons]; exact Nat.succ_le_succ (posL_le x l)
    · exact Nat.zero_le _
theorem posL_lt (x : α) : ∀ (l : List α) (i : Nat) (d : α), i < posL lt x l → lt (l.getD i d) x = true
  | [], i, d, h => by unfold posL at h; omega
  | y :: l, i, d, h => by
    unfold posL at h
    split at h
    · rename_i hy
      cases i with
      | zero => exact hy
      | succ i => exact posL_lt x l i d (by omega)
    · omega
theorem posL_stop (x : α) : ∀ (l : List α) (d : α), posL lt x l < l.length → lt (l.getD (posL lt x l) d) x = false
  | [], d, h => by simp at h
  | y :: l, d, h => by
    unfold posL at *
    split at h
    · rename_i hy
      rw [if_pos hy]
      exact posL_stop x l d (by simpa using h)
    · rename_i hy
      rw [if_neg hy]
      simpa using hy
/-- all of them, put together -/
def insAll [DecidableEq α] (lt : α → α → Bool) (l : List α) : List α := l.foldl (fun o x => insL lt x o) []
theorem insAll_snoc [DecidableEq α] (l : List α) (x : α) : insAll lt (l ++ [x]) = insL lt x (insAll lt l) := by unfold insAll; rw [List.foldl_append]; rfl
theorem insL_len [DecidableEq α] (x : α) : ∀ (l : List α), (insL lt x l).length ≤ l.length + 1
  | [] => Nat.le_refl _
  | y :: l => by
    unfold insL
    split
    · simp only [List.length_cons]
      exact Nat.succ_le_succ (insL_len x l)
    · split <;> simp
theorem insAll_len [DecidableEq α] (l : List α) : (insAll lt l).length ≤ l.length := by
  have h : ∀ (l o : List α), (l.foldl (fun o x => insL lt x o) o).length ≤ o.length + l.length := fun l => by
    induction l with
    | nil => intro o; simp
    | cons x l ih =>
      intro o
      have h1 := ih (insL lt x o)
      have h2 := insL_len (lt := lt) x o
      simp only [List.foldl_cons, List.length_cons]
      omega
  have := h l []
  simpa [insAll] using this
theorem insFold [DecidableEq α] (O : Od lt P) : ∀ (l o : List α), (∀ x ∈ l, P x) → (∀ x ∈ o, P x) → Asc lt o → Asc lt (l.foldl (fun o x => insL lt x o) o) ∧ ∀ y, y ∈ l.foldl (fun o x => insL lt x o) o ↔ y ∈ o ∨ y ∈ l
  | [], o, _, _, h => ⟨h, fun y => by simp⟩
  | x :: l, o, hl, ho, h => by
    have px := hl x (List.mem_cons_self ..)
    obtain ⟨h1, h2⟩ := insFold O l (insL lt x o) (fun y hy => hl y (List.mem_cons_of_mem _ hy)) (fun y hy => by
      rcases (insL_mem x o y).1 hy with rfl | hy
      · exact px
      · exact ho y hy) (insL_asc O x px o h ho)
    refine ⟨h1, fun y => ?_⟩
    rw [List.foldl_cons, h2 y, insL_mem, List.mem_cons]
    constructor
    · rintro ((h | h) | h)
      · exact .inr (.inl h)
      · exact .inl h
      · exact .inr (.inr h)
    · rintro (h | h | h)
      · exact .inl (.inr h)
      · exact .inl (.inl h)
      · exact .inr h
theorem insAll_asc [DecidableEq α] (O : Od lt P) {l : List α} (hl : ∀ x ∈ l, P x) : Asc lt (insAll lt l) ∧ ∀ y, y ∈ insAll lt l ↔ y ∈ l := by
  obtain ⟨h1, h2⟩ := insFold O l [] hl (by simp) (List.Pairwise.nil)
  exact ⟨h1, fun y => by rw [show insAll lt l = l.foldl (fun o x => insL lt x o) [] from rfl, h2]; simp⟩
section
variable [Inhabited α] [DecidableEq α]
theorem compact_mem (d : Array α) (x : α) : x ∈ compactUpTo d d.size ↔ ∃ i, i < d.size ∧ d[i]! = x := by
  unfold compactUpTo
  simp only [List.mem_map, List.mem_filter, List.mem_range]
  constructor
  · rintro ⟨i, ⟨h1, _⟩, h2⟩
    exact ⟨i, h1, h2⟩
  · rintro ⟨i, h1, h2⟩
    induction i with
    | zero => exact ⟨0, ⟨h1, by simp [keeps]⟩, h2⟩
    | succ i ih =>
      by_cases hk : keeps d (i + 1) = true
      · exact ⟨i + 1, ⟨h1, hk⟩, h2⟩
      · refine ih (by omega) ?_
        unfold keeps at hk
        rw [decide_eq_true_iff, not_or, Classical.not_not, Nat.add_sub_cancel] at hk
        rw [← hk.2]
        exact h2
theorem compact_asc (O : Od lt P) {d : Array α} (hP : ∀ i, i < d.size → P d[i]!) (hs : SortedIn lt 0 d.size d) : Asc lt (compactUpTo d d.size) := by
  unfold Asc compactUpTo
  rw [List.pairwise_map, List.pairwise_filter]
  refine List.Pairwise.imp_of_mem (R := (· < ·)) ?_ List.pairwise_lt_range
  intro i j hi hj hij ki kj
  rw [List.mem_range] at hi hj
  unfold keeps at kj
  rw [decide_eq_true_iff] at kj
  have hne : d[j]! ≠ d[j - 1]! := kj.resolve_left (by omega)
  cases h : lt d[i]! d[j]! with
  | true => rfl
  | false =>
    exfalso
    have e1 := O.tot _ _ (hP i hi) (hP j hj) h (hs i j (Nat.zero_le _) hij hj)
    by_cases hj1 : i = j - 1
    · exact hne (by rw [← hj1]; exact e1.symm)
    · have s1 := hs i (j - 1) (Nat.zero_le _) (by omega) (by omega)
      have s2 := hs (j - 1) j (Nat.zero_le _) (by omega) hj
      rw [← e1] at s2
      have e2 := O.tot _ _ (hP i hi) (hP (j - 1) (by omega)) s2 s1
      exact hne (by rw [← e1, e2])
/-- sorted and compacted: as put together -/
theorem sort_compact (O : Od lt P) {d d' : Array α} (hP : ∀ x ∈ d.toList, P x) (hp : PermIn 0 d.size d d') (hs : SortedIn lt 0 d.size d') : compactUpTo d' d'.size = insAll lt d.toList := by
  obtain ⟨h1, _, h3⟩ := hp
  rw [Array.extract_eq_self_of_le (by omega), Array.extract_eq_self_of_le (Nat.le_refl _)] at h3
  have hm : ∀ x, (∃ i, i < d'.size ∧ d'[i]! = x) ↔ x ∈ d.toList := fun x => by
    rw [← h3.mem_iff]
    constructor
    · rintro ⟨i, hi, rfl⟩
      rw [getElem!_pos d' i hi]
      exact Array.getElem_mem_toList hi
    · intro hx
      obtain ⟨i, hi, e⟩ := List.getElem_of_mem hx
      rw [Array.length_toList] at hi
      exact ⟨i, hi, by rw [getElem!_pos d' i hi, ← e, Array.getElem_toList]⟩
  have hP' : ∀ i, i < d'.size → P d'[i]! := fun i hi => hP _ ((hm _).1 ⟨i, hi, rfl⟩)
  obtain ⟨a1, a2⟩ := insAll_asc O hP
  refine asc_uniq O _ _ (compact_asc O hP' (by rw [h1]; exact hs)) a1 (fun x hx => ?_) (fun x hx => hP x ((a2 x).1 hx)) fun x => ?_
  · exact hP x ((hm x).1 ((compact_mem d' x).1 hx))
  · rw [compact_mem, hm, a2]
end
/-- names' order, on folded names -/
def PN (x : List UInt8) : Prop := Nm.valid x = true ∧ Nm.foldB x = x
theorem od_names : Od Nm.lessN PN where
  irr x h := by
    rcases Nm.three h.1 h.1 with ⟨a, b, _⟩ | ⟨a, b, _⟩ | ⟨a, b, _⟩
    · rw [a] at b; cases b
    · exact a
    · exact a
  tr x y z hx hy hz := Nm.less_trans hx.1 hy.1 hz.1
  tot x y hx hy h1 h2 := by
    rcases Nm.three hx.1 hy.1 with ⟨a, _, _⟩ | ⟨_, b, _⟩ | ⟨_, _, c⟩
    · rw [h1] at a; cases a
    · rw [h2] at b; cases b
    · unfold Nm.sameN at c
      rw [Bool.and_eq_true, beq_iff_eq, hx.2, hy.2] at c
      exact c.2
def ltI (x y : Int) : Bool := decide (x < y)
theorem od_ints : Od ltI fun _ => True where
  irr x _ := by unfold ltI; simp
  tr x y z _ _ _ h1 h2 := by unfold ltI at *; simp at *; omega
  tot x y _ _ h1 h2 := by unfold ltI at *; simp at *; omega
end Go.Proofs.YtgbmclgnbbhcbaaGreat

/- Pick: whom a set leads to, a name's addresses, the servers, who is next, who is missing. Lists alone. -/
namespace Go.Proofs.YtgbmclgnbbhcbaaGreat
open Go.RowKit
set_option maxRecDepth 100000
set_option linter.unusedVariables false

theorem foldB_idem (s : List UInt8) : Nm.foldB (Nm.foldB s) = Nm.foldB s := by
  have h : ∀ c, Nm.low (Nm.low c) = Nm.low c := fun c => by
    have hc := c.toNat_lt
    unfold Nm.low
    by_cases h : 65 ≤ c.toNat ∧ c.toNat ≤ 90
    · rw [if_pos h]
      have e : (c + 32).toNat = c.toNat + 32 := by
        rw [UInt8.toNat_add]
        show (c.toNat + 32) % 256 = _
        omega
      rw [if_neg (by rw [e]; omega)]
    · rw [if_neg h, if_neg h]
  unfold Nm.foldB
  rw [List.map_map]
  exact List.map_congr_left fun c _ => h c
theorem pn_fold {s : List UInt8} (h : Nm.valid s = true) : PN (Nm.foldN s) := by
  unfold Nm.foldN
  rw [if_pos h]
  exact ⟨(Nm.valid_foldB h).1, foldB_idem s⟩
theorem pn_len {s : List UInt8} (h : PN s) : s.length ≤ 255 := (Nm.labs_valid h.1).2.2
theorem pn_same {a b : List UInt8} (ha : PN a) (hb : PN b) : Nm.sameN a b = decide (a = b) := by
  unfold Nm.sameN
  rw [ha.1, hb.1, ha.2, hb.2]
  by_cases h : a = b
  · subst h; simp
  · rw [decide_eq_false h]; simpa using h
theorem names_valid {d : List UInt8} {a : Nat} : ∀ (m : Nat) (l : List (Nat × Nat)) (e : Nat), Rc.names d a m = some (l, e) → ∀ p ∈ l, Nm.valid ((d.drop p.1).take p.2) = true
  | 0, l, e, h, p, hp => by simp only [Rc.names, Option.some.injEq, Prod.mk.injEq] at h; rw [← h.1] at hp; cases hp
  | m + 1, l, e, h, p, hp => by
    cases h1 : Rc.names d a m with
    | none => simp only [Rc.names, h1] at h; cases h
    | some x =>
      obtain ⟨l1, e1⟩ := x
      rw [Rc.names_succ h1] at h
      cases h2 : Nm.lead (d.drop e1) with
      | none => rw [h2] at h; cases h
      | some n =>
        rw [h2] at h
        simp only [Option.some.injEq, Prod.mk.injEq] at h
        rw [← h.1] at hp
        rcases List.mem_append.1 hp with hp | hp
        · exact names_valid m l1 e1 h1 p hp
        · simp only [List.mem_singleton] at hp
          subst hp
          exact Rc.lead_take h2
theorem parts_valid {t : Int} {d : List UInt8} {l : List (Nat × Nat)} (h : Rc.partsN t d = some l) : ∀ p ∈ l, Nm.valid ((d.drop p.1).take p.2) = true := by
  unfold Rc.partsN at h
  split at h
  · simp only [Option.some.injEq] at h
    subst h
    intro p hp
    unfold Rc.placesP at hp
    split at hp
    · cases hp
    · split at hp
      · cases hp
      · split at hp
        · cases hp
        · rename_i h2
          exact names_valid _ _ _ h2 p hp
  · cases h
theorem targP_valid {ty : Int} {d : List UInt8} (h : (targP ty d).2 = true) : Nm.valid (targP ty d).1 = true := by
  unfold targP at *
  split at h
  · cases h
  · rename_i h6
    rw [if_neg h6]
    cases hp : Rc.partsN ty d with
    | none => rw [hp] at h; simp at h
    | some l =>
      rw [hp] at h
      cases l with
      | nil => simp at h
      | cons x l => exact parts_valid hp x (List.mem_cons_self ..)
/-- the names that records lead to, folded -/
def targL (rs : List Rc.RR) : List (List UInt8) := rs.filterMap fun r => if (targP r.ty r.data).2 then some (Nm.foldN (targP r.ty r.data).1) else none
theorem targL_pn (rs : List Rc.RR) : ∀ x ∈ targL rs, PN x := by
  intro x hx
  unfold targL at hx
  rw [List.mem_filterMap] at hx
  obtain ⟨r, _, h⟩ := hx
  split at h
  · rename_i ht
    simp only [Option.some.injEq] at h
    subst h
    exact pn_fold (targP_valid ht)
  · cases h
theorem targL_snoc (rs : List Rc.RR) (r : Rc.RR) : targL (rs ++ [r]) = targL rs ++ (if (targP r.ty r.data).2 then [Nm.foldN (targP r.ty r.data).1] else []) := by
  unfold targL
  rw [List.filterMap_append]
  congr 1
  by_cases h : (targP r.ty r.data).2 = true <;> simp [h]
/-- the targets of a set, in order, each once -/
def targsN (rs : List Rc.RR) : List (List UInt8) := insAll Nm.lessN (targL rs)
theorem targsN_pn (rs : List Rc.RR) : ∀ x ∈ targsN rs, PN x := fun x hx => targL_pn rs x (((insAll_asc od_names (targL_pn rs)).2 x).1 hx)
/-- a name's addresses, rising, each once -/
def toldN (zs : List Int) : List Int := insAll ltI zs
theorem toldN_asc {zs : List Int} (h : Asc ltI zs) : toldN zs = zs := asc_uniq od_ints _ _ (insAll_asc od_ints (P := fun _ => True) fun _ _ => trivial).1 h (fun _ _ => trivial) (fun _ _ => trivial) (insAll_asc od_ints (P := fun _ => True) fun _ _ => trivial).2
/-- servers: names and addresses -/
abbrev Sv := List UInt8 × Int
def servN (f : List UInt8 → List Int) (rs : List Rc.RR) : List Sv := (targsN rs).flatMap fun n => (toldN (f n)).map fun a => (n, a)
/-- the first that was not tried -/
def nextN (l tried : List Sv) : Option Sv := l.find? fun s => !tried.any fun x => decide (x.2 = s.2)
/-- the first name without addresses that was not asked for -/
def missN (f : List UInt8 → List Int) (rs : List Rc.RR) (tried : List (List UInt8)) : Option (List UInt8) := (targsN rs).find? fun n => decide ((toldN (f n)).length = 0) && !tried.any fun x => Nm.sameN x n
/-- the hints' order -/
def ltS (x y : Sv) : Bool := Nm.lessN x.1 y.1 || (!Nm.lessN y.1 x.1 && decide (x.2 < y.2))
def PS (x : Sv) : Prop := PN x.1 ∧ 0 ≤ x.2 ∧ x.2 ≤ 4294967295
theorem od_servers : Od ltS PS where
  irr x h := by
    unfold ltS
    rw [od_names.irr x.1 h.1]
    simp
  tr x y z hx hy hz h1 h2 := by
    unfold ltS at *
    rw [Bool.or_eq_true, Bool.and_eq_true, Bool.not_eq_true', decide_eq_true_iff] at *
    rcases h1 with h1 | ⟨h1, h1'⟩
    · rcases h2 with h2 | ⟨h2, h2'⟩
      · exact .inl (od_names.tr _ _ _ hx.1 hy.1 hz.1 h1 h2)
      · left
        cases h3 : Nm.lessN y.1 z.1 with
        | true => exact od_names.tr _ _ _ hx.1 hy.1 hz.1 h1 h3
        | false => rw [← od_names.tot _ _ hy.1 hz.1 h3 h2]; exact h1
    · cases h3 : Nm.lessN x.1 y.1 with
      | true =>
        rcases h2 with h2 | ⟨h2, h2'⟩
        · exact .inl (od_names.tr _ _ _ hx.1 hy.1 hz.1 h3 h2)
        · left
          cases h4 : Nm.lessN y.1 z.1 with
          | true => exact od_names.tr _ _ _ hx.1 hy.1 hz.1 h3 h4
          | false => rw [← od_names.tot _ _ hy.1 hz.1 h4 h2]; exact h3
      | false =>
        have e := od_names.tot _ _ hx.1 hy.1 h3 h1
        rw [e]
        rcases h2 with h2 | ⟨h2, h2'⟩
        · exact .inl h2
        · exact .inr ⟨h2, by omega⟩
  tot x y hx hy h1 h2 := by
    unfold ltS at *
    rw [Bool.or_eq_false_iff] at h1 h2
    have e := od_names.tot _ _ hx.1 hy.1 h1.1 h2.1
    have a := h1.2
    have b := h2.2
    rw [h2.1, Bool.not_false, Bool.true_and, decide_eq_false_iff_not] at a
    rw [h1.1, Bool.not_false, Bool.true_and, decide_eq_false_iff_not] at b
    exact Prod.ext e (by omega)
def hintL (l : List Sv) : List Sv := l.filterMap fun s => if Nm.valid s.1 && decide (0 ≤ s.2) && decide (s.2 ≤ 4294967295) then some (Nm.foldN s.1, s.2) else none
theorem hintL_ps (l : List Sv) : ∀ x ∈ hintL l, PS x := by
  intro x hx
  unfold hintL at hx
  rw [List.mem_filterMap] at hx
  obtain ⟨s, _, h⟩ := hx
  split at h
  · rename_i hc
    rw [Bool.and_eq_true, Bool.and_eq_true, decide_eq_true_iff, decide_eq_true_iff] at hc
    simp only [Option.some.injEq] at h
    subst h
    exact ⟨pn_fold hc.1.1, hc.1.2, hc.2⟩
  · cases h
def hintsN (l : List Sv) : List Sv := insAll ltS (hintL l)
end Go.Proofs.YtgbmclgnbbhcbaaGreat

/- Pick: the contract of pick.order: the names' order as a number. -/
namespace Go.Proofs.YtgbmclgnbbhcbaaGreat
open Go.RowKit
set_option maxRecDepth 100000
set_option linter.unusedVariables false

/-- names' order as a number -/
def cmpN (a b : List UInt8) : Int := if Nm.lessN a b then -1 else if Nm.lessN b a then 1 else 0
theorem cmpN_lt (a b : List UInt8) : decide (cmpN a b < 0) = Nm.lessN a b := by
  unfold cmpN
  cases h : Nm.lessN a b with
  | true => rfl
  | false =>
    cases h2 : Nm.lessN b a <;> rfl
set_option maxHeartbeats 1000000 in
theorem pkOrder_any (a b : List UInt8) (w : World) (ha : a.length ≤ maxLen) (hb : b.length ≤ maxLen) :
    Calls Tryz.prog 36 #[.string (mk a), .string (mk b)] w fun e w' => e = .returned (.int .i64 (cmpN a b)) ∧ Below w.heap.size w w' := by
  have h1 := fun W => Less_any (mk a) (mk b) W (by rw [size_mk]; exact ha) (by rw [size_mk]; exact hb)
  have h2 := fun W => Less_any (mk b) (mk a) W (by rw [size_mk]; exact hb) (by rw [size_mk]; exact ha)
  simp only [bl_mk] at h1 h2
  have hr : Hid (cmpN a b = if Nm.lessN a b then -1 else if Nm.lessN b a then 1 else 0) := Go.Lib.hid rfl
  have HB := Go.Lib.hid (Below.refl w.heap.size w)
  generalize cmpN a b = r at *
  generalize Nm.lessN a b = x at *
  generalize Nm.lessN b a = y at *
  have H1 := Go.Lib.hid h1
  have H2 := Go.Lib.hid h2
  clear h1 h2
  cases x with
  | true =>
    go_enter Tryz.func36, Tryz.ntmps36
    go_wp2_with fail
    refine (H1.out _).mono ?_; rintro e wb1 ⟨rfl, hx⟩
    have hb := HB.out.trans (hx.mono HB.out.size)
    clear HB
    have HB := Go.Lib.hid hb
    clear hx hb
    go_wp2_with fail
    go_ret
    exact ⟨by rw [hr.out]; rfl, HB.out⟩
  | false =>
    cases y with
    | true =>
      go_enter Tryz.func36, Tryz.ntmps36
      go_wp2_with fail
      refine (H1.out _).mono ?_; rintro e wb2 ⟨rfl, hx⟩
      have hb := HB.out.trans (hx.mono HB.out.size)
      clear HB
      have HB := Go.Lib.hid hb
      clear hx hb
      go_wp2_with fail
      refine (H2.out _).mono ?_; rintro e wb3 ⟨rfl, hx⟩
      have hb := HB.out.trans (hx.mono HB.out.size)
      clear HB
      have HB := Go.Lib.hid hb
      clear hx hb
      go_wp2_with fail
      go_ret
      exact ⟨by rw [hr.out]; rfl, HB.out⟩
    | false =>
      go_enter Tryz.func36, Tryz.ntmps36
      go_wp2_with fail
      refine (H1.out _).mono ?_; rintro e wb4 ⟨rfl, hx⟩
      have hb := HB.out.trans (hx.mono HB.out.size)
      clear HB
      have HB := Go.Lib.hid hb
      clear hx hb
      go_wp2_with fail
      refine (H2.out _).mono ?_; rintro e wb5 ⟨rfl, hx⟩
      have hb := HB.out.trans (hx.mono HB.out.size)
      clear HB
      have HB := Go.Lib.hid hb
      clear hx hb
      go_wp2_with fail
      go_ret
      exact ⟨by rw [hr.out]; rfl, HB.out⟩
end Go.Proofs.YtgbmclgnbbhcbaaGreat

/- Pick: rows of one-cell elements that the library sorts and compacts; pick.told: a name's addresses. -/
namespace Go.Proofs.YtgbmclgnbbhcbaaGreat
open Go.RowKit Go.Sort Go.Lib
set_option maxRecDepth 100000
set_option linter.unusedVariables false
set_option linter.unusedSimpArgs false

section
variable {α : Type} [Inhabited α] {enc : α → Value}
theorem put_heap {w : World} {g : Nat} {C : Array Value} {e : TypeId} {f : Nat × Nat} (h : w.heap[g]? = some (.cells C e f)) (d : Array α) (n off : Nat) (os : Array Obj) : (grow (putRow enc (Sort.ahead w n) g off d) os).heap[g]? = some (.cells (putCells enc off d C) e f) := by
  have hlt := (Array.getElem?_eq_some_iff.1 h).1
  have hs : (putRow enc (Sort.ahead w n) g off d).heap.size = w.heap.size := by unfold putRow mapBlock; simp [Sort.ahead]
  rw [heap_grow_old _ _ (by rw [hs]; exact hlt)]
  unfold putRow mapBlock
  simp only [Sort.ahead, Array.getElem?_modify, if_true, h, Option.map_some, onCells]
theorem put_other {w : World} {g q : Nat} (hq : q ≠ g) (hl : q < w.heap.size) (d : Array α) (n off : Nat) (os : Array Obj) : (grow (putRow enc (Sort.ahead w n) g off d) os).heap[q]? = w.heap[q]? := by
  have hs : (putRow enc (Sort.ahead w n) g off d).heap.size = w.heap.size := by unfold putRow mapBlock; simp [Sort.ahead]
  rw [heap_grow_old _ _ (by rw [hs]; exact hl)]
  unfold putRow mapBlock
  simp only [Sort.ahead, Array.getElem?_modify, if_neg (Ne.symm hq)]
theorem put_row {w : World} {g : Nat} {cs : List Value} (h : Row w g cs) (d : Array α) (hs : d.size = cs.length) (n : Nat) (os : Array Obj) : Row (grow (putRow enc (Sort.ahead w n) g 0 d) os) g (d.toList.map enc) := by
  obtain ⟨C, e, lo, hi, hg, ht, hl, hf⟩ := h
  refine ⟨putCells enc 0 d C, e, lo, hi, put_heap hg d n 0 os, ?_, by unfold putCells; simp; omega, by simpa [hs] using hf⟩
  refine List.ext_getElem? fun i => ?_
  rw [List.length_map, Array.length_toList]
  by_cases hi2 : i < d.size
  · rw [List.getElem?_take_of_lt hi2, List.getElem?_map, Array.getElem?_toList, Array.getElem?_toList]
    unfold putCells
    rw [Array.getElem?_mapIdx, Array.getElem?_eq_getElem (by omega), Array.getElem?_eq_getElem hi2, Option.map_some, Option.map_some, if_pos ⟨Nat.zero_le _, by omega⟩, Nat.sub_zero, getElem!_pos d i hi2]
  · rw [List.getElem?_eq_none (by rw [List.length_take]; omega), List.getElem?_eq_none (by simp; omega)]
theorem below_put {B g : Nat} {w0 w : World} (h : Below B w0 w) (hg : B ≤ g) (hB : B ≤ w.heap.size) (d : Array α) (n : Nat) (os : Array Obj) : Below B w0 (grow (putRow enc (Sort.ahead w n) g 0 d) os) := by
  have hs : (putRow enc (Sort.ahead w n) g 0 d).heap.size = w.heap.size := by unfold putRow mapBlock; simp [Sort.ahead]
  refine ⟨h.os, h.tape, h.output, Nat.le_trans h.size (by rw [size_grow, hs]; exact Nat.le_add_right _ _), fun k hk => ?_⟩
  rw [put_other (by omega) (by omega)]
  exact h.block k hk
theorem holds_of {w : World} {g : Nat} {d : Array α} (h : Row w g (d.toList.map enc)) : Holds enc w g 0 d := fun j hj => by
  have hl : j < (d.toList.map enc).length := by simpa using hj
  rw [Nat.zero_add]
  refine ⟨?_, h.free hl⟩
  rw [h.cell hl, List.getElem?_map, Array.getElem?_toList, Array.getElem?_eq_getElem hj, Option.map_some, getElem!_pos d j hj]
theorem Row_pre {w : World} {g : Nat} {a b : List Value} (h : Row w g (a ++ b)) : Row w g a := by
  obtain ⟨C, e, lo, hi, hg, ht, hl, hf⟩ := h
  rw [List.length_append] at ht hl hf
  refine ⟨C, e, lo, hi, hg, ?_, by omega, by omega⟩
  have := congrArg (List.take a.length) ht
  rw [List.take_take, List.take_left, Nat.min_eq_left (by omega)] at this
  exact this
end
theorem own_base {w : World} {b b' e sz n : Nat} {v : Value} {xs : List Value} (h : w.ownsRow b e sz v n xs) (hb : b' ≤ b) : w.ownsRow b' e sz v n xs := by
  refine ⟨h.1, ?_⟩
  rcases h.2 with h2 | ⟨g, cap, cur, h1, h2, h3⟩
  · exact .inl h2
  · exact .inr ⟨g, cap, cur, h1, Nat.le_trans hb h2, h3⟩
theorem own_put {α : Type} [Inhabited α] {enc : α → Value} {w : World} {base e g n cap : Nat} {xs : List Value} (h : w.ownsRow base e 1 (.slice (some ⟨g, 0, none⟩) n cap) n xs) (d : Array α) (hd : d.size = n) (k : Nat) (os : Array Obj) : (grow (putRow enc (Sort.ahead w k) g 0 d) os).ownsRow base e 1 (.slice (some ⟨g, 0, none⟩) n cap) n (d.toList.map enc) := by
  obtain ⟨h1, h2⟩ := h
  refine ⟨by rw [List.length_map, Array.length_toList, hd, Nat.mul_one], ?_⟩
  rcases h2 with ⟨h2, _⟩ | ⟨g', cap', cur, hv, hb, hg, hn, hm, hs, ht⟩
  · cases h2
  · simp only [Value.slice.injEq, Option.some.injEq, Addr.mk.injEq] at hv
    obtain ⟨⟨rfl, _⟩, _, rfl⟩ := hv
    refine .inr ⟨g, cap, putCells enc 0 d cur, rfl, hb, put_heap hg d k 0 os, hn, hm, by unfold putCells; rw [Array.size_mapIdx]; exact hs, ?_⟩
    rw [Nat.mul_one] at hs ⊢
    refine List.ext_getElem? fun i => ?_
    by_cases hi2 : i < n
    · rw [List.getElem?_take_of_lt hi2, List.getElem?_map, Array.getElem?_toList, Array.getElem?_toList]
      unfold putCells
      rw [Array.getElem?_mapIdx, Array.getElem?_eq_getElem (by omega), Array.getElem?_eq_getElem (by omega), Option.map_some, Option.map_some, if_pos ⟨Nat.zero_le _, by omega⟩, Nat.sub_zero, getElem!_pos d i (by omega)]
    · rw [List.getElem?_eq_none (by rw [List.length_take]; omega), List.getElem?_eq_none (by simp; omega)]
theorem own_cut {w : World} {base e g n cap : Nat} {a b : List Value} (h : w.ownsRow base e 1 (.slice (some ⟨g, 0, none⟩) n cap) n (a ++ b)) : w.ownsRow base e 1 (.slice (some ⟨g, 0, none⟩) a.length cap) a.length a := by
  obtain ⟨h1, h2⟩ := h
  rw [List.length_append] at h1
  refine ⟨by omega, ?_⟩
  rcases h2 with ⟨h2, _⟩ | ⟨g', cap', cur, hv, hb, hg, hn, hm, hs, ht⟩
  · cases h2
  · simp only [Value.slice.injEq, Option.some.injEq, Addr.mk.injEq] at hv
    obtain ⟨⟨rfl, _⟩, _, rfl⟩ := hv
    refine .inr ⟨g, cap, cur, rfl, hb, hg, by omega, hm, hs, ?_⟩
    have := congrArg (List.take a.length) ht
    rw [List.take_take, List.take_left, Nat.min_eq_left (by omega)] at this
    rw [Nat.mul_one]
    exact this
theorem told_merge (zs : List Int) : compact (zs.mergeSort fun x y => decide (x ≤ y)) = toldN zs := by
  have hl : (zs.mergeSort fun x y => decide (x ≤ y)).length = zs.length := List.length_mergeSort _
  have h := sort_compact (lt := ltI) (P := fun _ => True) od_ints (d := zs.toArray) (d' := (zs.mergeSort fun x y => decide (x ≤ y)).toArray) (fun _ _ => trivial) ?_ ?_
  · exact h
  · refine ⟨by simp [hl], fun i hi => ?_, ?_⟩
    · have hi2 : zs.length ≤ i := by rcases hi with h | h; omega; simpa using h
      rw [getElem!_neg _ _ (by simp; omega), getElem!_neg _ _ (by simp; omega)]
    · rw [Array.extract_eq_self_of_le (by simp [hl]), Array.extract_eq_self_of_le (by simp)]
      exact List.mergeSort_perm _ _
  · intro i j _ hij hj
    have hj2 : j < (zs.mergeSort fun x y => decide (x ≤ y)).length := by rw [hl]; simpa using hj
    have hp := List.pairwise_mergeSort (le := fun x y : Int => decide (x ≤ y)) (fun a b c h1 h2 => by simp at *; omega) (fun a b => by simp; omega) zs
    have := List.pairwise_iff_getElem.1 hp i j (by omega) hj2 hij
    rw [getElem!_pos _ j (by simpa using hj2), getElem!_pos _ i (by simp; omega)]
    unfold ltI
    simp at this ⊢
    exact this
/-- what a function tells of a name's addresses -/
def TellsA (P : Program) (g : FuncId) (cb : Array Value) (n : List UInt8) (zs : List Int) (w : World) : Prop :=
  ∀ W, Below w.heap.size w W → Calls P g (#[.string (mk n)] ++ cb) W fun e w' => ∃ v, e = .returned v ∧ Ints w' v zs ∧ Below W.heap.size W w'
def RetInts (w : World) (zs : List Int) (e : Ending) (w' : World) : Prop := ∃ v, e = .returned v ∧ w'.ownsRow w.heap.size 3 1 v zs.length (zs.map (Value.int .i64)) ∧ Below w.heap.size w w'
theorem run_eql_func {P : Program} (t : TypeId) (f : Fn) (a b : Array Value) {ps rs : Array TypeId} {va : Bool} (h : P.underlying t = some (.func ps rs va)) (w : World) : (binOp .eql t (.func f a b) .nilFunc).run P w = .ok (.bool false) w := by
  have h1 : ∀ d : Nat, (Op.equalIn (d + 1) t (.func f a b) .nilFunc).run P w = .ok false w := fun d => by
    simp [Op.equalIn, run_underlying h]
  simp only [binOp]
  simp [Op.equal, Op.maxDepth, h1 9999]
/-- a slice of the library's clone, sorted -/
theorem sorted_row {w : World} {base g n cap : Nat} {zs : List Int} (h : w.ownsRow base 3 1 (.slice (some ⟨g, 0, none⟩) n cap) n (zs.map (Value.int .i64))) : Row w g (zs.map (Value.int .i64)) ∧ base ≤ g ∧ n ≤ cap ∧ cap ≤ maxLen ∧ zs.length = n := by
  obtain ⟨h1, h2, h3, h4⟩ := row_of_owns h
  have := h.1
  rw [List.length_map] at this
  exact ⟨h1, h2, h3, h4, by omega⟩
set_option maxHeartbeats 2000000 in
theorem told_any (g : FuncId) (cb : Array Value) (n : List UInt8) (zs : List Int) (w : World) (hent : ∀ args w, (callFunc g args).run Tryz.prog w = .ok (.enter g args) w)
    (hf : TellsA Tryz.prog g cb n zs w) (hz : zs.length ≤ 1000000) :
    Calls Tryz.prog 24 #[.func (.func g) #[] cb, .string (mk n)] w (RetInts w (toldN zs)) := by
  have h0 := hf w (Below.refl _ _)
  have hm := told_merge zs
  have hml : (zs.mergeSort fun x y => decide (x ≤ y)).length = zs.length := List.length_mergeSort _
  have heq := fun W => run_eql_func 37 (.func g) #[] cb Tryz.underlying37 W
  have hnil : zs.length = 0 → toldN zs = [] := fun h => by rw [List.eq_nil_of_length_eq_zero h]; rfl
  clear hf
  have H0 := Go.Lib.hid h0
  have HM := Go.Lib.hid hm
  have HML := Go.Lib.hid hml
  have HNIL := Go.Lib.hid hnil
  clear h0 hm hml hnil
  go_enter Tryz.func24, Tryz.ntmps24
  go_wp2_with fail
  refine H0.out.mono ?_; rintro e W1 ⟨v, rfl, hv, hb1⟩
  obtain ⟨a, cap, rfl, hnc, hcm⟩ := SlC.slice hv
  by_cases hn0 : zs.length = 0
  · have ht := HNIL.out hn0
    have hfin : ∀ (W2 : World) (v2 : Value), (∃ a2 c2, v2 = .slice a2 0 c2 ∧ W2.ownsRow w.heap.size 3 1 v2 0 []) → Below w.heap.size w W2 → RetInts w (toldN zs) (.returned v2) W2 := fun W2 v2 ⟨a2, c2, h1, h2⟩ h3 => ⟨v2, rfl, by rw [ht]; exact h2, h3⟩
    have hcl : Calls Tryz.prog 44 #[.slice a 0 cap] W1 fun e w' => ∃ v2, e = .returned v2 ∧ (∃ a2 c2, v2 = .slice a2 0 c2 ∧ w'.ownsRow w.heap.size 3 1 v2 0 []) ∧ Below W1.heap.size W1 w' := by
      cases a with
      | none =>
        refine (Tryz.slices_Clone_int_nil 0 cap W1).mono ?_
        rintro e w' ⟨rfl, rfl⟩
        exact ⟨_, rfl, ⟨_, _, rfl, World.ownsRow_nil _ _ _ _⟩, Below.refl _ _⟩
      | some ad =>
        refine (Tryz.slices_Clone_int_zero ad cap W1).mono ?_
        rintro e w' ⟨v2, rfl, ho, _, hb⟩
        have hs := SlC.of_owns ho
        obtain ⟨a2, c2, rfl, _, _⟩ := hs.slice
        exact ⟨_, rfl, ⟨_, _, rfl, own_base ho hb1.size⟩, hb⟩
    have HB1 := Go.Lib.hid hb1
    have HCL := Go.Lib.hid hcl
    have HFIN := Go.Lib.hid hfin
    clear hb1 hcl hfin
    clear hv ht
    go_wp2_with fail
    refine HCL.out.mono ?_; rintro e W2 ⟨v2, rfl, ⟨a2, c2, rfl, hs2⟩, hb2⟩
    have hb3 := HB1.out.trans (hb2.mono HB1.out.size)
    have HS2 := Go.Lib.hid hs2
    have HB3 := Go.Lib.hid hb3
    clear hs2 hb3
    clear hb2
    go_wp2_with fail
    refine (Tryz.slices_Sort_int_none a2 c2 W2).mono ?_; rintro e W3 ⟨rfl, rfl⟩
    go_wp2_with fail
    refine (Tryz.slices_Compact_int_empty a2 c2 _).mono ?_; rintro e W4 ⟨rfl, rfl⟩
    go_wp2_with fail
    go_ret
    exact HFIN.out _ _ ⟨_, _, rfl, HS2.out⟩ HB3.out
  · obtain ⟨b, off, rfl, hbw, hcell⟩ := Ints.at hv (by omega)
    have hcl : Calls Tryz.prog 44 #[.slice (some ⟨b, off, none⟩) zs.length cap] W1 fun e w' => ∃ g2 c2, e = .returned (.slice (some ⟨g2, 0, none⟩) zs.length c2) ∧ w'.ownsRow W1.heap.size 3 1 (.slice (some ⟨g2, 0, none⟩) zs.length c2) zs.length (zs.map (Value.int .i64)) ∧ Below W1.heap.size W1 w' := by
      refine (Tryz.slices_Clone_int b off zs.length cap zs W1 (Nat.le_refl _) (by omega) (fun j hj => hcell j hj)).mono ?_
      rintro e w' ⟨v2, rfl, ho, _, hb⟩
      rw [List.take_length] at ho
      rcases ho.2 with ⟨_, h⟩ | ⟨g2, c2, cur, rfl, _⟩
      · omega
      · exact ⟨g2, c2, rfl, ho, hb⟩
    have HB1 := Go.Lib.hid hb1
    have HCL := Go.Lib.hid hcl
    clear hb1 hcl
    clear hv hcell
    go_wp2_with fail
    refine HCL.out.mono ?_; rintro e W2 ⟨g2, c2, rfl, ho, hb2⟩
    obtain ⟨hr, hbg, hn2, hm2, _⟩ := sorted_row ho
    have hb3 := HB1.out.trans (hb2.mono HB1.out.size)
    have hgw := hr.lt
    have hsort := Tryz.slices_Sort_int g2 0 c2 zs W2 (holds_of (d := zs.toArray) hr) hgw (by omega)
    have hwg : w.heap.size ≤ g2 := Nat.le_trans HB1.out.size hbg
    have HO := Go.Lib.hid ho
    have HR := Go.Lib.hid hr
    have HB3 := Go.Lib.hid hb3
    have HSORT := Go.Lib.hid hsort
    clear ho hr hb3 hsort
    clear hb2
    go_wp2_with fail
    refine HSORT.out.mono ?_; rintro e W3 ⟨rfl, q, os, rfl⟩
    have hr3 := put_row (enc := Value.int .i64) HR.out (zs.mergeSort fun x y => decide (x ≤ y)).toArray (by simp [HML.out]) q os
    have hb4 := below_put (enc := Value.int .i64) HB3.out hwg HB3.out.size (zs.mergeSort fun x y => decide (x ≤ y)).toArray q os
    have ho3 := own_put (enc := Value.int .i64) HO.out (zs.mergeSort fun x y => decide (x ≤ y)).toArray (by simp [HML.out]) q os
    generalize grow (putRow (Value.int .i64) (Sort.ahead W2 q) g2 0 (zs.mergeSort fun x y => decide (x ≤ y)).toArray) os = W3 at *
    have hcp := Tryz.slices_Compact_int g2 0 c2 (zs.mergeSort fun x y => decide (x ≤ y)) W3 (holds_of hr3) (by rw [HML.out]; omega) (by rw [HML.out]; omega)
    rw [HML.out, HM.out] at hcp
    have HR3 := Go.Lib.hid hr3
    have HB4 := Go.Lib.hid hb4
    have HCP := Go.Lib.hid hcp
    have HO3 := Go.Lib.hid ho3
    clear hr3 hb4 hcp ho3
    go_wp2_with fail
    refine HCP.out.mono ?_; rintro e W4 ⟨rfl, q4, rfl⟩
    have hle : (toldN zs).length ≤ zs.length := by
      rw [← HM.out, ← HML.out]
      unfold compact compactUpTo
      rw [List.length_map]
      exact Nat.le_trans (List.length_filter_le _ _) (by simp)
    have hr4 := put_row (enc := Value.int .i64) HR3.out (toldN zs ++ List.replicate (zs.length - (toldN zs).length) 0).toArray (by simp [HML.out]; omega) q4 #[]
    have hb5 := below_put (enc := Value.int .i64) HB4.out hwg HB4.out.size (toldN zs ++ List.replicate (zs.length - (toldN zs).length) 0).toArray q4 #[]
    have ho5 := own_put (enc := Value.int .i64) HO3.out (toldN zs ++ List.replicate (zs.length - (toldN zs).length) 0).toArray (by simp [HML.out]; omega) q4 #[]
    rw [grow_empty] at hr4 hb5 ho5
    rw [List.toList_toArray, List.map_append] at ho5
    have ho6 := own_cut ho5
    rw [List.length_map] at ho6
    clear ho5
    generalize putRow (Value.int .i64) (Sort.ahead W3 q4) g2 0 (toldN zs ++ List.replicate (zs.length - (toldN zs).length) 0).toArray = W4 at *
    have hs5 := own_base ho6 HB1.out.size
    have HS5 := Go.Lib.hid hs5
    have HB5 := Go.Lib.hid hb5
    clear hs5 hb5
    clear hr4 ho6
    go_wp2_with fail
    go_ret
    exact ⟨_, rfl, HS5.out, HB5.out⟩
end Go.Proofs.YtgbmclgnbbhcbaaGreat

