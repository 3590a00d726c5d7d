/- The contracts of record.Shape, places, texts, Data: what data may be, and where names stand in it. -/
import Derived.Test.YthfpijacemkbbaaDoorRefA
import Derived.Test.YthfpijacemkbbaaDoorOrdT
import Derived.Test.YthfpijacemkbbaaDoorRc
namespace Go.Proofs.YthfpijacemkbbaaDoor
open Go.RowKit
set_option linter.unusedVariables false

/-! ### pairs of numbers, in memory -/
def encP (l : List (Nat × Nat)) : List Value := l.flatMap fun p => [.int .i64 p.1, .int .i64 p.2]
theorem encP_snoc (l : List (Nat × Nat)) (a n : Nat) : encP (l ++ [(a, n)]) = encP l ++ [.int .i64 a, .int .i64 n] := by simp [encP]
theorem one_pair (a n : Nat) : ∀ u ∈ [Value.int .i64 (a : Int), Value.int .i64 (n : Int)], u.oneCell' = true := by
  intro u hu
  simp at hu
  rcases hu with rfl | rfl <;> rfl
/-- a list of pairs -/
def Pairs (w : World) (v : Value) (l : List (Nat × Nat)) : Prop := SlC w 2 v l.length (encP l)
theorem Pairs.below {B : Nat} {w w' : World} {v : Value} {l : List (Nat × Nat)} (h : Pairs w v l) (hb : Below B w w') (hB : w.heap.size ≤ B) : Pairs w' v l := SlC.below h hb hB
theorem encP_get : ∀ (l : List (Nat × Nat)) (j : Nat), j < l.length → (encP l)[2 * j]? = some (.int .i64 (l.getD j (0, 0)).1) ∧ (encP l)[2 * j + 1]? = some (.int .i64 (l.getD j (0, 0)).2)
  | [], j, h => by simp at h
  | p :: l, 0, _ => ⟨rfl, rfl⟩
  | p :: l, j + 1, h => by
    have := encP_get l j (by simpa using h)
    have e : encP (p :: l) = .int .i64 p.1 :: .int .i64 p.2 :: encP l := rfl
    rw [e, show 2 * (j + 1) = 2 * j + 1 + 1 by omega]
    simpa using this
theorem Pairs.at {w : World} {a : Option Addr} {m cap : Nat} {l : List (Nat × Nat)} (h : Pairs w (.slice a m cap) l) (hn : 0 < l.length) :
    ∃ b off, a = some ⟨b, off, none⟩ ∧ b < w.heap.size ∧ ∀ j, j < l.length → w.cell? ⟨b, off + 2 * j, none⟩ = some (.int .i64 (l.getD j (0, 0)).1) ∧ w.cell? ⟨b, off + (2 * j + 1), none⟩ = some (.int .i64 (l.getD j (0, 0)).2) := by
  obtain ⟨_, b, off, ha, hlt, h4⟩ := SlC.at h hn
  refine ⟨b, off, ha, hlt, fun j hj => ?_⟩
  obtain ⟨e1, e2⟩ := encP_get l j hj
  exact ⟨by rw [h4 (2 * j) (by omega), e1], by rw [h4 (2 * j + 1) (by omega), e2]⟩

/-! ### Shape -/
def shapeV (t : Int) : Value := match Rc.shape t with
  | some (a, m, b) => .tuple #[.int .i64 (a : Int), .int .i64 (m : Int), .int .i64 (b : Int), .bool true]
  | none => .tuple #[.int .i64 0, .int .i64 0, .int .i64 0, .bool false]

set_option maxRecDepth 100000 in
theorem Shape_any (t : Int) (w : World) : Calls Tryd.prog 44 #[.int .i64 t] w fun e w' => e = .returned (shapeV t) ∧ w = w' := by
  by_cases h : t = 2 ∨ t = 5 ∨ t = 12 ∨ t = 15 ∨ t = 33 ∨ t = 6
  · rcases h with rfl | rfl | rfl | rfl | rfl | rfl
    all_goals
      go_enter Tryd.func44, Tryd.ntmps44
      go_wp2
      refine bodyPost_ret (v := shapeV _) (by simp [results, Tryd.results44, go_sem, shapeV, Rc.shape]) rfl ⟨rfl, rfl⟩
  · have e1 : (t == 2) = false := by rw [beq_eq_false_iff_ne]; omega
    have e2 : (t == 5) = false := by rw [beq_eq_false_iff_ne]; omega
    have e3 : (t == 12) = false := by rw [beq_eq_false_iff_ne]; omega
    have e4 : (t == 15) = false := by rw [beq_eq_false_iff_ne]; omega
    have e5 : (t == 33) = false := by rw [beq_eq_false_iff_ne]; omega
    have e6 : (t == 6) = false := by rw [beq_eq_false_iff_ne]; omega
    have hf : Hid (shapeV t = .tuple #[.int .i64 0, .int .i64 0, .int .i64 0, .bool false]) := Go.Lib.hid (by
      unfold shapeV Rc.shape
      rw [if_neg (by omega), if_neg (by omega), if_neg (by omega), if_neg (by omega)])
    clear h
    go_enter Tryd.func44, Tryd.ntmps44
    go_wp2
    refine bodyPost_ret (v := .tuple #[.int .i64 0, .int .i64 0, .int .i64 0, .bool false]) (by simp [results, Tryd.results44, go_sem]) rfl ⟨by rw [hf.out], rfl⟩

/-! ### texts -/
/-- a text's size, of a value -/
def strLen (v : Value) : Nat := match v with | .string s => s.size | _ => 0
theorem strLen_mk (l : List UInt8) : strLen (.string (mk l)) = l.length := size_mk l

set_option maxRecDepth 100000 in
theorem texts_any (s : ByteArray) (w : World) (hs : s.size ≤ maxLen) :
    Calls Tryd.prog 41 #[.string s] w fun e w' => e = .returned (.bool (Rc.textsB (bl s))) ∧ w = w' := by
  cases hz : bl s with
  | nil =>
    have e1 : s.toList = [] := by rw [toList_bl, hz]
    have e2 : (s.toList == []) = true := by rw [e1]; rfl
    have hs0 : s = mk [] := bl_inj (by rw [hz, bl_mk])
    subst hs0
    clear hz e1 hs
    have hf : Hid (Rc.textsB [] = false) := Go.Lib.hid rfl
    go_enter Tryd.func41, Tryd.ntmps41
    go_wp2
    go_ret
    exact ⟨ret_bool hf.out.symm, rfl⟩
  | cons c0 r0 =>
    have hf : Hid (Rc.textsB (c0 :: r0) = Rc.textsF (bl s)) := Go.Lib.hid (by rw [hz]; rfl)
    have e1 : (s.toList == []) = false := by rw [toList_bl, hz]; rfl
    have hl := size_bl s
    unfold maxLen at hs
    have hle : (bl s).length ≤ 9223372036854775807 := by omega
    have hself := mk_bl s
    rw [← hself] at e1 ⊢
    clear hself
    generalize bl s = d0 at *
    clear hz hl hs s
    have HF := Go.Lib.hid hf
    clear hf
    go_enter Tryd.func41, Tryd.ntmps41
    go_wp2
    go_loop [0] (fun v => ∃ d : List UInt8, v = .string (mk d) ∧ Rc.textsF d = Rc.textsF d0 ∧ d.length ≤ 9223372036854775807) (fun v => strLen v)
    case atStart => exact ⟨d0, rfl, rfl, hle⟩
    case round =>
      obtain ⟨d, rfl, hd, hdl⟩ := hrel
      cases d with
      | nil =>
        have e1 : (!(mk []).toList.isEmpty) = false := by rw [toList_bl, bl_mk]; rfl
        have e2 : (mk []).toList = [] := by rw [toList_bl, bl_mk]
        have hfin : Hid (Rc.textsB (c0 :: r0) = true) := Go.Lib.hid (by rw [HF.out, ← hd]; rfl)
        clear hd
        go_wp2
        go_ret
        exact ⟨ret_bool hfin.out.symm, rfl⟩
      | cons c r =>
        have e1 : (!(mk (c :: r)).toList.isEmpty) = true := by rw [toList_bl, bl_mk]; rfl
        have e2 : ¬ (mk (c :: r)).toList = [] := by rw [toList_bl, bl_mk]; simp
        have hsz : (mk (c :: r)).size = r.length + 1 := by rw [size_mk]; rfl
        have h0 : 0 < (mk (c :: r)).size := by omega
        have hg : (mk (c :: r))[0] = c := rfl
        have hcb := c.toNat_lt
        have hrl : r.length + 1 ≤ 9223372036854775807 := by simpa using hdl
        by_cases hbig : r.length < c.toNat
        · have hfin : Hid (Rc.textsB (c0 :: r0) = false) := Go.Lib.hid (by rw [HF.out, ← hd, Rc.textsF_cons, if_pos hbig])
          have e3 : (r.length : Int) + 1 < 1 + (c.toNat : Int) := by omega
          clear hd hdl
          go_wp2
          go_ret
          exact ⟨ret_bool hfin.out.symm, rfl⟩
        · have hnx : Rc.textsF (r.drop c.toNat) = Rc.textsF d0 := by rw [← hd, Rc.textsF_cons, if_neg hbig]
          have e3 : ¬ (r.length : Int) + 1 < 1 + (c.toNat : Int) := by omega
          have hx : (mk (c :: r)).extract (1 + c.toNat) (r.length + 1) = mk (r.drop c.toNat) := by
            apply bl_inj
            rw [bl_extract, bl_mk, bl_mk, show 1 + c.toNat = c.toNat + 1 by omega, List.drop_succ_cons]
            exact List.take_of_length_le (by rw [List.length_drop]; omega)
          have HNX := Go.Lib.hid hnx
          clear hnx
          clear hd hdl
          go_wp2
          go_round
          case rel => exact ⟨r.drop c.toNat, by rw [hx], HNX.out, by rw [List.length_drop]; omega⟩
          case measure => rw [hx, strLen_mk, strLen_mk, List.length_drop]; simp; omega

/-! ### places -/
theorem infoPl : (Tryd.prog.info? 72).map (fun i => (i.zero, i.size, i.bytes)) = some (some (.agg #[.int .i64 0, .int .i64 0]), 2, 16) := by kernel_rfl
theorem eiPl : EI Tryd.prog 57 72 2 16 := ei_of Tryd.underlying57 infoPl rfl (by decide)
/-- a list of pairs and a bool, in new memory -/
def RetPairs (w : World) (p : List (Nat × Nat) × Bool) (e : Ending) (w' : World) : Prop := ∃ v, e = .returned (.tuple #[v, .bool p.2]) ∧ w'.ownsRow w.heap.size 72 2 v p.1.length (encP p.1) ∧ Below w.heap.size w w'
theorem pairs_owned {w : World} {g e : Nat} {v : Value} {ls : List (Nat × Nat)} (h : w.ownsRow g e 2 v ls.length (encP ls)) : Pairs w v ls := SlC.of_owns h
theorem retPairs_nil {w : World} {p : List (Nat × Nat) × Bool} {b : Bool} (h : p = ([], b)) : RetPairs w p (.returned (.tuple #[.slice none 0 0, .bool b])) w := ⟨_, by rw [h], by rw [h]; exact World.ownsRow_nil _ _ _ _, Below.refl _ _⟩

theorem ret_pairs {w w' : World} {v : Value} {p : List (Nat × Nat) × Bool} {l : List (Nat × Nat)} {b : Bool} (h1 : p = (l, b)) (h2 : w'.ownsRow w.heap.size 72 2 v l.length (encP l)) (h3 : Below w.heap.size w w') : RetPairs w p (.returned (.tuple #[v, .bool b])) w' := ⟨v, by rw [h1], by rw [h1]; exact h2, h3⟩
theorem placesP_eq {t : Int} {a m b : Nat} {d : List UInt8} (h : Rc.shape t = some (a, m, b)) (hl : ¬ d.length < a) :
    (Rc.names d a m = none → Rc.placesP t d = ([], false)) ∧ (∀ l e, Rc.names d a m = some (l, e) → Rc.placesP t d = (l, decide (d.length - e = b))) := by
  constructor
  · intro hn
    unfold Rc.placesP
    rw [h]
    simp only
    rw [if_neg hl, hn]
  · intro l e hn
    unfold Rc.placesP
    rw [h]
    simp only
    rw [if_neg hl, hn]

set_option maxRecDepth 100000 in
set_option maxHeartbeats 2000000 in
theorem places_any (t : Int) (s : ByteArray) (w : World) (hs : s.size ≤ maxLen) :
    Calls Tryd.prog 40 #[.int .i64 t, .string s] w (RetPairs w (Rc.placesP t (bl s))) := by
  have hsh := Shape_any t w
  cases hc : Rc.shape t with
  | none =>
    have hfin : Hid (Rc.placesP t (bl s) = ([], true)) := Go.Lib.hid (by unfold Rc.placesP; rw [hc])
    unfold shapeV at hsh
    rw [hc] at hsh
    have HSH := Go.Lib.hid hsh
    clear hsh
    clear hc hs
    go_enter Tryd.func40, Tryd.ntmps40
    go_wp2_with fail
    refine HSH.out.mono ?_; rintro e _ ⟨rfl, rfl⟩
    go_wp2_with fail
    go_ret2
    exact retPairs_nil hfin.out
  | some q =>
    obtain ⟨a, m, b⟩ := q
    unfold shapeV at hsh
    rw [hc] at hsh
    simp only at hsh
    have ha : a ≤ 6 ∧ m ≤ 2 ∧ b ≤ 20 := by
      unfold Rc.shape at hc
      repeat' split at hc
      all_goals first | (simp only [Option.some.injEq, Prod.mk.injEq] at hc; omega) | cases hc
    obtain ⟨ha, hm, hb20⟩ := ha
    have hl := size_bl s
    unfold maxLen at hs
    by_cases hshort : s.size < a
    · have hfin : Hid (Rc.placesP t (bl s) = ([], false)) := Go.Lib.hid (by unfold Rc.placesP; rw [hc]; simp only; rw [if_pos (by omega)])
      have HSH := Go.Lib.hid hsh
      clear hsh
      have e1 : (s.size : Int) < (a : Int) := by omega
      clear hc hs hl hshort
      go_enter Tryd.func40, Tryd.ntmps40
      go_wp2_with fail
      refine HSH.out.mono ?_; rintro e _ ⟨rfl, rfl⟩
      go_wp2_with fail
      go_ret2
      exact retPairs_nil hfin.out
    · obtain ⟨hfn, hfs⟩ := placesP_eq hc (d := bl s) (by omega)
      have HFN := Go.Lib.hid hfn
      have HFS := Go.Lib.hid hfs
      clear hfn hfs
      have e0 : decide (s.size < a) = false := decide_eq_false hshort
      have hch := fun m l e h => Rc.names_chain (d := bl s) (a := a) (by omega) m l e h
      have e1 : ¬ (s.size : Int) < (a : Int) := by omega
      have HSH := Go.Lib.hid hsh
      have HCH := Go.Lib.hid hch
      have HL := Go.Lib.hid hl
      clear hsh hch hl
      clear hc hshort
      have has : a ≤ s.size := by omega
      generalize Rc.placesP t (bl s) = res at *
      go_enter Tryd.func40, Tryd.ntmps40
      go_wp2_with fail
      refine HSH.out.mono ?_; rintro e _ ⟨rfl, rfl⟩
      go_wp2_with fail
      go_loopw [4, 10, 28] (fun v at_ i wr => ∃ (k at0 : Nat) (l : List (Nat × Nat)), i = .int .i64 k ∧ k ≤ m ∧ at_ = .int .i64 at0 ∧ Rc.names (bl s) a k = some (l, at0) ∧ wr.ownsRow w.heap.size 72 2 v l.length (encP l) ∧ Below w.heap.size w wr) (fun _ _ i _ => m - (intOf i).toNat)
      case atStart => exact ⟨0, a, [], rfl, by omega, rfl, rfl, World.ownsRow_nil _ _ _ _, Below.refl _ _⟩
      case round =>
        obtain ⟨k, at0, l, rfl, hk, rfl, hnm, hown, hbel⟩ := hrel
        obtain ⟨c1, c2, c3, c4, c5⟩ := HCH.out k l at0 hnm
        have c3' : at0 ≤ s.size := by rw [HL.out]; exact c3
        have hbz := hbel.size
        have HNM := Go.Lib.hid hnm
        have HO := Go.Lib.hid hown
        have HB := Go.Lib.hid hbel
        have HC4 := Go.Lib.hid c4
        have HC5 := Go.Lib.hid c5
        clear hnm hown hbel c4 c5
        clear c3
        by_cases hlt : k < m
        · have e2 : (k : Int) < (m : Int) := by omega
          have hx : s.extract at0 s.size = mk ((bl s).drop at0) := by
            apply bl_inj
            rw [bl_extract, bl_mk]
            exact List.take_of_length_le (by rw [List.length_drop, HL.out]; exact Nat.le_refl _)
          have hld := fun w => lead_any (mk ((bl s).drop at0)) w (by rw [size_mk, List.length_drop]; have := HL.out; unfold maxLen; omega)
          have hstep := Rc.names_succ HNM.out
          unfold leadV at hld
          rw [bl_mk] at hld
          cases hlq : Nm.lead ((bl s).drop at0) with
          | none =>
            rw [hlq] at hld hstep
            have hnone : Hid (res = ([], false)) := Go.Lib.hid (HFN.out (Rc.names_none hstep (show k + 1 ≤ m by omega)))
            have HLD := Go.Lib.hid hld
            clear hld
            clear hlq hstep
            go_wp2_with fail
            refine (HLD.out _).mono ?_; rintro e _ ⟨rfl, rfl⟩
            go_wp2_with fail
            go_ret2
            exact ret_pairs hnone.out (World.ownsRow_nil _ _ _ _) HB.out
          | some n =>
            rw [hlq] at hld hstep
            simp only at hld hstep
            have hle := Nm.lead_le hlq
            rw [List.length_drop, ← HL.out] at hle
            have HLD := Go.Lib.hid hld
            have HST := Go.Lib.hid hstep
            clear hld hstep
            clear hlq
            go_wp2_with fail
            refine (HLD.out _).mono ?_; rintro e _ ⟨rfl, rfl⟩
            go_wp2_with (at_builtin; refine wpList_app eiPl (.tmp 39) (.tmp 43) rfl rfl w.heap.size rfl rfl (HO.out.alloc _) (slc_new _ 2 1 72 [.int .i64 (at0 : Int), .int .i64 (n : Int)] rfl (by decide)) (one_pair at0 n) (by unfold maxLen; omega) (by omega) (by simp; omega) ?_; intro v1 w1 hown1 hg1)
            go_roundw
            case rel => exact ⟨k + 1, at0 + n, l ++ [(at0, n)], by go_num, by omega, by go_num, HST.out, by rw [List.length_append, encP_snoc]; exact hown1, below_app (HB.out.alloc hbz _) (HO.out.alloc _) hg1 (Nat.le_refl _) (by simp; omega)⟩
            case measure => simp [intOf]; omega
        · obtain rfl : k = m := by omega
          have hres : Hid (res = (l, decide ((bl s).length - at0 = b))) := Go.Lib.hid (HFS.out _ _ HNM.out)
          have hdec : ∀ q : Bool, q = decide ((s.size : Int) - (at0 : Int) = (b : Int)) → q = decide ((bl s).length - at0 = b) := fun q hq => by
            rw [hq, ← HL.out]
            by_cases hz : s.size - at0 = b
            · rw [decide_eq_true hz, decide_eq_true (by omega)]
            · rw [decide_eq_false hz, decide_eq_false (by omega)]
          have HDEC := Go.Lib.hid hdec
          clear hdec
          by_cases hz : (s.size : Int) - (at0 : Int) = (b : Int)
          · have e3 : ((s.size : Int) - (at0 : Int) == (b : Int)) = true := by rw [beq_iff_eq]; exact hz
            have hd := HDEC.out true (by rw [decide_eq_true hz])
            have HD := Go.Lib.hid hd
            clear hd
            clear hz
            go_wp2_with fail
            go_ret2
            exact ret_pairs (by rw [hres.out, ← HD.out]) HO.out HB.out
          · have e3 : ((s.size : Int) - (at0 : Int) == (b : Int)) = false := by rw [beq_eq_false_iff_ne]; exact hz
            have hd := HDEC.out false (by rw [decide_eq_false hz])
            have HD := Go.Lib.hid hd
            clear hd
            clear hz
            go_wp2_with fail
            go_ret2
            exact ret_pairs (by rw [hres.out, ← HD.out]) HO.out HB.out
end Go.Proofs.YthfpijacemkbbaaDoor

