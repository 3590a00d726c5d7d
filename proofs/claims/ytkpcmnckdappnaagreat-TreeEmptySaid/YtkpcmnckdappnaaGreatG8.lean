/- Merged texts of the seat, in their order: TrU, TrV, RpA, RqO, RqP, TrW, TrX. -/
import Derived.Test.YtkpcmnckdappnaaGreatG1
import Derived.Test.YtkpcmnckdappnaaGreatG3
import Derived.Test.YtkpcmnckdappnaaGreatG7
import Derived.Maps.OwnSet
import Derived.Maps.OwnOps
import Derived.ArgAppend
/- Tree: the contracts of Longest and Best. -/
namespace Go.Proofs.YtkpcmnckdappnaaGreat
open Go.RowKit Go.Sort Go.Lib
set_option maxRecDepth 100000
set_option linter.unusedVariables false
set_option linter.unusedSimpArgs false

def lonS (n : List UInt8) (o : List UInt8 × Bool) (z : List UInt8) : List UInt8 × Bool := if Nm.underN n z && decide (o.1.length < z.length) then (z, true) else o
theorem lonP_eq (l : List (List UInt8)) (n : List UInt8) : longestP l n = l.foldl (lonS n) ([], false) := rfl
def lonK (l : List (List UInt8)) (n : List UInt8) (k : Nat) : List UInt8 × Bool := (l.take k).foldl (lonS n) ([], false)
theorem lonK_step {l : List (List UInt8)} {n : List UInt8} {k : Nat} (hk : k < l.length) : lonK l n (k + 1) = lonS n (lonK l n k) (l.getD k []) := by
  unfold lonK
  rw [List.take_succ_eq_append_getElem hk, List.foldl_append, List.getD_eq_getElem?_getD, List.getElem?_eq_getElem hk]
  rfl
theorem lonK_all (l : List (List UInt8)) (n : List UInt8) : lonK l n l.length = longestP l n := by unfold lonK; rw [List.take_length]; rfl
theorem lon_good {n : List UInt8} : ∀ (l : List (List UInt8)) (o : List UInt8 × Bool), (l.foldl (lonS n) o = o ∨ ((l.foldl (lonS n) o).2 = true ∧ (l.foldl (lonS n) o).1 ∈ l ∧ Nm.underN n (l.foldl (lonS n) o).1 = true))
  | [], o => .inl rfl
  | z :: l, o => by
    rw [List.foldl_cons]
    rcases lon_good l (lonS n o z) with h | ⟨h1, h2, h3⟩
    · rw [h]
      unfold lonS
      split
      · rename_i hc
        simp only [Bool.and_eq_true] at hc
        exact .inr ⟨rfl, List.mem_cons_self .., hc.1⟩
      · exact .inl rfl
    · exact .inr ⟨h1, List.mem_cons_of_mem _ h2, h3⟩
theorem lonK_len {l : List (List UInt8)} {n : List UInt8} (hl : ∀ x ∈ l, x.length ≤ maxLen) (k : Nat) : (lonK l n k).1.length ≤ maxLen := by
  unfold lonK
  rcases lon_good (n := n) (l.take k) ([], false) with h | ⟨_, h2, _⟩
  · rw [h]; simp
  · exact hl _ (List.mem_of_mem_take h2)
set_option maxHeartbeats 4000000 in
theorem Longest_any (l : List (List UInt8)) (n : List UInt8) (a : Option Addr) (cap : Nat) (w : World) (hst : Strs w (.slice a l.length cap) l) (hl : l.length ≤ 1000) (hs : ∀ x ∈ l, x.length ≤ maxLen) (hn : n.length ≤ maxLen) :
    Calls Tryz.prog 42 #[.slice a l.length cap, .string (mk n)] w fun e w' => e = .returned (.tuple #[.string (mk (longestP l n).1), .bool (longestP l n).2]) ∧ Below w.heap.size w w' := by
  have hun := fun z W (hz : z.length ≤ maxLen) => underM n z W hn hz
  have hall := lonK_all l n
  have hstep := fun k (hk : k < l.length) => lonK_step (n := n) hk
  have hlen := fun k => lonK_len (n := n) hs k
  generalize longestP l n = R at *
  have HB := Go.Lib.hid (Below.refl w.heap.size w)
  generalize hN : l.length = N at *
  have HUN := Go.Lib.hid hun
  have HALL := Go.Lib.hid hall
  have HSTEP := Go.Lib.hid hstep
  have HLEN := Go.Lib.hid hlen
  have HST := Go.Lib.hid hst
  have HS := Go.Lib.hid hs
  have HN := Go.Lib.hid hN
  clear hun hall hstep hlen hst hs hN
  go_enter Tryz.func42, Tryz.ntmps42
  go_wp2_with fail
  go_loopw [4, 5, 10] (fun v4 v5 i wr => ∃ k : Nat, i = .int .i64 k ∧ k ≤ N ∧ v4 = .string (mk (lonK l n k).1) ∧ v5 = .bool (lonK l n k).2 ∧ Below w.heap.size w wr) (fun _ _ i _ => N - (intOf i).toNat)
  case atStart => exact ⟨0, rfl, Nat.zero_le _, rfl, rfl, HB.out⟩
  case round =>
    obtain ⟨k, rfl, hk, rfl, rfl, hbr⟩ := hrel
    clear HB
    have ho := HLEN.out k
    by_cases hlt : k < N
    · have hst := HST.out.below hbr (Nat.le_refl _)
      rw [← HN.out] at hst
      obtain ⟨b, off, rfl, hbw, hcell⟩ := Strs.at hst (by rw [HN.out]; omega)
      have e0 := hcell k (by rw [HN.out]; exact hlt)
      have hst2 := HSTEP.out k hlt
      have hzl := HS.out (l.getD k []) (by rw [List.getD_eq_getElem?_getD, List.getElem?_eq_getElem (by rw [HN.out]; exact hlt)]; exact List.getElem_mem _)
      have hlt2 : (k : Int) < (N : Int) := by omega
      have w1 : IntKind.i64.wrap ((k : Int) + 1) = (k : Int) + 1 := wrapi (by omega) (by omega)
      clear hst hcell
      generalize l.getD k [] = z at *
      generalize lonK l n k = o at *
      obtain ⟨o1, o2⟩ := o
      simp only [lonS] at hst2 ho
      simp only
      have hu := fun W => HUN.out z W hzl
      generalize Nm.underN n z = u at *
      have s1 := size_mk z
      have s2 := size_mk o1
      unfold maxLen at ho hzl
      by_cases hgt : o1.length < z.length
      · have q1 : (o1.length : Int) < (z.length : Int) := by omega
        have q2 : ((mk o1).size : Int) < ((mk z).size : Int) := by omega
        cases u with
        | true =>
          have hf : lonK l n (k + 1) = (z, true) := by rw [hst2]; simp [hgt]
          clear hst2
          have HBR := Go.Lib.hid hbr
          have HU := Go.Lib.hid hu
          have HF := Go.Lib.hid hf
          clear hbr hu hf
          go_wp2_with fail
          refine (HU.out _).mono ?_; rintro e W2 ⟨rfl, hx2⟩
          have hb2 := HBR.out.trans (hx2.mono HBR.out.size)
          have HB2 := Go.Lib.hid hb2
          clear hb2
          clear hx2
          go_wp2_with fail
          go_roundw
          case rel => exact ⟨k + 1, by go_num, by omega, by rw [HF.out], by rw [HF.out], HB2.out⟩
          case measure => simp [intOf]; omega
        | false =>
          have hf : lonK l n (k + 1) = (o1, o2) := by rw [hst2]; simp
          clear hst2
          have HBR := Go.Lib.hid hbr
          have HU := Go.Lib.hid hu
          have HF := Go.Lib.hid hf
          clear hbr hu hf
          go_wp2_with fail
          refine (HU.out _).mono ?_; rintro e W2 ⟨rfl, hx2⟩
          have hb2 := HBR.out.trans (hx2.mono HBR.out.size)
          have HB2 := Go.Lib.hid hb2
          clear hb2
          clear hx2
          go_wp2_with fail
          go_roundw
          case rel => exact ⟨k + 1, by go_num, by omega, by rw [HF.out], by rw [HF.out], HB2.out⟩
          case measure => simp [intOf]; omega
      · have q1 : ¬ (o1.length : Int) < (z.length : Int) := by omega
        have q2 : ¬ ((mk o1).size : Int) < ((mk z).size : Int) := by omega
        have hf : lonK l n (k + 1) = (o1, o2) := by rw [hst2]; simp [hgt]
        clear hst2
        cases u with
        | true =>
          have HBR := Go.Lib.hid hbr
          have HU := Go.Lib.hid hu
          have HF := Go.Lib.hid hf
          clear hbr hu hf
          go_wp2_with fail
          refine (HU.out _).mono ?_; rintro e W2 ⟨rfl, hx2⟩
          have hb2 := HBR.out.trans (hx2.mono HBR.out.size)
          have HB2 := Go.Lib.hid hb2
          clear hb2
          clear hx2
          go_wp2_with fail
          go_roundw
          case rel => exact ⟨k + 1, by go_num, by omega, by rw [HF.out], by rw [HF.out], HB2.out⟩
          case measure => simp [intOf]; omega
        | false =>
          have HBR := Go.Lib.hid hbr
          have HU := Go.Lib.hid hu
          have HF := Go.Lib.hid hf
          clear hbr hu hf
          go_wp2_with fail
          refine (HU.out _).mono ?_; rintro e W2 ⟨rfl, hx2⟩
          have hb2 := HBR.out.trans (hx2.mono HBR.out.size)
          have HB2 := Go.Lib.hid hb2
          clear hb2
          clear hx2
          go_wp2_with fail
          go_roundw
          case rel => exact ⟨k + 1, by go_num, by omega, by rw [HF.out], by rw [HF.out], HB2.out⟩
          case measure => simp [intOf]; omega
    · have hke : k = N := by omega
      have hlt2 : ¬ (k : Int) < (N : Int) := by omega
      subst hke
      rw [HALL.out]
      have HBR := Go.Lib.hid hbr
      clear hbr
      go_wp2_with fail
      go_ret2
      exact ⟨rfl, HBR.out⟩
/-- a tree whose zones' names are valid and all unlike -/
structure TRv (tb : Nat) (T : List Zn) (w : World) : Prop where
  t : TRo tb T w
  v : ∀ z ∈ T, Nm.valid z.nm = true
  d : (T.map fun z => Nm.foldN z.nm).Nodup
theorem TRv.below {tb : Nat} {T : List Zn} {w w' : World} (h : TRv tb T w) (hb : Below w.heap.size w w') : TRv tb T w' := ⟨h.t.below hb, h.v, h.d⟩
theorem zonesP_mem {T : List Zp} {x : List UInt8} : x ∈ zonesP T ↔ ∃ z ∈ T, x = Nm.foldN z.nm := by
  unfold zonesP namesP insAll
  rw [insAll_mem]
  simp only [List.not_mem_nil, or_false, List.mem_map, List.mem_filter, and_true]
  constructor
  · rintro ⟨z, hz, rfl⟩; exact ⟨z, hz, rfl⟩
  · rintro ⟨z, hz, rfl⟩; exact ⟨z, hz, rfl⟩
theorem zonesP_len {T : List Zn} (hd : (T.map fun z => Nm.foldN z.nm).Nodup) : (zonesP (T.map Zn.p)).length = T.length := by
  unfold zonesP namesP
  rw [List.filter_eq_self.2 (fun _ _ => rfl), List.map_map, insAll_nodup (by exact hd), List.length_map]
theorem best_find {T : List Zp} (hv : ∀ z ∈ T, Nm.valid z.nm = true) {n b : List UInt8} (h : bestP T n = (b, true)) : ∃ z, findP T b = some z := by
  have hb : b ∈ zonesP T := by
    unfold bestP at h
    rw [lonP_eq] at h
    rcases lon_good (n := n) (zonesP T) ([], false) with h1 | ⟨_, h2, _⟩
    · rw [h1] at h; simp at h
    · rw [h] at h2; exact h2
  obtain ⟨z, hz, rfl⟩ := zonesP_mem.1 hb
  have hvz := hv z hz
  cases hf : findP T (Nm.foldN z.nm) with
  | some y => exact ⟨y, rfl⟩
  | none =>
    unfold findP at hf
    have := List.find?_eq_none.1 hf z hz
    rw [Nm.foldN_valid hvz, Nm.same_foldB hvz] at this
    simp at this
theorem best_len {T : List Zn} {n : List UInt8} (hok : ∀ z ∈ T, ZnOk z) : (bestP (T.map Zn.p) n).1.length ≤ maxLen := by
  unfold bestP
  rw [← lonK_all]
  refine lonK_len (fun x hx => ?_) _
  obtain ⟨z, hz, rfl⟩ := zonesP_mem.1 hx
  obtain ⟨z', hz', rfl⟩ := List.mem_map.1 hz
  rw [Nm.foldN_length]
  exact (hok z' hz').nmM
theorem Best_any (tb : Nat) (T : List Zn) (n : List UInt8) (w : World) (ht : TRv tb T w) (hn : n.length ≤ maxLen) :
    Calls Tryz.prog 12 #[.pointer (some ⟨tb, 0, none⟩), .string (mk n)] w fun e w' => e = .returned (.tuple #[.string (mk (bestP (T.map Zn.p) n).1), .bool (bestP (T.map Zn.p) n).2]) ∧ Below w.heap.size w w' := by
  have hzs := Zones_any tb T w ht.t ht.v ht.d
  have hzl := zonesP_len ht.d
  have hlen := ht.t.len
  have hzm : ∀ x ∈ zonesP (T.map Zn.p), x.length ≤ maxLen := fun x hx => by
    obtain ⟨z, hz, rfl⟩ := zonesP_mem.1 hx
    obtain ⟨z', hz', rfl⟩ := List.mem_map.1 hz
    rw [Nm.foldN_length]
    exact (ht.t.ok z' hz').nmM
  have hlo := fun a cap W hst => Longest_any (zonesP (T.map Zn.p)) n a cap W hst (by omega) hzm hn
  have hdef : bestP (T.map Zn.p) n = longestP (zonesP (T.map Zn.p)) n := rfl
  rw [hdef]
  generalize longestP (zonesP (T.map Zn.p)) n = R at *
  generalize zonesP (T.map Zn.p) = Z at *
  clear hdef ht hzm hzl hlen
  have HZS := Go.Lib.hid hzs
  have HLO := Go.Lib.hid hlo
  clear hzs hlo
  go_enter Tryz.func12, Tryz.ntmps12
  go_wp2_with fail
  refine HZS.out.mono ?_; rintro e W1 ⟨v, rfl, hs, hb⟩
  have hsl : Strs W1 v Z := hs
  obtain ⟨a, c, rfl, _, _⟩ := SlC.slice hsl
  have h2 := HLO.out a c W1 hs
  have HB := Go.Lib.hid hb
  have H2 := Go.Lib.hid h2
  clear hb h2
  clear hs hsl
  go_wp2_with fail
  refine H2.out.mono ?_; rintro e W2 ⟨rfl, hx2⟩
  have hb2 := HB.out.trans (hx2.mono HB.out.size)
  have HB2 := Go.Lib.hid hb2
  clear hb2
  clear hx2
  go_wp2_with fail
  go_ret2
  exact ⟨rfl, HB2.out⟩
end Go.Proofs.YtkpcmnckdappnaaGreat

/- Tree: the contracts of last and Lookup. -/
namespace Go.Proofs.YtkpcmnckdappnaaGreat
open Go.RowKit Go.Sort Go.Lib Go.Maps
set_option maxRecDepth 100000
set_option linter.unusedVariables false
set_option linter.unusedSimpArgs false

/-! ### names that were met: a map to true -/
def metB (M : List (List UInt8)) : DataW Unit := M.foldl (fun m p => m.put (.string p) (.lit (.bool true))) (.map [])
theorem metB_snoc (M : List (List UInt8)) (k : List UInt8) : metB (M ++ [k]) = (metB M).put (.string k) (.lit (.bool true)) := by
  unfold metB
  rw [List.foldl_append]
  rfl
theorem snoc_rec' {α : Type} {P : List α → Prop} (h0 : P []) (h1 : ∀ l r, P l → P (l ++ [r])) (l : List α) : P l := by
  have h : ∀ l : List α, P l.reverse := by
    intro l
    induction l with
    | nil => exact h0
    | cons x l ih => rw [List.reverse_cons]; exact h1 _ _ ih
  have h := h l.reverse
  rwa [List.reverse_reverse] at h
theorem metB_isMap (M : List (List UInt8)) : IsMap (metB M) := by
  refine snoc_rec' (P := fun M => IsMap (metB M)) isMap_empty (fun M p ih => ?_) M
  rw [metB_snoc]
  exact ih.put _ _
theorem metB_look (M : List (List UInt8)) (k : List UInt8) : (metB M).atKey (.string k) (.lit (.bool false)) = .lit (.bool (M.contains k)) := by
  refine snoc_rec' (P := fun M => (metB M).atKey (.string k) (.lit (.bool false)) = .lit (.bool (M.contains k))) rfl (fun M k' ih => ?_) M
  rw [metB_snoc]
  by_cases h : k' = k
  · subst h
    rw [atKey_put_same (metB_isMap M) (show WideAt.IsKeyLit (.string k') from trivial) _ _]
    simp
  · have hne : Lit.string k ≠ Lit.string k' := fun e => h (by cases e; rfl)
    rw [atKey_put_other hne, ih]
    have : ¬ k = k' := fun e => h e.symm
    simp [this]
theorem law_strB : Keyed Tryz.prog 9 := string_keyed Tryz.underlying9
theorem zero_bool (w : World) : (zeroValue 4).run Tryz.prog w = .ok (.bool false) w := by kernel_rfl
theorem key_mkB (n : List UInt8) (h : n.length ≤ maxLen) : keyOf Tryz.prog 9 (.string (mk n)) = some (.string n) := by
  have := Go.WideMaps.keyOf_string_mk (P := Tryz.prog) Tryz.underlying9 (s := mk n) (by rw [size_mk]; exact h)
  rw [this]
  congr 2
theorem plainElem_bool_inv {H : Type} {P : Program} {e : TypeId} (he : P.underlying e = some .bool) {v : Value} {z : DataW H × List MemPlace} (h : plainElem P e v = some z) : ∃ a, v = .bool a ∧ z = (.lit (.bool a), []) := by
  unfold plainElem at h
  rw [he] at h
  cases v <;> simp at h
  exact ⟨_, rfl, h.symm⟩
/-- 'm[k]' at elements that are bools -/
theorem wpList_lookup_own_bool {H : Type} {P : Program} (w : World) {ops : Array Oper} {rest : List Oper} {o : Oper} {a : Act} {Q : Exit → Act → World → Prop}
    (hg : o.guard = none) (m x : Operand) (t : TypeId) (hop : o.op = Op.lookup t m x false)
    (k e : TypeId) (K : Keyed P k) (ht : P.underlying t = some (.map k e)) (he : P.underlying e = some .bool) (hz : (zeroValue e).run P w = .ok (.bool false) w) (b n : Nat) (D : DataW H)
    (hm : a.eval m = .map (some b)) (hown : w.ownsMap P k (plainElem P e) b n D) (key : Value) (kl : Lit) (hx : a.eval x = key) (hkey : keyOf P k key = some kl) (c : Bool) (hat : D.atKey kl (.lit (.bool false)) = .lit (.bool c))
    (hK : wpList P ops Q rest (a.put o.dst (.bool c)) w) :
    wpList P ops Q (o :: rest) a w := by
  refine wpList_plain hg fun K' hK' => ?_
  obtain ⟨v, ps, hrun, hv⟩ := hown.lookup K ht hz (plainElem_bool he false) hkey
  obtain ⟨c', rfl, hc⟩ := plainElem_bool_inv he hv
  simp only [Prod.mk.injEq] at hc
  rw [hat] at hc
  obtain ⟨hc, _⟩ := hc
  injection hc with hc
  injection hc with hc
  subst hc
  unfold Oper.wp
  simp [execOp, hop, hm, hx, hrun, Result.andThen]
  exact hK' _ _ hK
theorem ownsMap_below {H : Type} {P : Program} {k : TypeId} {R : Value → Option (DataW H × List MemPlace)} {w w' : World} {b n : Nat} {D : DataW H} (h : w.ownsMap P k R b n D) (hb : Below w.heap.size w w') : w'.ownsMap P k R b n D := by
  have hlt := h.lt
  obtain ⟨es, clock, hb', F, hs, hD⟩ := h
  exact ⟨es, clock, (hb.block b hlt).trans hb', F, hs, hD⟩

/-! ### last -/
set_option maxHeartbeats 8000000 in
theorem last_any (tb : Nat) (T : List Zn) (z : Zn) (b o : Nat) (n : List UInt8) (t c : Int) (v : Value) (an : List Rc.RR) (B : Nat) (w : World) (ht : TRo tb T w) (hz : ZP w b o z) (hzo : ZnOk z) (hn : n.length ≤ maxLen)
    (hv : w.ownsRow B 43 5 v an.length (encR an)) (hB : B ≤ w.heap.size) (ha : an.length ≤ 1000) :
    Calls Tryz.prog 39 #[.pointer (some ⟨tb, 0, none⟩), .pointer (some ⟨b, o, none⟩), qnV n t c, v] w fun e w' => ∃ v', e = .returned (.tuple #[.int .i64 (lastP (T.map Zn.p) z.p n t an).1, v']) ∧ w'.ownsRow B 43 5 v' (lastP (T.map Zn.p) z.p n t an).2.length (encR (lastP (T.map Zn.p) z.p n t an).2) ∧ Below B w w' := by
  obtain ⟨av, cv, rfl, _, _⟩ := (SlC.of_owns hv).slice
  have hof := fun W (h : Below w.heap.size w W) => of_any z b o n t W (hz.below h) hzo hn
  have hhs := fun W (h : Below w.heap.size w W) => has_any tb T z b o n W (ht.below h) (hz.below h) hzo hn
  have hgd := (ofP_good hzo n t).1
  have hdef : lastP (T.map Zn.p) z.p n t an = if (ofP z.p n t).length = 0 && !hasP (T.map Zn.p) z.p n then (3, an) else (0, an ++ ofP z.p n t) := rfl
  generalize lastP (T.map Zn.p) z.p n t an = R at *
  generalize hasP (T.map Zn.p) z.p n = hs at *
  generalize ofP z.p n t = O at *
  obtain ⟨X, hX⟩ : ∃ X, w.alloc (.cells #[.string (mk n), .int .i64 t, .int .i64 c] 29) = X := ⟨_, rfl⟩
  have gX : X.heap[w.heap.size]? = some (.cells #[.string (mk n), .int .i64 t, .int .i64 c] 29 (0, 0)) := by rw [← hX]; exact World.alloc_heap_new _ _
  have hbX : Below w.heap.size w X := by rw [← hX]; exact (Below.refl _ w).alloc (Nat.le_refl _) _
  have k0 : ∀ W, Below X.heap.size X W → W.cell? ⟨w.heap.size, 0, none⟩ = some (.string (mk n)) := fun W h => row_cell (heap_later h gX) 0 _ rfl
  have k1 : ∀ W, Below X.heap.size X W → W.cell? ⟨w.heap.size, 1, none⟩ = some (.int .i64 t) := fun W h => row_cell (heap_later h gX) 1 _ rfl
  have k0x := k0 X (Below.refl _ _)
  have k1x := k1 X (Below.refl _ _)
  have h1 := hof X hbX
  clear hof ht hz hzo gX
  generalize hAn : an.length = A at *
  generalize hOl : O.length = K at *
  have hO1 := one_rrs O
  have H1 := Go.Lib.hid h1
  have HHS := Go.Lib.hid hhs
  have HDEF := Go.Lib.hid hdef
  have HBX := Go.Lib.hid hbX
  have HV := Go.Lib.hid hv
  have HK0 := Go.Lib.hid k0
  have HK1 := Go.Lib.hid k1
  have HAN := Go.Lib.hid hAn
  have HOL := Go.Lib.hid hOl
  have HO1 := Go.Lib.hid hO1
  clear h1 hhs hdef hbX hv k0 k1 hAn hOl hO1
  go_enter Tryz.func39, Tryz.ntmps39
  go_wp2_with fail
  refine H1.out.mono ?_; rintro e W1 ⟨v1, rfl, hv1, hx1⟩
  rw [HOL.out] at hv1
  obtain ⟨a1, c1, rfl, _, _⟩ := (SlC.of_owns hv1).slice
  have hb1 := HBX.out.trans (hx1.mono HBX.out.size)
  have hw1 := owns_below HV.out hb1
  have k0y := HK0.out W1 hx1
  have hhs := HHS.out W1 hb1
  have hs1 := hb1.size
  have hbb1 := hb1.mono hB
  have hX1' := hx1.size
  clear k0x k1x hX hx1
  have HV1 := Go.Lib.hid hv1
  have HB1 := Go.Lib.hid hb1
  have HW1 := Go.Lib.hid hw1
  have HH2 := Go.Lib.hid hhs
  have HBB1 := Go.Lib.hid hbb1
  clear hv1 hb1 hw1 hhs hbb1
  by_cases hK : K = 0
  · subst hK
    have hO : O = [] := List.eq_nil_of_length_eq_zero HOL.out
    cases hs with
    | false =>
      have hR : R = (3, an) := by rw [HDEF.out]; rfl
      subst hR
      go_wp2_with fail
      refine HH2.out.mono ?_; rintro e W2 ⟨rfl, hx2⟩
      have hw2 := owns_below HW1.out hx2
      have hbb2 := HBB1.out.trans (hx2.mono (by omega))
      have HW2 := Go.Lib.hid hw2
      have HBB2 := Go.Lib.hid hbb2
      clear hw2 hbb2
      clear hx2 k0y
      go_wp2_with fail
      go_ret2
      exact ⟨_, rfl, by rw [HAN.out]; exact HW2.out, HBB2.out⟩
    | true =>
      have HR : Hid (R = (0, an ++ O)) := Go.Lib.hid (by rw [HDEF.out]; rfl)
      go_wp2_with fail
      refine HH2.out.mono ?_; rintro e W2 ⟨rfl, hx2⟩
      have hw2 := owns_below HW1.out hx2
      have hv2 := owns_below HV1.out hx2
      have hbb2 := HBB1.out.trans (hx2.mono (by omega))
      have hs2 := hx2.size
      have HW2 := Go.Lib.hid hw2
      have HBB2 := Go.Lib.hid hbb2
      have HV2 := Go.Lib.hid hv2
      clear hw2 hbb2 hv2
      clear hx2 k0y
      go_wp2_with (at_builtin; refine wpList_app eiRR (.tmp 29) (.tmp 30) rfl rfl B rfl rfl HW2.out (SlC.of_owns HV2.out) HO1.out (by unfold maxLen; omega) (by omega) (by omega) ?_; intro v7 W7 hown7 hg7; have HG7 := Go.Lib.hid hg7; have HOWN7 := Go.Lib.hid hown7; clear hg7 hown7)
      go_ret2
      have e1 : encR (an ++ O) = encR an ++ encR O := by unfold encR; rw [List.flatMap_append]
      refine ⟨v7, by rw [HR.out]; rfl, ?_, below_app HBB2.out HW2.out HG7.out (Nat.le_refl _) (by omega)⟩
      rw [HR.out]
      show W7.ownsRow B 43 5 v7 (an ++ O).length (encR (an ++ O))
      rw [List.length_append, HAN.out, HOL.out, e1]
      exact HOWN7.out
  · have hKb : ((K : Int) == 0) = false := beq_eq_false_iff_ne.2 (by omega)
    have HR : Hid (R = (0, an ++ O)) := Go.Lib.hid (by
      rw [HDEF.out]
      simp [hK])
    clear hK
    go_wp2_with (at_builtin; refine wpList_app eiRR (.tmp 29) (.tmp 30) rfl rfl B rfl rfl HW1.out (SlC.of_owns HV1.out) HO1.out (by unfold maxLen; omega) (by omega) (by omega) ?_; intro v7 W7 hown7 hg7; have HG7 := Go.Lib.hid hg7; have HOWN7 := Go.Lib.hid hown7; clear hg7 hown7)
    go_ret2
    have e1 : encR (an ++ O) = encR an ++ encR O := by unfold encR; rw [List.flatMap_append]
    refine ⟨v7, by rw [HR.out]; rfl, ?_, below_app HBB1.out HW1.out HG7.out (Nat.le_refl _) (by omega)⟩
    rw [HR.out]
    show W7.ownsRow B 43 5 v7 (an ++ O).length (encR (an ++ O))
    rw [List.length_append, HAN.out, HOL.out, e1]
    exact HOWN7.out

/-! ### Lookup -/
theorem lookG_no {T : List Zp} {t : Int} {k : Nat} {n b : List UInt8} {met : List (List UInt8)} {an : List Rc.RR} (h : bestP T n = (b, false)) : lookG T t (k + 1) n met an = (5, []) := by
  conv => lhs; unfold lookG
  rw [h]
theorem lookG_last {T : List Zp} {t : Int} {k : Nat} {n b : List UInt8} {z : Zp} {met : List (List UInt8)} {an : List Rc.RR} (h : bestP T n = (b, true)) (hf : findP T b = some z) (ho : t = 5 ∨ ofP z n 5 = []) : lookG T t (k + 1) n met an = lastP T z n t an := by
  conv => lhs; unfold lookG
  rw [h]
  simp only
  rw [hf]
  simp only
  rcases ho with ho | ho
  · cases ofP z n 5 with
    | nil => rfl
    | cons x xs => simp [ho]
  · rw [ho]
theorem lookG_x {T : List Zp} {t : Int} {k : Nat} {n b : List UInt8} {z : Zp} {met : List (List UInt8)} {an : List Rc.RR} {x : Rc.RR} {xs : List Rc.RR} (h : bestP T n = (b, true)) (hf : findP T b = some z) (h5 : ¬ t = 5) (ho : ofP z n 5 = x :: xs) :
    lookG T t (k + 1) n met an = if an.length = 8 then (2, []) else if (met ++ [Nm.foldN n]).contains (Nm.foldN (targP x.ty x.data).1) then (2, []) else lookG T t k (targP x.ty x.data).1 (met ++ [Nm.foldN n]) (an ++ [x]) := by
  conv => lhs; unfold lookG
  rw [h]
  simp only
  rw [hf]
  simp only
  rw [ho]
  simp only
  rw [if_neg h5]
/-- what Lookup has in hand -/
structure LK (B qb bm : Nat) (qn : List UInt8) (qt qc : Int) (v : Value) (an : List Rc.RR) (met : List (List UInt8)) (w : World) : Prop where
  qx : w.heap[qb]? = some (.cells #[.string (mk qn), .int .i64 qt, .int .i64 qc] 29 (0, 0))
  mp : w.ownsMap Tryz.prog 9 (plainElem Tryz.prog 4) bm met.length (metB met)
  own : w.ownsRow B 43 5 v an.length (encR an)
  le : B ≤ w.heap.size
theorem LK.below {B qb bm : Nat} {qn : List UInt8} {qt qc : Int} {v : Value} {an : List Rc.RR} {met : List (List UInt8)} {w w' : World} (h : LK B qb bm qn qt qc v an met w) (hb : Below w.heap.size w w') : LK B qb bm qn qt qc v an met w' :=
  ⟨heap_later hb h.qx, ownsMap_below h.mp hb, owns_below h.own hb, Nat.le_trans h.le hb.size⟩
theorem LK.upd {B qb bm : Nat} {qn f : List UInt8} {qt qc : Int} {v : Value} {an : List Rc.RR} {met : List (List UInt8)} {w w' : World} (h : LK B qb bm qn qt qc v an met w) (hq : qb < bm) (hb : bm < B)
    (hm : w'.ownsMap Tryz.prog 9 (plainElem Tryz.prog 4) bm (met.length + 1) ((metB met).put (.string f) (.lit (.bool true)))) (hg : w.grownBy w' (some bm)) : LK B qb bm qn qt qc v an (met ++ [f]) w' := by
  have hl := (Array.getElem?_eq_some_iff.1 h.qx).1
  refine ⟨(hg.block _ hl (fun e => by cases e; omega)).trans h.qx, ?_, h.own.kept hg (.inr (fun e => ?_)), Nat.le_trans h.le hg.size⟩
  · rw [List.length_append, metB_snoc]
    exact hm
  · have := (h.own.lt _ e).1
    omega
theorem LK.app {B qb bm : Nat} {qn : List UInt8} {qt qc : Int} {v v' : Value} {an : List Rc.RR} {x : Rc.RR} {met : List (List UInt8)} {w w' : World} (h : LK B qb bm qn qt qc v an met w) (hq : qb < B) (hb : bm < B)
    (ho : w'.ownsRow B 43 5 v' (an.length + 1) (encR (an ++ [x]))) (hg : w.grownBy w' v.ownBlock) : LK B qb bm qn qt qc v' (an ++ [x]) met w' := by
  have hl := (Array.getElem?_eq_some_iff.1 h.qx).1
  refine ⟨(hg.block _ hl (fun e => ?_)).trans h.qx, h.mp.kept hg (fun e => ?_), by rw [List.length_append]; exact ho, Nat.le_trans h.le hg.size⟩
  · have := (h.own.lt _ e.symm).1
    omega
  · have := (h.own.lt _ e.symm).1
    omega
set_option maxHeartbeats 16000000 in
theorem Lookup_any (tb : Nat) (T : List Zn) (q : Qn) (w : World) (ht : TRv tb T w) (hn : q.name.length ≤ maxLen) :
    Calls Tryz.prog 11 #[.pointer (some ⟨tb, 0, none⟩), qV q] w fun e w' => ∃ v, e = .returned (.tuple #[.int .i64 (lookP (T.map Zn.p) q.name q.ty).1, v]) ∧ RRs w' v (lookP (T.map Zn.p) q.name q.ty).2 ∧ Below w.heap.size w w' := by
  obtain ⟨qn, qt, qc⟩ := q
  simp only at hn ⊢
  have hmm := @run_makeMap Tryz.prog
  have hc0 : lookG (T.map Zn.p) qt 10 qn [] [] = lookP (T.map Zn.p) qn qt := rfl
  have hNo := fun k n b met an => lookG_no (T := T.map Zn.p) (t := qt) (k := k) (n := n) (b := b) (met := met) (an := an)
  have hLa := fun k n b z met an => lookG_last (T := T.map Zn.p) (t := qt) (k := k) (n := n) (b := b) (z := z) (met := met) (an := an)
  have hXx := fun k n b z met an x xs => lookG_x (T := T.map Zn.p) (t := qt) (k := k) (n := n) (b := b) (z := z) (met := met) (an := an) (x := x) (xs := xs)
  have hbe := fun n W (h : Below w.heap.size w W) (hl : n.length ≤ maxLen) => Best_any tb T n W (ht.below h) hl
  have hbl := fun n => best_len (n := n) ht.t.ok
  have hbf := fun n b => best_find (T := T.map Zn.p) (fun z hz => by obtain ⟨z', h1, rfl⟩ := List.mem_map.1 hz; exact ht.v z' h1) (n := n) (b := b)
  have hfi := fun b W (h : Below w.heap.size w W) (hl : b.length ≤ maxLen) => find_any tb T b W (ht.t.below h) hl
  have hla := fun z b o n v an B W (h : Below w.heap.size w W) hz hzo hl hv hB ha => last_any tb T z b o n qt 0 v an B W (ht.t.below h) hz hzo hl hv hB ha
  have hfo := fun nn W (hl : nn.length ≤ maxLen) => foldM nn W hl
  generalize lookP (T.map Zn.p) qn qt = R at *
  generalize T.map Zn.p = TP at *
  obtain ⟨X1, hX1⟩ : ∃ X, w.alloc (.cells #[.string (mk qn), .int .i64 qt, .int .i64 qc] 29) = X := ⟨_, rfl⟩
  obtain ⟨X, hX⟩ : ∃ X, X1.alloc (.map #[] 0) = X := ⟨_, rfl⟩
  have g1 : X1.heap[w.heap.size]? = some (.cells #[.string (mk qn), .int .i64 qt, .int .i64 qc] 29 (0, 0)) := by rw [← hX1]; exact World.alloc_heap_new _ _
  have b1 : Below w.heap.size w X1 := by rw [← hX1]; exact (Below.refl _ w).alloc (Nat.le_refl _) _
  have b2' : Below X1.heap.size X1 X := by rw [← hX]; exact (Below.refl _ X1).alloc (Nat.le_refl _) _
  have hX1w : X1.heap.size = w.heap.size + 1 := by rw [← hX1]; simp
  have hmp : X.ownsMap Tryz.prog 9 (plainElem Tryz.prog 4) (w.heap.size + 1) 0 (metB []) := by rw [← hX, ← hX1w]; exact World.ownsMap_made X1 Tryz.prog 9 (plainElem (H := Unit) Tryz.prog 4)
  have hXX : X.heap.size = X1.heap.size + 1 := by rw [← hX]; simp
  have hbX := b1.trans (b2'.mono b1.size)
  have k0x : X1.cell? ⟨w.heap.size, 0, none⟩ = some (.string (mk qn)) := row_cell g1 0 _ rfl
  have hlk : LK X.heap.size w.heap.size (w.heap.size + 1) qn qt qc (.slice none 0 0) [] [] X := ⟨heap_later b2' g1, hmp, World.ownsRow_nil _ _ _ _, Nat.le_refl _⟩
  clear ht g1 b1 b2' hmp
  have HC0 := Go.Lib.hid hc0
  have HNO := Go.Lib.hid hNo
  have HLA := Go.Lib.hid hLa
  have HXX := Go.Lib.hid hXx
  have HBE := Go.Lib.hid hbe
  have HBL := Go.Lib.hid hbl
  have HBF := Go.Lib.hid hbf
  have HFI := Go.Lib.hid hfi
  have HLAST := Go.Lib.hid hla
  have HFO := Go.Lib.hid hfo
  have HBX := Go.Lib.hid hbX
  have HLK := Go.Lib.hid hlk
  clear hc0 hNo hLa hXx hbe hbl hbf hfi hla hfo hbX hlk
  go_enter Tryz.func11, Tryz.ntmps11
  go_wp2_with fail
  go_loopw [5, 6] (fun v5 v6 wr => ∃ (k : Nat) (n : List UInt8) (met : List (List UInt8)) (an : List Rc.RR), v6 = .string (mk n) ∧ n.length ≤ maxLen ∧ an.length + k = 10 ∧ an.length ≤ 8 ∧ met.length = an.length ∧ lookG TP qt k n met an = R ∧ LK X.heap.size w.heap.size (w.heap.size + 1) qn qt qc v5 an met wr ∧ Below w.heap.size w wr) (fun v5 _ _ => 8 - lenV v5)
  case atStart => exact ⟨10, qn, [], [], rfl, hn, rfl, by decide, rfl, HC0.out, HLK.out, HBX.out⟩
  case round =>
    obtain ⟨k, n, met, an, rfl, hnl, hak, ha8, hml, hlg, hlk, hbr⟩ := hrel
    clear HLK HBX HC0 k0x hn hX hX1
    obtain ⟨k, rfl⟩ : ∃ j, k = j + 1 := ⟨k - 1, by omega⟩
    obtain ⟨av, cv, rfl, _, _⟩ := (SlC.of_owns hlk.own).slice
    generalize hAn : an.length = A at *
    have hbe := HBE.out n wr hbr hnl
    have hbl := HBL.out n
    have hbf := fun b => HBF.out n b
    have hno := fun b => HNO.out k n b met an
    generalize hBP : bestP TP n = bp at *
    obtain ⟨bn, bk⟩ := bp
    simp only at hbe hbl
    have HLK := Go.Lib.hid hlk
    have HBR := Go.Lib.hid hbr
    have HBE1 := Go.Lib.hid hbe
    have HBF1 := Go.Lib.hid hbf
    have HNO1 := Go.Lib.hid hno
    have HLG := Go.Lib.hid hlg
    have HAN := Go.Lib.hid hAn
    have HML := Go.Lib.hid hml
    have HBP := Go.Lib.hid hBP
    clear hlk hbr hbe hbf hno hlg hAn hml hBP
    go_wp2_with fail
    refine HBE1.out.mono ?_; rintro e W1 ⟨rfl, hx1⟩
    have hlk1 := HLK.out.below hx1
    have hb1 := HBR.out.trans (hx1.mono HBR.out.size)
    clear hx1 HLK HBR
    cases bk with
    | false =>
      have HFIN : Hid (R = (5, [])) := Go.Lib.hid (by rw [← HLG.out]; exact HNO1.out bn (by first | rfl | trivial))
      have HB1 := Go.Lib.hid hb1
      clear hb1
      go_wp2_with fail
      go_ret2
      exact ⟨_, by rw [HFIN.out]; rfl, by rw [HFIN.out]; exact SlC.nil _ _, HB1.out⟩
    | true =>
    obtain ⟨zp, hzp⟩ := HBF1.out bn (by first | rfl | trivial)
    have hfi := HFI.out bn W1 hb1 hbl
    rw [hzp] at hfi
    have HLK1 := Go.Lib.hid hlk1
    have HB1 := Go.Lib.hid hb1
    have HFI1 := Go.Lib.hid hfi
    have HZP0 := Go.Lib.hid hzp
    clear hlk1 hb1 hfi hzp
    go_wp2_with fail
    refine HFI1.out.mono ?_; rintro e W2 ⟨v2, rfl, hp2, hx2⟩
    obtain ⟨z, b, o, hzz, rfl, hz, hzo⟩ := hp2
    subst hzz
    have hlk2 := HLK1.out.below hx2
    have hb2 := HB1.out.trans (hx2.mono HB1.out.size)
    have hof := of_any z b o n 5 W2 hz hzo hnl
    obtain ⟨hol, hor⟩ := ofP_good hzo n 5
    generalize hO : ofP z.p n 5 = O at *
    clear hx2 HLK1 HB1
    have HLK2 := Go.Lib.hid hlk2
    have HB2 := Go.Lib.hid hb2
    have HOF := Go.Lib.hid hof
    have HZ := Go.Lib.hid hz
    have HZO := Go.Lib.hid hzo
    have HO := Go.Lib.hid hO
    have HOR := Go.Lib.hid hor
    clear hlk2 hb2 hof hz hzo hO hor
    go_wp2_with fail
    refine HOF.out.mono ?_; rintro e W3 ⟨v3, rfl, hv3, hx3⟩
    have hlk3 := HLK2.out.below hx3
    have hb3 := HB2.out.trans (hx3.mono HB2.out.size)
    have hz3 := HZ.out.below hx3
    have hap := owns_apart2 hv3 (Nat.le_refl _) HLK2.out.own
    have k1 : W3.cell? ⟨w.heap.size, 1, none⟩ = some (.int .i64 qt) := row_cell hlk3.qx 1 _ rfl
    obtain ⟨a3, c3, rfl, _, _⟩ := (SlC.of_owns hv3).slice
    have HLK2le := HLK2.out.le
    clear hx3 HLK2 HB2 HZ
    have HLK3 := Go.Lib.hid hlk3
    have HB3 := Go.Lib.hid hb3
    have HZ3 := Go.Lib.hid hz3
    have HV3 := Go.Lib.hid hv3
    have HAP := Go.Lib.hid hap
    clear hlk3 hb3 hz3 hv3 hap
    by_cases h5 : qt = 5
    · have HFIN : Hid (R = lastP TP z.p n qt an) := Go.Lib.hid (by rw [← HLG.out]; exact HLA.out k n bn z.p met an HBP.out HZP0.out (.inl h5))
      subst h5
      have h9 := HLAST.out z b o n (.slice av A cv) an X.heap.size W3 HB3.out HZ3.out HZO.out hnl HLK3.out.own HLK3.out.le (by rw [HAN.out]; omega)
      have H9 := Go.Lib.hid h9
      clear h9
      go_wp2_with fail
      refine H9.out.mono ?_; rintro e W9 ⟨v9, rfl, hv9, hx9⟩
      have hb9 := HB3.out.trans (hx9.mono (by omega))
      have HV9 := Go.Lib.hid hv9
      have HB9 := Go.Lib.hid hb9
      clear hv9 hb9
      clear hx9 k1
      go_wp2_with fail
      go_ret2
      exact ⟨_, by rw [HFIN.out]; rfl, by rw [HFIN.out]; exact SlC.of_owns HV9.out, HB9.out⟩
    · have h5b : (qt == 5) = false := beq_eq_false_iff_ne.2 h5
      cases O with
      | nil =>
        have HFIN : Hid (R = lastP TP z.p n qt an) := Go.Lib.hid (by rw [← HLG.out]; exact HLA.out k n bn z.p met an HBP.out HZP0.out (.inr HO.out))
        have h9 := HLAST.out z b o n (.slice av A cv) an X.heap.size W3 HB3.out HZ3.out HZO.out hnl HLK3.out.own HLK3.out.le (by rw [HAN.out]; omega)
        have H9 := Go.Lib.hid h9
        clear h9
        go_wp2_with fail
        refine H9.out.mono ?_; rintro e W9 ⟨v9, rfl, hv9, hx9⟩
        have hb9 := HB3.out.trans (hx9.mono (by omega))
        have HV9 := Go.Lib.hid hv9
        have HB9 := Go.Lib.hid hb9
        clear hv9 hb9
        clear hx9 k1
        go_wp2_with fail
        go_ret2
        exact ⟨_, by rw [HFIN.out]; rfl, by rw [HFIN.out]; exact SlC.of_owns HV9.out, HB9.out⟩
      | cons x xs =>
        have hstep := HXX.out k n bn z.p met an x xs HBP.out HZP0.out h5 HO.out
        rw [HLG.out, HAN.out] at hstep
        obtain ⟨xn, xt, xc, xl, xd⟩ := x
        have hx0 := HOR.out _ (List.mem_cons_self ..)
        have htl := targP_len hx0
        have htg := fun W => Target_any _ W hx0
        have hsnoc := encR_snoc an ⟨xn, xt, xc, xl, xd⟩
        have hon := one_rr ⟨xn, xt, xc, xl, xd⟩
        simp only at htl hsnoc hon hstep
        simp only [targV, rrV] at htg
        clear HO HOR HLA HXX
        generalize hXL : (⟨xn, xt, xc, xl, xd⟩ : Rc.RR) :: xs = XL at *
        have hKK : ∃ K, XL.length = K + 1 := ⟨xs.length, by rw [← hXL]; rfl⟩
        obtain ⟨K, hKK⟩ := hKK
        have hvr : RRs W3 (.slice a3 XL.length c3) XL := SlC.of_owns HV3.out
        obtain ⟨bx, ox, rfl, hbx, hcx⟩ := RRs.at hvr (by omega)
        have hv3 := HV3.out
        obtain ⟨_, hcap, _⟩ := SlC.cap hvr
        clear hvr HV3 hcx
        rw [hKK] at hv3 hol hcap HAP
        generalize XL.length = XN at *
        subst hKK
        generalize (targP xt xd).1 = n2 at *
        generalize (targP xt xd).2 = tok at *
        have hK1 : (((K + 1 : Nat) : Int) == 0) = false := beq_eq_false_iff_ne.2 (by omega)
        by_cases hA8 : A = 8
        · subst hA8
          have HFIN : Hid (R = (2, [])) := Go.Lib.hid hstep
          clear hstep
          go_wp2_with fail
          go_ret2
          exact ⟨_, by rw [HFIN.out]; rfl, by rw [HFIN.out]; exact SlC.nil _ _, HB3.out⟩
        · have hA8b : ((A : Int) == 8) = false := beq_eq_false_iff_ne.2 (by omega)
          rw [if_neg hA8] at hstep
          have HSTEP := Go.Lib.hid hstep
          have HTL := Go.Lib.hid htl
          have HTG := Go.Lib.hid htg
          have HON := Go.Lib.hid hon
          have HSN := Go.Lib.hid hsnoc
          have HXL := Go.Lib.hid hXL
          have HV3 := Go.Lib.hid hv3
          clear hstep htl htg hon hsnoc hXL hv3
          go_wp2_with fail
          refine (HFO.out n W3 hnl).mono ?_; rintro e W4 ⟨rfl, hx4⟩
          have hlk4 := HLK3.out.below hx4
          have hb4 := HB3.out.trans (hx4.mono HB3.out.size)
          have hv4 := owns_below HV3.out hx4
          have hkey := key_mkB (Nm.foldN n) (by rw [Nm.foldN_length]; exact hnl)
          have hle4 := hlk4.le
          have hmx : met.length < maxLen := by rw [HML.out]; unfold maxLen; omega
          have hw23 : X.heap.size ≤ W2.heap.size := HLK2le
          have HLK4 := Go.Lib.hid hlk4
          have HB4 := Go.Lib.hid hb4
          have HV4 := Go.Lib.hid hv4
          have HKEY := Go.Lib.hid hkey
          clear hlk4 hb4 hv4 hkey
          clear hx4 k1
          go_wp2_with (first | (at_mapUpdate; go_loud (refine wpList_mapUpdate_own _ rfl _ _ _ 74 rfl 9 4 law_strB Tryz.underlying74 (plainElem Tryz.prog 4) (w.heap.size + 1) met.length (metB met) rfl HLK4.out.mp hmx _ _ (.string (Nm.foldN n)) rfl rfl HKEY.out (.lit (.bool true)) [] (plainElem_bool Tryz.underlying4 true) ?_; intro W5 hm5 hg5; have hlk5 := (HLK4.out.upd (by omega) (by omega) hm5 hg5); have hb5 := HB4.out.grown hg5 (by omega) (fun k e => by cases e; omega); have hv5 := HV4.out.kept hg5 (.inr (fun e => by have := (HV4.out.lt _ e).1; omega)); obtain ⟨m0, m1, m2, m3, m4⟩ := first5 HXL.out hv5; have hsz5 := hg5.size; have hal5 : Below W5.heap.size W5 (W5.alloc (.cells #[.string (mk xn), .int .i64 xt, .int .i64 xc, .int .i64 xl, .string (mk xd)] 43)) := (Below.refl _ W5).alloc (Nat.le_refl _) _; have hlk6 := hlk5.below hal5; have hv6 := owns_below hv5 hal5; have hb6 := hb5.trans (hal5.mono hb5.size); have hsz6 := hal5.size; have hnc5 := new_cells W5 [.string (mk xn), .int .i64 xt, .int .i64 xc, .int .i64 xl, .string (mk xd)] 43; have HLK6 := Go.Lib.hid hlk6; have HV6 := Go.Lib.hid hv6; have HB6 := Go.Lib.hid hb6; have HNC5 := Go.Lib.hid hnc5; clear hm5 hg5 hlk5 hb5 hv5 hal5 hlk6 hv6 hb6 hnc5)) | (at_builtin; go_loud (refine wpList_app1 eiRR (.tmp 55) (.tmp 59) rfl rfl X.heap.size rfl rfl HLK6.out.own (news := [.string (mk xn), .int .i64 xt, .int .i64 xc, .int .i64 xl, .string (mk xd)]) rfl HNC5.out HON.out (by rw [HAN.out]; unfold maxLen; omega) (by rw [HAN.out]; omega) HLK6.out.le ?_; intro v7 W7 hown7 hg7 hsn7; obtain ⟨n0, n1, n2', n3, n4⟩ := first5 HXL.out (HV6.out.kept hg7 HAP.out); rw [← HSN.out] at hown7; have hlk7 := HLK6.out.app (by omega) (by omega) hown7 hg7; have hb7 := below_app HB6.out HLK6.out.own hg7 (by omega) (by omega); have HLK7 := Go.Lib.hid hlk7; have HB7 := Go.Lib.hid hb7; clear hown7 hg7 hsn7 hlk7 hb7)))
          refine (HTG.out _).mono ?_; rintro e W8 ⟨rfl, hx8⟩
          have hlk8 := HLK7.out.below hx8
          have hb8 := HB7.out.trans (hx8.mono HB7.out.size)
          have hkey2 := key_mkB (Nm.foldN n2) (by rw [Nm.foldN_length]; exact HTL.out)
          have hat := metB_look (met ++ [Nm.foldN n]) (Nm.foldN n2)
          have hst2 := HSTEP.out
          have hmp8 := hlk8.mp
          have hfo2 := fun W => HFO.out n2 W HTL.out
          obtain ⟨ae, ce, hae, _, _⟩ := (SlC.of_owns hlk8.own).slice
          subst hae
          clear hx8 n0 n1 n2' n3 n4 m0 m1 m2 m3 m4 HLK7 HB7 HSTEP HFO
          generalize Nm.foldN n2 = f2 at *
          generalize hcc : (met ++ [Nm.foldN n]).contains f2 = cc at *
          have HLK8 := Go.Lib.hid hlk8
          have HB8 := Go.Lib.hid hb8
          have HKEY2 := Go.Lib.hid hkey2
          have HAT := Go.Lib.hid hat
          have HFO2 := Go.Lib.hid hfo2
          have HCC := Go.Lib.hid hcc
          clear hlk8 hb8 hkey2 hat hfo2 hcc
          clear hmp8
          go_wp2_with fail
          refine (HFO2.out _).mono ?_; rintro e W9 ⟨rfl, hx9⟩
          have hlk9 := HLK8.out.below hx9
          have hb9 := HB8.out.trans (hx9.mono HB8.out.size)
          have HLK9 := Go.Lib.hid hlk9
          have HB9 := Go.Lib.hid hb9
          clear hlk9 hb9
          clear hx9
          cases cc with
          | true =>
            have HFIN : Hid (R = (2, [])) := Go.Lib.hid (by rw [hst2]; rfl)
            clear hst2
            go_wp2_with (at_lookup; go_loud (refine wpList_lookup_own_bool _ rfl _ _ 74 rfl 9 4 law_strB Tryz.underlying74 Tryz.underlying4 (zero_bool _) (w.heap.size + 1) _ _ rfl HLK9.out.mp _ _ rfl HKEY2.out true HAT.out ?_))
            go_ret2
            exact ⟨_, by rw [HFIN.out]; rfl, by rw [HFIN.out]; exact SlC.nil _ _, HB9.out⟩
          | false =>
            have hst3 : R = lookG TP qt k n2 (met ++ [Nm.foldN n]) (an ++ [⟨xn, xt, xc, xl, xd⟩]) := hst2
            clear hst2
            have HST3 := Go.Lib.hid hst3
            clear hst3
            go_wp2_with (at_lookup; go_loud (refine wpList_lookup_own_bool _ rfl _ _ 74 rfl 9 4 law_strB Tryz.underlying74 Tryz.underlying4 (zero_bool _) (w.heap.size + 1) _ _ rfl HLK9.out.mp _ _ rfl HKEY2.out false HAT.out ?_))
            go_simp
            have hlkF := HLK9.out
            rw [hXX, hX1w] at hlkF
            simp only [List.length_append, List.length_singleton] at hlkF
            refine ⟨⟨u4, _, _, ⟨k, n2, rfl, HTL.out, met ++ [Nm.foldN n], an ++ [⟨xn, xt, xc, xl, xd⟩], by rw [List.length_append, HAN.out]; simp; omega, by rw [List.length_append, HAN.out]; simp; omega, by rw [List.length_append, List.length_append, HML.out, HAN.out]; rfl, HST3.out.symm, hlkF, HB9.out⟩, rfl, rfl, rfl⟩, ?_⟩
            simp only [lenV]
            rw [HAN.out]
            omega
end Go.Proofs.YtkpcmnckdappnaaGreat

/- The contracts of the reference's end, Parts: where names stand in data, by trying. -/
namespace Go.Proofs.YtkpcmnckdappnaaGreat
open Go.RowKit
set_option linter.unusedVariables false

theorem lead_none {s : List UInt8} {q : Nat} (h : ∀ m, 1 ≤ m → m ≤ q → Nm.valid (s.take m) = false) (hq : 255 ≤ q ∨ s.length ≤ q) : Nm.lead s = none := by
  cases hl : Nm.lead s with
  | none => rfl
  | some n =>
    obtain ⟨h1, h2, h3⟩ := Nm.lead_le hl
    have h4 := Rc.lead_take hl
    rw [h n h1 (by omega)] at h4
    cases h4

/-- where a name that begins at a place ends -/
def endV (d : List UInt8) (at_ : Nat) : Value := match Nm.lead (d.drop at_) with
  | some n => .tuple #[.int .i64 ((at_ + n : Nat) : Int), .bool true]
  | none => .tuple #[.int .i64 0, .bool false]
theorem endV_none {d : List UInt8} {at_ : Nat} (h : Nm.lead (d.drop at_) = none) : endV d at_ = .tuple #[.int .i64 0, .bool false] := by unfold endV; rw [h]
theorem endV_some {d : List UInt8} {at_ k : Nat} (h : Nm.lead (d.drop at_) = some (k + 1 - at_)) (hk : at_ ≤ k) : endV d at_ = .tuple #[.int .i64 ((k : Int) + 1), .bool true] := by
  unfold endV
  rw [h]
  simp only
  congr 4
  omega

set_option maxRecDepth 100000 in
set_option maxHeartbeats 1000000 in
theorem end_any (s : ByteArray) (at_ : Nat) (w : World) (hs : s.size ≤ maxLen) (ha : at_ ≤ 2000) :
    Calls Tryz.prog 107 #[.string s, .int .i64 at_] w fun e w' => e = .returned (endV (bl s) at_) ∧ Below w.heap.size w w' := by
  have HB := Go.Lib.hid (Below.refl w.heap.size w)
  have hl := size_bl s
  unfold maxLen at hs
  have HL := Go.Lib.hid hl
  clear hl
  go_enter Tryz.func107, Tryz.ntmps107
  go_wp2_with fail
  go_loopw [6] (fun i wr => ∃ k : Nat, i = .int .i64 k ∧ at_ ≤ k ∧ k ≤ at_ + 256 ∧ (∀ m, 1 ≤ m → m ≤ k - at_ → Nm.valid (((bl s).drop at_).take m) = false) ∧ Below w.heap.size w wr) (fun i _ => s.size - (intOf i).toNat)
  case atStart => exact ⟨at_, rfl, Nat.le_refl _, by omega, fun m h1 h2 => by omega, HB.out⟩
  case round =>
    obtain ⟨k, rfl, hk1, hk2, hall, hbr⟩ := hrel
    clear HB
    have HALL := Go.Lib.hid hall
    have HB := Go.Lib.hid hbr
    clear hall hbr
    by_cases hlt : k < s.size
    · have hx : s.extract at_ (k + 1) = mk (((bl s).drop at_).take (k + 1 - at_)) := by
        apply bl_inj
        rw [bl_extract, bl_mk]
      have hv := fun w => refValid_any (mk (((bl s).drop at_).take (k + 1 - at_))) w
      rw [bl_mk] at hv
      have i1 : (at_ : Int) ≤ (k : Int) + 1 := by omega
      have i2 : (k : Int) + 1 ≤ (s.size : Int) := by omega
      have HX := Go.Lib.hid hx
      clear hx
      cases hvb : Nm.valid (((bl s).drop at_).take (k + 1 - at_)) with
      | true =>
        have hld := Rc.take_lead (s := (bl s).drop at_) (m := k + 1 - at_) (by rw [List.length_drop, ← HL.out]; omega) hvb
        have hfin := Go.Lib.hid (endV_some hld hk1)
        rw [hvb] at hv
        have HV := Go.Lib.hid hv
        clear hv
        clear hvb hld
        go_wp2_with fail
        rw [HX.out]
        refine (HV.out _).mono ?_; rintro e wb ⟨rfl, hx⟩
        have HB2 := Go.Lib.hid hx
        clear hx
        go_wp2_with fail
        go_ret2
        exact ⟨congrArg Ending.returned hfin.out.symm, HB.out.trans (HB2.out.mono HB.out.size)⟩
      | false =>
        have hall2 : ∀ m, 1 ≤ m → m ≤ k + 1 - at_ → Nm.valid (((bl s).drop at_).take m) = false := fun m h1 h2 => by
          by_cases h3 : m ≤ k - at_
          · exact HALL.out m h1 h3
          · obtain rfl : m = k + 1 - at_ := by omega
            exact hvb
        rw [hvb] at hv
        have HV := Go.Lib.hid hv
        clear hv
        clear hvb
        by_cases hbig : 255 < k - at_
        · have hfin := Go.Lib.hid (endV_none (lead_none hall2 (.inl (by omega))))
          clear hall2
          go_wp2_with fail
          rw [HX.out]
          refine (HV.out _).mono ?_; rintro e wb ⟨rfl, hx⟩
          have HB2 := Go.Lib.hid hx
          clear hx
          go_wp2_with fail
          go_ret2
          exact ⟨congrArg Ending.returned hfin.out.symm, HB.out.trans (HB2.out.mono HB.out.size)⟩
        · have HALL2 := Go.Lib.hid hall2
          clear hall2
          go_wp2_with fail
          rw [HX.out]
          refine (HV.out _).mono ?_; rintro e wb ⟨rfl, hx⟩
          have HB2 := Go.Lib.hid hx
          clear hx
          go_wp2_with fail
          go_roundw
          case rel => exact ⟨k + 1, by go_num, by omega, by omega, HALL2.out, HB.out.trans (HB2.out.mono HB.out.size)⟩
          case measure => simp [intOf]; omega
    · have hfin := Go.Lib.hid (endV_none (lead_none HALL.out (.inr (by rw [List.length_drop, ← HL.out]; omega))))
      go_wp2_with fail
      go_ret2
      exact ⟨congrArg Ending.returned hfin.out.symm, HB.out⟩

/-! ### plain: how the parts go on -/
theorem partsN_shape {t : Int} {a m b : Nat} {d : List UInt8} (h : Rc.shape t = some (a, m, b)) (hm : 1 ≤ m) (hl : d.length ≤ 1000) :
    (Rc.names d a m = none → Rc.partsN t d = none) ∧ (∀ l e, Rc.names d a m = some (l, e) → e ≤ d.length ∧ (e + b = d.length → Rc.partsN t d = some l) ∧ (¬ e + b = d.length → Rc.partsN t d = none)) := by
  have ht : ¬ t = 1 ∧ ¬ t = 28 ∧ ¬ t = 16 := by
    refine ⟨?_, ?_, ?_⟩ <;> (rintro rfl; simp [Rc.shape] at h)
  have hd : Rc.dataB t d = (Rc.placesP t d).2 := by
    unfold Rc.dataB
    rw [if_neg (by omega), if_neg ht.1, if_neg ht.2.1, if_neg ht.2.2]
  by_cases hs : d.length < a
  · have hp : Rc.placesP t d = ([], false) := by unfold Rc.placesP; rw [h]; simp only; rw [if_pos hs]
    have hn : Rc.names d a m = none := by
      refine Rc.names_none (m := 1) ?_ hm
      rw [Rc.names_succ (show Rc.names d a 0 = some ([], a) from rfl), List.drop_of_length_le (by omega)]
      rfl
    rw [hn]
    refine ⟨fun _ => Rc.partsN_none (by rw [hd, hp]), fun l e h => by cases h⟩
  · obtain ⟨h1, h2⟩ := placesP_eq h hs
    refine ⟨fun hn => Rc.partsN_none (by rw [hd, h1 hn]), fun l e hn => ?_⟩
    have hp := h2 l e hn
    have hle := (Rc.names_chain (by omega) m l e hn).2.2.1
    refine ⟨hle, fun he => ?_, fun he => ?_⟩
    · rw [Rc.partsN_some (by rw [hd, hp]; simp; omega), hp]
    · exact Rc.partsN_none (by rw [hd, hp]; simp; omega)
theorem partsN_flat {t : Int} {d : List UInt8} {b : Bool} (h : Rc.shape t = none) (hd : Rc.dataB t d = b) : Rc.partsN t d = if b then some [] else none := by
  cases b with
  | true =>
    rw [Rc.partsN_some hd]
    unfold Rc.placesP
    rw [h]
    rfl
  | false => rw [Rc.partsN_none hd]; rfl

/-! ### Parts -/
theorem infoPt : (Tryz.prog.info? 135).map (fun i => (i.zero, i.size, i.bytes)) = some (some (.agg #[.int .i64 0, .int .i64 0]), 2, 16) := by kernel_rfl
theorem eiPt : EI Tryz.prog 124 135 2 16 := ei_of Tryz.underlying124 infoPt rfl (by decide)
/-- parts, or none, in new memory -/
def RetParts (w : World) (o : Option (List (Nat × Nat))) (e : Ending) (w' : World) : Prop := ∃ v, e = .returned (.tuple #[v, .bool o.isSome]) ∧ Pairs w' v (o.getD []) ∧ Below w.heap.size w w'
theorem retParts_none {w w' : World} {o : Option (List (Nat × Nat))} (h : o = none) (hb : Below w.heap.size w w') : RetParts w o (.returned (.tuple #[.slice none 0 0, .bool false])) w' := by
  subst h; exact ⟨_, rfl, SlC.nil _ _, hb⟩
theorem retParts_flat {w w' : World} {o : Option (List (Nat × Nat))} {b : Bool} (h : o = if b then some [] else none) (hb : Below w.heap.size w w') : RetParts w o (.returned (.tuple #[.slice none 0 0, .bool b])) w' := by
  subst h; cases b <;> exact ⟨_, rfl, SlC.nil _ _, hb⟩
theorem retParts_some {w w' : World} {o : Option (List (Nat × Nat))} {v : Value} {l : List (Nat × Nat)} (h : o = some l) (ho : w'.ownsRow w.heap.size 135 2 v l.length (encP l)) (hb : Below w.heap.size w w') : RetParts w o (.returned (.tuple #[v, .bool true])) w' := by
  subst h; exact ⟨_, rfl, SlC.of_owns ho, hb⟩

set_option maxRecDepth 100000 in
set_option maxHeartbeats 4000000 in
theorem Parts_big (t : Int) (s : ByteArray) (w : World) (h : 1000 < s.size) :
    Calls Tryz.prog 99 #[.int .i64 t, .string s] w (RetParts w (Rc.partsN t (bl s))) := by
  have hl := size_bl s
  have hfin : Hid (Rc.partsN t (bl s) = none) := Go.Lib.hid (Rc.partsN_none (by unfold Rc.dataB; rw [if_pos (by omega)]))
  clear hl
  go_enter Tryz.func99, Tryz.ntmps99
  go_wp2_with fail
  go_ret2
  exact retParts_none hfin.out (Below.refl _ _)

set_option maxRecDepth 100000 in
set_option maxHeartbeats 4000000 in
theorem Parts_fix (t : Int) (s : ByteArray) (w : World) (h : s.size ≤ 1000) (ht : t = 1 ∨ t = 28) :
    Calls Tryz.prog 99 #[.int .i64 t, .string s] w (RetParts w (Rc.partsN t (bl s))) := by
  have hl := size_bl s
  rcases ht with rfl | rfl
  · have hfin : Hid (Rc.partsN 1 (bl s) = if ((s.size : Int) == 4) then some [] else none) := Go.Lib.hid (partsN_flat rfl (by unfold Rc.dataB; rw [if_neg (by omega), if_pos rfl, Bool.eq_iff_iff, decide_eq_true_eq, beq_iff_eq]; omega))
    clear hl
    go_enter Tryz.func99, Tryz.ntmps99
    go_wp2_with fail
    go_ret2
    exact retParts_flat hfin.out (Below.refl _ _)
  · have hfin : Hid (Rc.partsN 28 (bl s) = if ((s.size : Int) == 16) then some [] else none) := Go.Lib.hid (partsN_flat rfl (by unfold Rc.dataB; rw [if_neg (by omega), if_neg (by omega), if_pos rfl, Bool.eq_iff_iff, decide_eq_true_eq, beq_iff_eq]; omega))
    clear hl
    go_enter Tryz.func99, Tryz.ntmps99
    go_wp2_with fail
    go_ret2
    exact retParts_flat hfin.out (Below.refl _ _)

set_option maxRecDepth 100000 in
set_option maxHeartbeats 4000000 in
theorem Parts_none (t : Int) (s : ByteArray) (w : World) (h : s.size ≤ 1000) (h1 : ¬ t = 1) (h2 : ¬ t = 28) (h3 : ¬ t = 16) (hs : Rc.shape t = none) :
    Calls Tryz.prog 99 #[.int .i64 t, .string s] w (RetParts w (Rc.partsN t (bl s))) := by
  have hl := size_bl s
  have hfin : Hid (Rc.partsN t (bl s) = some []) := Go.Lib.hid (partsN_flat (b := true) hs (by unfold Rc.dataB Rc.placesP; rw [if_neg (by omega), if_neg h1, if_neg h2, if_neg h3, hs]))
  have h4 : ¬ (t = 2 ∨ t = 5 ∨ t = 12) ∧ ¬ t = 15 ∧ ¬ t = 33 ∧ ¬ t = 6 := by
    unfold Rc.shape at hs
    repeat' split at hs
    all_goals first | (refine ⟨?_, ?_, ?_, ?_⟩ <;> assumption) | cases hs
  have b1 : (t == 1) = false := beq_eq_false_iff_ne.2 h1
  have b2 : (t == 28) = false := beq_eq_false_iff_ne.2 h2
  have b3 : (t == 16) = false := beq_eq_false_iff_ne.2 h3
  have b4 : (t == 15) = false := beq_eq_false_iff_ne.2 h4.2.1
  have b5 : (t == 33) = false := beq_eq_false_iff_ne.2 h4.2.2.1
  have b6 : (t == 6) = false := beq_eq_false_iff_ne.2 h4.2.2.2
  have b7 : (t == 2) = false := beq_eq_false_iff_ne.2 (by omega)
  have b8 : (t == 5) = false := beq_eq_false_iff_ne.2 (by omega)
  have b9 : (t == 12) = false := beq_eq_false_iff_ne.2 (by omega)
  clear hl h1 h2 h3 h4 hs
  go_enter Tryz.func99, Tryz.ntmps99
  go_wp2_with fail
  go_ret2
  exact retParts_flat (b := true) hfin.out (Below.refl _ _)

theorem textsB_ne {d : List UInt8} (h : 0 < d.length) : Rc.textsB d = Rc.textsF d := by
  cases d with
  | nil => simp at h
  | cons c r => rfl
theorem drop_get {d : List UInt8} {k : Nat} (h : k < d.length) : d.drop k = d.getD k 0 :: d.drop (k + 1) := by
  rw [List.drop_eq_getElem_cons h]
  simp [List.getD_eq_getElem?_getD, h]

set_option maxRecDepth 100000 in
set_option maxHeartbeats 4000000 in
theorem Parts_txt (s : ByteArray) (w : World) (h : s.size ≤ 1000) :
    Calls Tryz.prog 99 #[.int .i64 16, .string s] w (RetParts w (Rc.partsN 16 (bl s))) := by
  have hl := size_bl s
  have hfin : Hid (∀ b, Rc.textsB (bl s) = b → Rc.partsN 16 (bl s) = if b then some [] else none) := Go.Lib.hid (fun b hb => partsN_flat rfl (by unfold Rc.dataB; rw [if_neg (by omega), if_neg (by omega), if_neg (by omega), if_pos rfl]; exact hb))
  generalize Rc.partsN 16 (bl s) = res at *
  have HL := Go.Lib.hid hl
  clear hl
  go_enter Tryz.func99, Tryz.ntmps99
  go_wp2_with fail
  go_loopw [9] (fun i wr => wr = w ∧ ∃ k : Nat, i = .int .i64 k ∧ k ≤ s.size + 300 ∧ (k ≤ s.size → Rc.textsF ((bl s).drop k) = Rc.textsF (bl s)) ∧ (s.size < k → Rc.textsF (bl s) = false)) (fun i _ => s.size - (intOf i).toNat)
  case atStart => exact ⟨rfl, 0, rfl, by omega, fun _ => rfl, fun h => by omega⟩
  case round =>
    obtain ⟨rfl, k, rfl, hk, hk1, hk2⟩ := hrel
    by_cases hlt : k < s.size
    · have hd := drop_get (d := bl s) (k := k) (by rw [← HL.out]; exact hlt)
      have hx : s[k] = (bl s).getD k 0 := by rw [get_bl]; simp [List.getD_eq_getElem?_getD, ← HL.out, hlt]
      have hcs := Rc.textsF_cons ((bl s).getD k 0) ((bl s).drop (k + 1))
      rw [← hd, hk1 (by omega), List.length_drop, ← HL.out, List.drop_drop] at hcs
      generalize (bl s).getD k 0 = c at *
      have hcb := c.toNat_lt
      have n1 : k + 1 + c.toNat ≤ s.size → Rc.textsF ((bl s).drop (k + 1 + c.toNat)) = Rc.textsF (bl s) := fun h => by
        rw [if_neg (by omega)] at hcs
        rw [hcs]
      have n2 : s.size < k + 1 + c.toNat → Rc.textsF (bl s) = false := fun h => by
        rw [if_pos (by omega)] at hcs
        exact hcs
      have N1 := Go.Lib.hid n1
      have N2 := Go.Lib.hid n2
      clear n1 n2
      clear hcs hd hk1 hk2
      go_wp2_with fail
      go_roundw
      case rel => exact ⟨trivial, k + 1 + c.toNat, by go_num, by omega, N1.out, N2.out⟩
      case measure => simp [intOf]; omega
    · by_cases h0 : s.size = 0
      · have hb : Rc.textsB (bl s) = false := by
          have : bl s = [] := List.eq_nil_of_length_eq_zero (by rw [← HL.out]; exact h0)
          rw [this]; rfl
        have hres := Go.Lib.hid (hfin.out _ hb)
        clear hb hk1 hk2
        go_wp2_with fail
        go_ret2
        exact retParts_flat (b := false) hres.out (Below.refl _ _)
      · have hb := textsB_ne (d := bl s) (by rw [← HL.out]; omega)
        have hv : Rc.textsB (bl s) = ((k : Int) == (s.size : Int)) := by
          rw [hb]
          by_cases he : k = s.size
          · have := hk1 (by omega)
            rw [List.drop_of_length_le (by rw [← HL.out]; omega)] at this
            rw [← this, he, beq_self_eq_true]
            rfl
          · rw [hk2 (by omega)]
            symm
            rw [beq_eq_false_iff_ne]
            omega
        have hres := Go.Lib.hid (hfin.out _ hv)
        clear hb hk1 hk2 hv
        go_wp2_with fail
        go_ret2
        exact retParts_flat hres.out (Below.refl _ _)

set_option maxRecDepth 100000 in
set_option maxHeartbeats 4000000 in
theorem Parts_2 (s : ByteArray) (w : World) (h : s.size ≤ 1000) :
    Calls Tryz.prog 99 #[.int .i64 2, .string s] w (RetParts w (Rc.partsN 2 (bl s))) := by
  have hl := size_bl s
  obtain ⟨hfn, hfs⟩ := partsN_shape (t := 2) (a := 0) (m := 1) (b := 0) rfl (d := bl s) (by omega) (by omega)
  have hen : ∀ at_ : Nat, at_ ≤ 2000 → ∀ w, Calls Tryz.prog 107 #[.string s, .int .i64 at_] w fun e w' => e = .returned (endV (bl s) at_) ∧ Below w.heap.size w w' := fun at_ hat w => end_any s at_ w (by unfold maxLen; omega) hat
  have hnn : ∀ k, Rc.names (bl s) 0 k = none → k ≤ 1 → Rc.names (bl s) 0 1 = none := fun k h1 h2 => Rc.names_none h1 h2
  have HFN := Go.Lib.hid hfn
  have HFS := Go.Lib.hid hfs
  have HEN := Go.Lib.hid hen
  have HL := Go.Lib.hid hl
  have HNN := Go.Lib.hid hnn
  clear hfn hfs hen hl hnn
  generalize Rc.partsN 2 (bl s) = res at *
  go_enter Tryz.func99, Tryz.ntmps99
  go_wp2_with fail
  go_loopw [10, 11, 12] (fun v at_ i wr => ∃ (k at0 : Nat) (l : List (Nat × Nat)), i = .int .i64 k ∧ k ≤ 1 ∧ at_ = .int .i64 at0 ∧ at0 ≤ 1010 ∧ l.length ≤ k ∧ Rc.names (bl s) 0 k = some (l, at0) ∧ wr.ownsRow w.heap.size 135 2 v l.length (encP l) ∧ Below w.heap.size w wr) (fun _ _ i _ => 1 - (intOf i).toNat)
  case atStart => exact ⟨0, 0, [], rfl, by omega, rfl, by omega, by simp, rfl, World.ownsRow_nil _ _ _ _, Below.refl _ _⟩
  case round =>
    obtain ⟨k, at0, l, rfl, hk, rfl, hat, hlk, hnm, hown, hbel⟩ := hrel
    have hbz := hbel.size
    have HNM := Go.Lib.hid hnm
    have HO := Go.Lib.hid hown
    have HB := Go.Lib.hid hbel
    clear hnm hown hbel
    by_cases hlt : k < 1
    · have hld := HEN.out at0 (by omega)
      have hstep := Rc.names_succ HNM.out
      cases hlq : Nm.lead ((bl s).drop at0) with
      | none =>
        have hv : endV (bl s) at0 = .tuple #[.int .i64 0, .bool false] := endV_none hlq
        rw [hlq] at hstep
        have hnone : Hid (res = none) := Go.Lib.hid (HFN.out (HNN.out _ hstep (by omega)))
        rw [hv] at hld
        have HLD := Go.Lib.hid hld
        clear hld
        clear hlq hstep hv
        go_wp2_with fail
        refine (HLD.out _).mono ?_; rintro e wb ⟨rfl, hx⟩
        have HB2 := Go.Lib.hid hx
        clear hx
        go_wp2_with fail
        go_ret2
        exact retParts_none hnone.out (HB.out.trans (HB2.out.mono HB.out.size))
      | some n =>
        have hv : endV (bl s) at0 = .tuple #[.int .i64 ((at0 + n : Nat) : Int), .bool true] := by unfold endV; rw [hlq]
        rw [hlq] at hstep
        simp only at hstep
        have hle := Nm.lead_le hlq
        rw [List.length_drop, ← HL.out] at hle
        rw [hv] at hld
        have HLD := Go.Lib.hid hld
        have HST := Go.Lib.hid hstep
        clear hld hstep
        clear hlq hv
        go_wp2_with fail
        refine (HLD.out _).mono ?_; rintro e wb ⟨rfl, hx⟩
        have hown := owns_below HO.out hx
        have hb := HB.out.trans (hx.mono hbz)
        have hbz2 := hb.size
        have HO2 := Go.Lib.hid hown
        have HB2 := Go.Lib.hid hb
        clear hown hb
        clear hx
        have hsub : (at0 : Int) + (n : Int) - (at0 : Int) = (n : Int) := by omega
        have hsub2 : ((at0 + n : Nat) : Int) - (at0 : Int) = (n : Int) := by omega
        go_wp2_with (at_builtin; refine wpList_app eiPt (.tmp 75) (.tmp 81) rfl rfl w.heap.size rfl rfl (HO2.out.alloc _) (slc_new _ 2 1 135 [.int .i64 (at0 : Int), .int .i64 (n : Int)] rfl (by decide)) (one_pair at0 n) (by unfold maxLen; omega) (by omega) (by simp; omega) ?_; intro v1 w1 hown1 hg1)
        go_roundw
        case rel => exact ⟨k + 1, at0 + n, l ++ [(at0, n)], by go_num, by omega, by go_num, by omega, by simp; omega, HST.out, by rw [List.length_append, encP_snoc]; exact hown1, below_app (HB2.out.alloc hbz2 _) (HO2.out.alloc _) hg1 (Nat.le_refl _) (by simp; omega)⟩
        case measure => simp [intOf]; omega
    · obtain rfl : k = 1 := by omega
      obtain ⟨q1, q2, q3⟩ := HFS.out _ _ HNM.out
      rw [← HL.out] at q1 q2 q3
      by_cases hz : at0 + 0 = s.size
      · have hres := Go.Lib.hid (q2 hz)
        clear q2 q3
        have hz2 : (at0 : Int) + 0 = (s.size : Int) := by omega
        try simp only [Int.add_zero] at hz2
        clear hz
        go_wp2_with fail
        go_ret2
        exact retParts_some hres.out HO.out HB.out
      · have hres := Go.Lib.hid (q3 hz)
        clear q2 q3
        have hz2 : ¬ (at0 : Int) + 0 = (s.size : Int) := by omega
        try simp only [Int.add_zero] at hz2
        clear hz
        go_wp2_with fail
        go_ret2
        exact retParts_none hres.out HB.out
set_option maxRecDepth 100000 in
set_option maxHeartbeats 4000000 in
theorem Parts_5 (s : ByteArray) (w : World) (h : s.size ≤ 1000) :
    Calls Tryz.prog 99 #[.int .i64 5, .string s] w (RetParts w (Rc.partsN 5 (bl s))) := by
  have hl := size_bl s
  obtain ⟨hfn, hfs⟩ := partsN_shape (t := 5) (a := 0) (m := 1) (b := 0) rfl (d := bl s) (by omega) (by omega)
  have hen : ∀ at_ : Nat, at_ ≤ 2000 → ∀ w, Calls Tryz.prog 107 #[.string s, .int .i64 at_] w fun e w' => e = .returned (endV (bl s) at_) ∧ Below w.heap.size w w' := fun at_ hat w => end_any s at_ w (by unfold maxLen; omega) hat
  have hnn : ∀ k, Rc.names (bl s) 0 k = none → k ≤ 1 → Rc.names (bl s) 0 1 = none := fun k h1 h2 => Rc.names_none h1 h2
  have HFN := Go.Lib.hid hfn
  have HFS := Go.Lib.hid hfs
  have HEN := Go.Lib.hid hen
  have HL := Go.Lib.hid hl
  have HNN := Go.Lib.hid hnn
  clear hfn hfs hen hl hnn
  generalize Rc.partsN 5 (bl s) = res at *
  go_enter Tryz.func99, Tryz.ntmps99
  go_wp2_with fail
  go_loopw [10, 11, 12] (fun v at_ i wr => ∃ (k at0 : Nat) (l : List (Nat × Nat)), i = .int .i64 k ∧ k ≤ 1 ∧ at_ = .int .i64 at0 ∧ at0 ≤ 1010 ∧ l.length ≤ k ∧ Rc.names (bl s) 0 k = some (l, at0) ∧ wr.ownsRow w.heap.size 135 2 v l.length (encP l) ∧ Below w.heap.size w wr) (fun _ _ i _ => 1 - (intOf i).toNat)
  case atStart => exact ⟨0, 0, [], rfl, by omega, rfl, by omega, by simp, rfl, World.ownsRow_nil _ _ _ _, Below.refl _ _⟩
  case round =>
    obtain ⟨k, at0, l, rfl, hk, rfl, hat, hlk, hnm, hown, hbel⟩ := hrel
    have hbz := hbel.size
    have HNM := Go.Lib.hid hnm
    have HO := Go.Lib.hid hown
    have HB := Go.Lib.hid hbel
    clear hnm hown hbel
    by_cases hlt : k < 1
    · have hld := HEN.out at0 (by omega)
      have hstep := Rc.names_succ HNM.out
      cases hlq : Nm.lead ((bl s).drop at0) with
      | none =>
        have hv : endV (bl s) at0 = .tuple #[.int .i64 0, .bool false] := endV_none hlq
        rw [hlq] at hstep
        have hnone : Hid (res = none) := Go.Lib.hid (HFN.out (HNN.out _ hstep (by omega)))
        rw [hv] at hld
        have HLD := Go.Lib.hid hld
        clear hld
        clear hlq hstep hv
        go_wp2_with fail
        refine (HLD.out _).mono ?_; rintro e wb ⟨rfl, hx⟩
        have HB2 := Go.Lib.hid hx
        clear hx
        go_wp2_with fail
        go_ret2
        exact retParts_none hnone.out (HB.out.trans (HB2.out.mono HB.out.size))
      | some n =>
        have hv : endV (bl s) at0 = .tuple #[.int .i64 ((at0 + n : Nat) : Int), .bool true] := by unfold endV; rw [hlq]
        rw [hlq] at hstep
        simp only at hstep
        have hle := Nm.lead_le hlq
        rw [List.length_drop, ← HL.out] at hle
        rw [hv] at hld
        have HLD := Go.Lib.hid hld
        have HST := Go.Lib.hid hstep
        clear hld hstep
        clear hlq hv
        go_wp2_with fail
        refine (HLD.out _).mono ?_; rintro e wb ⟨rfl, hx⟩
        have hown := owns_below HO.out hx
        have hb := HB.out.trans (hx.mono hbz)
        have hbz2 := hb.size
        have HO2 := Go.Lib.hid hown
        have HB2 := Go.Lib.hid hb
        clear hown hb
        clear hx
        have hsub : (at0 : Int) + (n : Int) - (at0 : Int) = (n : Int) := by omega
        have hsub2 : ((at0 + n : Nat) : Int) - (at0 : Int) = (n : Int) := by omega
        go_wp2_with (at_builtin; refine wpList_app eiPt (.tmp 75) (.tmp 81) rfl rfl w.heap.size rfl rfl (HO2.out.alloc _) (slc_new _ 2 1 135 [.int .i64 (at0 : Int), .int .i64 (n : Int)] rfl (by decide)) (one_pair at0 n) (by unfold maxLen; omega) (by omega) (by simp; omega) ?_; intro v1 w1 hown1 hg1)
        go_roundw
        case rel => exact ⟨k + 1, at0 + n, l ++ [(at0, n)], by go_num, by omega, by go_num, by omega, by simp; omega, HST.out, by rw [List.length_append, encP_snoc]; exact hown1, below_app (HB2.out.alloc hbz2 _) (HO2.out.alloc _) hg1 (Nat.le_refl _) (by simp; omega)⟩
        case measure => simp [intOf]; omega
    · obtain rfl : k = 1 := by omega
      obtain ⟨q1, q2, q3⟩ := HFS.out _ _ HNM.out
      rw [← HL.out] at q1 q2 q3
      by_cases hz : at0 + 0 = s.size
      · have hres := Go.Lib.hid (q2 hz)
        clear q2 q3
        have hz2 : (at0 : Int) + 0 = (s.size : Int) := by omega
        try simp only [Int.add_zero] at hz2
        clear hz
        go_wp2_with fail
        go_ret2
        exact retParts_some hres.out HO.out HB.out
      · have hres := Go.Lib.hid (q3 hz)
        clear q2 q3
        have hz2 : ¬ (at0 : Int) + 0 = (s.size : Int) := by omega
        try simp only [Int.add_zero] at hz2
        clear hz
        go_wp2_with fail
        go_ret2
        exact retParts_none hres.out HB.out
set_option maxRecDepth 100000 in
set_option maxHeartbeats 4000000 in
theorem Parts_12 (s : ByteArray) (w : World) (h : s.size ≤ 1000) :
    Calls Tryz.prog 99 #[.int .i64 12, .string s] w (RetParts w (Rc.partsN 12 (bl s))) := by
  have hl := size_bl s
  obtain ⟨hfn, hfs⟩ := partsN_shape (t := 12) (a := 0) (m := 1) (b := 0) rfl (d := bl s) (by omega) (by omega)
  have hen : ∀ at_ : Nat, at_ ≤ 2000 → ∀ w, Calls Tryz.prog 107 #[.string s, .int .i64 at_] w fun e w' => e = .returned (endV (bl s) at_) ∧ Below w.heap.size w w' := fun at_ hat w => end_any s at_ w (by unfold maxLen; omega) hat
  have hnn : ∀ k, Rc.names (bl s) 0 k = none → k ≤ 1 → Rc.names (bl s) 0 1 = none := fun k h1 h2 => Rc.names_none h1 h2
  have HFN := Go.Lib.hid hfn
  have HFS := Go.Lib.hid hfs
  have HEN := Go.Lib.hid hen
  have HL := Go.Lib.hid hl
  have HNN := Go.Lib.hid hnn
  clear hfn hfs hen hl hnn
  generalize Rc.partsN 12 (bl s) = res at *
  go_enter Tryz.func99, Tryz.ntmps99
  go_wp2_with fail
  go_loopw [10, 11, 12] (fun v at_ i wr => ∃ (k at0 : Nat) (l : List (Nat × Nat)), i = .int .i64 k ∧ k ≤ 1 ∧ at_ = .int .i64 at0 ∧ at0 ≤ 1010 ∧ l.length ≤ k ∧ Rc.names (bl s) 0 k = some (l, at0) ∧ wr.ownsRow w.heap.size 135 2 v l.length (encP l) ∧ Below w.heap.size w wr) (fun _ _ i _ => 1 - (intOf i).toNat)
  case atStart => exact ⟨0, 0, [], rfl, by omega, rfl, by omega, by simp, rfl, World.ownsRow_nil _ _ _ _, Below.refl _ _⟩
  case round =>
    obtain ⟨k, at0, l, rfl, hk, rfl, hat, hlk, hnm, hown, hbel⟩ := hrel
    have hbz := hbel.size
    have HNM := Go.Lib.hid hnm
    have HO := Go.Lib.hid hown
    have HB := Go.Lib.hid hbel
    clear hnm hown hbel
    by_cases hlt : k < 1
    · have hld := HEN.out at0 (by omega)
      have hstep := Rc.names_succ HNM.out
      cases hlq : Nm.lead ((bl s).drop at0) with
      | none =>
        have hv : endV (bl s) at0 = .tuple #[.int .i64 0, .bool false] := endV_none hlq
        rw [hlq] at hstep
        have hnone : Hid (res = none) := Go.Lib.hid (HFN.out (HNN.out _ hstep (by omega)))
        rw [hv] at hld
        have HLD := Go.Lib.hid hld
        clear hld
        clear hlq hstep hv
        go_wp2_with fail
        refine (HLD.out _).mono ?_; rintro e wb ⟨rfl, hx⟩
        have HB2 := Go.Lib.hid hx
        clear hx
        go_wp2_with fail
        go_ret2
        exact retParts_none hnone.out (HB.out.trans (HB2.out.mono HB.out.size))
      | some n =>
        have hv : endV (bl s) at0 = .tuple #[.int .i64 ((at0 + n : Nat) : Int), .bool true] := by unfold endV; rw [hlq]
        rw [hlq] at hstep
        simp only at hstep
        have hle := Nm.lead_le hlq
        rw [List.length_drop, ← HL.out] at hle
        rw [hv] at hld
        have HLD := Go.Lib.hid hld
        have HST := Go.Lib.hid hstep
        clear hld hstep
        clear hlq hv
        go_wp2_with fail
        refine (HLD.out _).mono ?_; rintro e wb ⟨rfl, hx⟩
        have hown := owns_below HO.out hx
        have hb := HB.out.trans (hx.mono hbz)
        have hbz2 := hb.size
        have HO2 := Go.Lib.hid hown
        have HB2 := Go.Lib.hid hb
        clear hown hb
        clear hx
        have hsub : (at0 : Int) + (n : Int) - (at0 : Int) = (n : Int) := by omega
        have hsub2 : ((at0 + n : Nat) : Int) - (at0 : Int) = (n : Int) := by omega
        go_wp2_with (at_builtin; refine wpList_app eiPt (.tmp 75) (.tmp 81) rfl rfl w.heap.size rfl rfl (HO2.out.alloc _) (slc_new _ 2 1 135 [.int .i64 (at0 : Int), .int .i64 (n : Int)] rfl (by decide)) (one_pair at0 n) (by unfold maxLen; omega) (by omega) (by simp; omega) ?_; intro v1 w1 hown1 hg1)
        go_roundw
        case rel => exact ⟨k + 1, at0 + n, l ++ [(at0, n)], by go_num, by omega, by go_num, by omega, by simp; omega, HST.out, by rw [List.length_append, encP_snoc]; exact hown1, below_app (HB2.out.alloc hbz2 _) (HO2.out.alloc _) hg1 (Nat.le_refl _) (by simp; omega)⟩
        case measure => simp [intOf]; omega
    · obtain rfl : k = 1 := by omega
      obtain ⟨q1, q2, q3⟩ := HFS.out _ _ HNM.out
      rw [← HL.out] at q1 q2 q3
      by_cases hz : at0 + 0 = s.size
      · have hres := Go.Lib.hid (q2 hz)
        clear q2 q3
        have hz2 : (at0 : Int) + 0 = (s.size : Int) := by omega
        try simp only [Int.add_zero] at hz2
        clear hz
        go_wp2_with fail
        go_ret2
        exact retParts_some hres.out HO.out HB.out
      · have hres := Go.Lib.hid (q3 hz)
        clear q2 q3
        have hz2 : ¬ (at0 : Int) + 0 = (s.size : Int) := by omega
        try simp only [Int.add_zero] at hz2
        clear hz
        go_wp2_with fail
        go_ret2
        exact retParts_none hres.out HB.out
set_option maxRecDepth 100000 in
set_option maxHeartbeats 4000000 in
theorem Parts_15 (s : ByteArray) (w : World) (h : s.size ≤ 1000) :
    Calls Tryz.prog 99 #[.int .i64 15, .string s] w (RetParts w (Rc.partsN 15 (bl s))) := by
  have hl := size_bl s
  obtain ⟨hfn, hfs⟩ := partsN_shape (t := 15) (a := 2) (m := 1) (b := 0) rfl (d := bl s) (by omega) (by omega)
  have hen : ∀ at_ : Nat, at_ ≤ 2000 → ∀ w, Calls Tryz.prog 107 #[.string s, .int .i64 at_] w fun e w' => e = .returned (endV (bl s) at_) ∧ Below w.heap.size w w' := fun at_ hat w => end_any s at_ w (by unfold maxLen; omega) hat
  have hnn : ∀ k, Rc.names (bl s) 2 k = none → k ≤ 1 → Rc.names (bl s) 2 1 = none := fun k h1 h2 => Rc.names_none h1 h2
  have HFN := Go.Lib.hid hfn
  have HFS := Go.Lib.hid hfs
  have HEN := Go.Lib.hid hen
  have HL := Go.Lib.hid hl
  have HNN := Go.Lib.hid hnn
  clear hfn hfs hen hl hnn
  generalize Rc.partsN 15 (bl s) = res at *
  go_enter Tryz.func99, Tryz.ntmps99
  go_wp2_with fail
  go_loopw [10, 11, 12] (fun v at_ i wr => ∃ (k at0 : Nat) (l : List (Nat × Nat)), i = .int .i64 k ∧ k ≤ 1 ∧ at_ = .int .i64 at0 ∧ at0 ≤ 1010 ∧ l.length ≤ k ∧ Rc.names (bl s) 2 k = some (l, at0) ∧ wr.ownsRow w.heap.size 135 2 v l.length (encP l) ∧ Below w.heap.size w wr) (fun _ _ i _ => 1 - (intOf i).toNat)
  case atStart => exact ⟨0, 2, [], rfl, by omega, rfl, by omega, by simp, rfl, World.ownsRow_nil _ _ _ _, Below.refl _ _⟩
  case round =>
    obtain ⟨k, at0, l, rfl, hk, rfl, hat, hlk, hnm, hown, hbel⟩ := hrel
    have hbz := hbel.size
    have HNM := Go.Lib.hid hnm
    have HO := Go.Lib.hid hown
    have HB := Go.Lib.hid hbel
    clear hnm hown hbel
    by_cases hlt : k < 1
    · have hld := HEN.out at0 (by omega)
      have hstep := Rc.names_succ HNM.out
      cases hlq : Nm.lead ((bl s).drop at0) with
      | none =>
        have hv : endV (bl s) at0 = .tuple #[.int .i64 0, .bool false] := endV_none hlq
        rw [hlq] at hstep
        have hnone : Hid (res = none) := Go.Lib.hid (HFN.out (HNN.out _ hstep (by omega)))
        rw [hv] at hld
        have HLD := Go.Lib.hid hld
        clear hld
        clear hlq hstep hv
        go_wp2_with fail
        refine (HLD.out _).mono ?_; rintro e wb ⟨rfl, hx⟩
        have HB2 := Go.Lib.hid hx
        clear hx
        go_wp2_with fail
        go_ret2
        exact retParts_none hnone.out (HB.out.trans (HB2.out.mono HB.out.size))
      | some n =>
        have hv : endV (bl s) at0 = .tuple #[.int .i64 ((at0 + n : Nat) : Int), .bool true] := by unfold endV; rw [hlq]
        rw [hlq] at hstep
        simp only at hstep
        have hle := Nm.lead_le hlq
        rw [List.length_drop, ← HL.out] at hle
        rw [hv] at hld
        have HLD := Go.Lib.hid hld
        have HST := Go.Lib.hid hstep
        clear hld hstep
        clear hlq hv
        go_wp2_with fail
        refine (HLD.out _).mono ?_; rintro e wb ⟨rfl, hx⟩
        have hown := owns_below HO.out hx
        have hb := HB.out.trans (hx.mono hbz)
        have hbz2 := hb.size
        have HO2 := Go.Lib.hid hown
        have HB2 := Go.Lib.hid hb
        clear hown hb
        clear hx
        have hsub : (at0 : Int) + (n : Int) - (at0 : Int) = (n : Int) := by omega
        have hsub2 : ((at0 + n : Nat) : Int) - (at0 : Int) = (n : Int) := by omega
        go_wp2_with (at_builtin; refine wpList_app eiPt (.tmp 75) (.tmp 81) rfl rfl w.heap.size rfl rfl (HO2.out.alloc _) (slc_new _ 2 1 135 [.int .i64 (at0 : Int), .int .i64 (n : Int)] rfl (by decide)) (one_pair at0 n) (by unfold maxLen; omega) (by omega) (by simp; omega) ?_; intro v1 w1 hown1 hg1)
        go_roundw
        case rel => exact ⟨k + 1, at0 + n, l ++ [(at0, n)], by go_num, by omega, by go_num, by omega, by simp; omega, HST.out, by rw [List.length_append, encP_snoc]; exact hown1, below_app (HB2.out.alloc hbz2 _) (HO2.out.alloc _) hg1 (Nat.le_refl _) (by simp; omega)⟩
        case measure => simp [intOf]; omega
    · obtain rfl : k = 1 := by omega
      obtain ⟨q1, q2, q3⟩ := HFS.out _ _ HNM.out
      rw [← HL.out] at q1 q2 q3
      by_cases hz : at0 + 0 = s.size
      · have hres := Go.Lib.hid (q2 hz)
        clear q2 q3
        have hz2 : (at0 : Int) + 0 = (s.size : Int) := by omega
        try simp only [Int.add_zero] at hz2
        clear hz
        go_wp2_with fail
        go_ret2
        exact retParts_some hres.out HO.out HB.out
      · have hres := Go.Lib.hid (q3 hz)
        clear q2 q3
        have hz2 : ¬ (at0 : Int) + 0 = (s.size : Int) := by omega
        try simp only [Int.add_zero] at hz2
        clear hz
        go_wp2_with fail
        go_ret2
        exact retParts_none hres.out HB.out
set_option maxRecDepth 100000 in
set_option maxHeartbeats 4000000 in
theorem Parts_33 (s : ByteArray) (w : World) (h : s.size ≤ 1000) :
    Calls Tryz.prog 99 #[.int .i64 33, .string s] w (RetParts w (Rc.partsN 33 (bl s))) := by
  have hl := size_bl s
  obtain ⟨hfn, hfs⟩ := partsN_shape (t := 33) (a := 6) (m := 1) (b := 0) rfl (d := bl s) (by omega) (by omega)
  have hen : ∀ at_ : Nat, at_ ≤ 2000 → ∀ w, Calls Tryz.prog 107 #[.string s, .int .i64 at_] w fun e w' => e = .returned (endV (bl s) at_) ∧ Below w.heap.size w w' := fun at_ hat w => end_any s at_ w (by unfold maxLen; omega) hat
  have hnn : ∀ k, Rc.names (bl s) 6 k = none → k ≤ 1 → Rc.names (bl s) 6 1 = none := fun k h1 h2 => Rc.names_none h1 h2
  have HFN := Go.Lib.hid hfn
  have HFS := Go.Lib.hid hfs
  have HEN := Go.Lib.hid hen
  have HL := Go.Lib.hid hl
  have HNN := Go.Lib.hid hnn
  clear hfn hfs hen hl hnn
  generalize Rc.partsN 33 (bl s) = res at *
  go_enter Tryz.func99, Tryz.ntmps99
  go_wp2_with fail
  go_loopw [10, 11, 12] (fun v at_ i wr => ∃ (k at0 : Nat) (l : List (Nat × Nat)), i = .int .i64 k ∧ k ≤ 1 ∧ at_ = .int .i64 at0 ∧ at0 ≤ 1010 ∧ l.length ≤ k ∧ Rc.names (bl s) 6 k = some (l, at0) ∧ wr.ownsRow w.heap.size 135 2 v l.length (encP l) ∧ Below w.heap.size w wr) (fun _ _ i _ => 1 - (intOf i).toNat)
  case atStart => exact ⟨0, 6, [], rfl, by omega, rfl, by omega, by simp, rfl, World.ownsRow_nil _ _ _ _, Below.refl _ _⟩
  case round =>
    obtain ⟨k, at0, l, rfl, hk, rfl, hat, hlk, hnm, hown, hbel⟩ := hrel
    have hbz := hbel.size
    have HNM := Go.Lib.hid hnm
    have HO := Go.Lib.hid hown
    have HB := Go.Lib.hid hbel
    clear hnm hown hbel
    by_cases hlt : k < 1
    · have hld := HEN.out at0 (by omega)
      have hstep := Rc.names_succ HNM.out
      cases hlq : Nm.lead ((bl s).drop at0) with
      | none =>
        have hv : endV (bl s) at0 = .tuple #[.int .i64 0, .bool false] := endV_none hlq
        rw [hlq] at hstep
        have hnone : Hid (res = none) := Go.Lib.hid (HFN.out (HNN.out _ hstep (by omega)))
        rw [hv] at hld
        have HLD := Go.Lib.hid hld
        clear hld
        clear hlq hstep hv
        go_wp2_with fail
        refine (HLD.out _).mono ?_; rintro e wb ⟨rfl, hx⟩
        have HB2 := Go.Lib.hid hx
        clear hx
        go_wp2_with fail
        go_ret2
        exact retParts_none hnone.out (HB.out.trans (HB2.out.mono HB.out.size))
      | some n =>
        have hv : endV (bl s) at0 = .tuple #[.int .i64 ((at0 + n : Nat) : Int), .bool true] := by unfold endV; rw [hlq]
        rw [hlq] at hstep
        simp only at hstep
        have hle := Nm.lead_le hlq
        rw [List.length_drop, ← HL.out] at hle
        rw [hv] at hld
        have HLD := Go.Lib.hid hld
        have HST := Go.Lib.hid hstep
        clear hld hstep
        clear hlq hv
        go_wp2_with fail
        refine (HLD.out _).mono ?_; rintro e wb ⟨rfl, hx⟩
        have hown := owns_below HO.out hx
        have hb := HB.out.trans (hx.mono hbz)
        have hbz2 := hb.size
        have HO2 := Go.Lib.hid hown
        have HB2 := Go.Lib.hid hb
        clear hown hb
        clear hx
        have hsub : (at0 : Int) + (n : Int) - (at0 : Int) = (n : Int) := by omega
        have hsub2 : ((at0 + n : Nat) : Int) - (at0 : Int) = (n : Int) := by omega
        go_wp2_with (at_builtin; refine wpList_app eiPt (.tmp 75) (.tmp 81) rfl rfl w.heap.size rfl rfl (HO2.out.alloc _) (slc_new _ 2 1 135 [.int .i64 (at0 : Int), .int .i64 (n : Int)] rfl (by decide)) (one_pair at0 n) (by unfold maxLen; omega) (by omega) (by simp; omega) ?_; intro v1 w1 hown1 hg1)
        go_roundw
        case rel => exact ⟨k + 1, at0 + n, l ++ [(at0, n)], by go_num, by omega, by go_num, by omega, by simp; omega, HST.out, by rw [List.length_append, encP_snoc]; exact hown1, below_app (HB2.out.alloc hbz2 _) (HO2.out.alloc _) hg1 (Nat.le_refl _) (by simp; omega)⟩
        case measure => simp [intOf]; omega
    · obtain rfl : k = 1 := by omega
      obtain ⟨q1, q2, q3⟩ := HFS.out _ _ HNM.out
      rw [← HL.out] at q1 q2 q3
      by_cases hz : at0 + 0 = s.size
      · have hres := Go.Lib.hid (q2 hz)
        clear q2 q3
        have hz2 : (at0 : Int) + 0 = (s.size : Int) := by omega
        try simp only [Int.add_zero] at hz2
        clear hz
        go_wp2_with fail
        go_ret2
        exact retParts_some hres.out HO.out HB.out
      · have hres := Go.Lib.hid (q3 hz)
        clear q2 q3
        have hz2 : ¬ (at0 : Int) + 0 = (s.size : Int) := by omega
        try simp only [Int.add_zero] at hz2
        clear hz
        go_wp2_with fail
        go_ret2
        exact retParts_none hres.out HB.out
set_option maxRecDepth 100000 in
set_option maxHeartbeats 4000000 in
theorem Parts_6 (s : ByteArray) (w : World) (h : s.size ≤ 1000) :
    Calls Tryz.prog 99 #[.int .i64 6, .string s] w (RetParts w (Rc.partsN 6 (bl s))) := by
  have hl := size_bl s
  obtain ⟨hfn, hfs⟩ := partsN_shape (t := 6) (a := 0) (m := 2) (b := 20) rfl (d := bl s) (by omega) (by omega)
  have hen : ∀ at_ : Nat, at_ ≤ 2000 → ∀ w, Calls Tryz.prog 107 #[.string s, .int .i64 at_] w fun e w' => e = .returned (endV (bl s) at_) ∧ Below w.heap.size w w' := fun at_ hat w => end_any s at_ w (by unfold maxLen; omega) hat
  have hnn : ∀ k, Rc.names (bl s) 0 k = none → k ≤ 2 → Rc.names (bl s) 0 2 = none := fun k h1 h2 => Rc.names_none h1 h2
  have HFN := Go.Lib.hid hfn
  have HFS := Go.Lib.hid hfs
  have HEN := Go.Lib.hid hen
  have HL := Go.Lib.hid hl
  have HNN := Go.Lib.hid hnn
  clear hfn hfs hen hl hnn
  generalize Rc.partsN 6 (bl s) = res at *
  go_enter Tryz.func99, Tryz.ntmps99
  go_wp2_with fail
  go_loopw [10, 11, 12] (fun v at_ i wr => ∃ (k at0 : Nat) (l : List (Nat × Nat)), i = .int .i64 k ∧ k ≤ 2 ∧ at_ = .int .i64 at0 ∧ at0 ≤ 1010 ∧ l.length ≤ k ∧ Rc.names (bl s) 0 k = some (l, at0) ∧ wr.ownsRow w.heap.size 135 2 v l.length (encP l) ∧ Below w.heap.size w wr) (fun _ _ i _ => 2 - (intOf i).toNat)
  case atStart => exact ⟨0, 0, [], rfl, by omega, rfl, by omega, by simp, rfl, World.ownsRow_nil _ _ _ _, Below.refl _ _⟩
  case round =>
    obtain ⟨k, at0, l, rfl, hk, rfl, hat, hlk, hnm, hown, hbel⟩ := hrel
    have hbz := hbel.size
    have HNM := Go.Lib.hid hnm
    have HO := Go.Lib.hid hown
    have HB := Go.Lib.hid hbel
    clear hnm hown hbel
    by_cases hlt : k < 2
    · have hld := HEN.out at0 (by omega)
      have hstep := Rc.names_succ HNM.out
      cases hlq : Nm.lead ((bl s).drop at0) with
      | none =>
        have hv : endV (bl s) at0 = .tuple #[.int .i64 0, .bool false] := endV_none hlq
        rw [hlq] at hstep
        have hnone : Hid (res = none) := Go.Lib.hid (HFN.out (HNN.out _ hstep (by omega)))
        rw [hv] at hld
        have HLD := Go.Lib.hid hld
        clear hld
        clear hlq hstep hv
        go_wp2_with fail
        refine (HLD.out _).mono ?_; rintro e wb ⟨rfl, hx⟩
        have HB2 := Go.Lib.hid hx
        clear hx
        go_wp2_with fail
        go_ret2
        exact retParts_none hnone.out (HB.out.trans (HB2.out.mono HB.out.size))
      | some n =>
        have hv : endV (bl s) at0 = .tuple #[.int .i64 ((at0 + n : Nat) : Int), .bool true] := by unfold endV; rw [hlq]
        rw [hlq] at hstep
        simp only at hstep
        have hle := Nm.lead_le hlq
        rw [List.length_drop, ← HL.out] at hle
        rw [hv] at hld
        have HLD := Go.Lib.hid hld
        have HST := Go.Lib.hid hstep
        clear hld hstep
        clear hlq hv
        go_wp2_with fail
        refine (HLD.out _).mono ?_; rintro e wb ⟨rfl, hx⟩
        have hown := owns_below HO.out hx
        have hb := HB.out.trans (hx.mono hbz)
        have hbz2 := hb.size
        have HO2 := Go.Lib.hid hown
        have HB2 := Go.Lib.hid hb
        clear hown hb
        clear hx
        have hsub : (at0 : Int) + (n : Int) - (at0 : Int) = (n : Int) := by omega
        have hsub2 : ((at0 + n : Nat) : Int) - (at0 : Int) = (n : Int) := by omega
        go_wp2_with (at_builtin; refine wpList_app eiPt (.tmp 75) (.tmp 81) rfl rfl w.heap.size rfl rfl (HO2.out.alloc _) (slc_new _ 2 1 135 [.int .i64 (at0 : Int), .int .i64 (n : Int)] rfl (by decide)) (one_pair at0 n) (by unfold maxLen; omega) (by omega) (by simp; omega) ?_; intro v1 w1 hown1 hg1)
        go_roundw
        case rel => exact ⟨k + 1, at0 + n, l ++ [(at0, n)], by go_num, by omega, by go_num, by omega, by simp; omega, HST.out, by rw [List.length_append, encP_snoc]; exact hown1, below_app (HB2.out.alloc hbz2 _) (HO2.out.alloc _) hg1 (Nat.le_refl _) (by simp; omega)⟩
        case measure => simp [intOf]; omega
    · obtain rfl : k = 2 := by omega
      obtain ⟨q1, q2, q3⟩ := HFS.out _ _ HNM.out
      rw [← HL.out] at q1 q2 q3
      by_cases hz : at0 + 20 = s.size
      · have hres := Go.Lib.hid (q2 hz)
        clear q2 q3
        have hz2 : (at0 : Int) + 20 = (s.size : Int) := by omega
        try simp only [Int.add_zero] at hz2
        clear hz
        go_wp2_with fail
        go_ret2
        exact retParts_some hres.out HO.out HB.out
      · have hres := Go.Lib.hid (q3 hz)
        clear q2 q3
        have hz2 : ¬ (at0 : Int) + 20 = (s.size : Int) := by omega
        try simp only [Int.add_zero] at hz2
        clear hz
        go_wp2_with fail
        go_ret2
        exact retParts_none hres.out HB.out
theorem Parts_any (t : Int) (s : ByteArray) (w : World) :
    Calls Tryz.prog 99 #[.int .i64 t, .string s] w (RetParts w (Rc.partsN t (bl s))) := by
  by_cases h : 1000 < s.size
  · exact Parts_big t s w h
  have h := Nat.le_of_not_lt h
  by_cases h1 : t = 1 ∨ t = 28
  · exact Parts_fix t s w h h1
  by_cases h2 : t = 16
  · subst h2; exact Parts_txt s w h
  by_cases h3 : t = 2 ∨ t = 5 ∨ t = 12 ∨ t = 15 ∨ t = 33 ∨ t = 6
  · rcases h3 with rfl | rfl | rfl | rfl | rfl | rfl
    · exact Parts_2 s w h
    · exact Parts_5 s w h
    · exact Parts_12 s w h
    · exact Parts_15 s w h
    · exact Parts_33 s w h
    · exact Parts_6 s w h
  · exact Parts_none t s w h (by omega) (by omega) h2 (by unfold Rc.shape; rw [if_neg (by omega), if_neg (by omega), if_neg (by omega), if_neg (by omega)])
end Go.Proofs.YtkpcmnckdappnaaGreat

/- The contracts of the reference's CheckRR, word, made, MakeA, MakeName, MakeSOA. -/
namespace Go.Proofs.YtkpcmnckdappnaaGreat
open Go.RowKit
set_option linter.unusedVariables false

theorem rr_cells {X : World} {g : Nat} {n d : List UInt8} {t c l : Int} {T : TypeId} (h : X.heap[g]? = some (.cells (rrC ⟨n, t, c, l, d⟩) T (0, 0))) :
    (∀ W', Below X.heap.size X W' → W'.cell? ⟨g, 0, none⟩ = some (.string (mk n))) ∧ (∀ W', Below X.heap.size X W' → W'.cell? ⟨g, 1, none⟩ = some (.int .i64 t)) ∧ (∀ W', Below X.heap.size X W' → W'.cell? ⟨g, 2, none⟩ = some (.int .i64 c)) ∧
    (∀ W', Below X.heap.size X W' → W'.cell? ⟨g, 3, none⟩ = some (.int .i64 l)) ∧ (∀ W', Below X.heap.size X W' → W'.cell? ⟨g, 4, none⟩ = some (.string (mk d))) := by
  have hg := cell_of_heap h
  have hl := (Array.getElem?_eq_some_iff.1 h).1
  exact ⟨fun W' k => (k.cell (p := ⟨g, 0, none⟩) hl).trans (hg 0), fun W' k => (k.cell (p := ⟨g, 1, none⟩) hl).trans (hg 1), fun W' k => (k.cell (p := ⟨g, 2, none⟩) hl).trans (hg 2), fun W' k => (k.cell (p := ⟨g, 3, none⟩) hl).trans (hg 3), fun W' k => (k.cell (p := ⟨g, 4, none⟩) hl).trans (hg 4)⟩
theorem heap_laterO {B : Nat} {W W' : World} {g : Nat} {o : Obj} (h : W.heap[g]? = some o) (hb : Below W.heap.size W W') : W'.heap[g]? = some o := (hb.block _ (Array.getElem?_eq_some_iff.1 h).1).trans h

/-! ### plain -/
set_option maxRecDepth 100000 in
set_option maxHeartbeats 8000000 in
theorem refCheck_any (r : Rc.RR) (w : World) (hr : RROk r) : Calls Tryz.prog 77 #[rrV r] w fun e w' => e = .returned (.bool (checkB r)) ∧ Below w.heap.size w w' := by
  obtain ⟨rn, ty, cl, tl, rd⟩ := r
  obtain ⟨h1, h2⟩ := hr
  simp only at h1 h2
  simp only [rrV]
  have hp := fun W => Parts_any ty (mk rd) W
  have hv := fun W => refValid_any (mk rn) W
  rw [bl_mk] at hp hv
  have hH := World.alloc_heap_new w (.cells (rrC ⟨rn, ty, cl, tl, rd⟩) 43)
  have h0 : Below w.heap.size w (w.alloc (.cells (rrC ⟨rn, ty, cl, tl, rd⟩) 43)) := (Below.refl _ w).alloc (Nat.le_refl _) _
  have hck : checkB ⟨rn, ty, cl, tl, rd⟩ = (Nm.valid rn && decide (1 ≤ ty ∧ ty ≤ 65535) && (ty != 41) && decide (0 ≤ cl ∧ cl ≤ 65535) && decide (0 ≤ tl ∧ tl ≤ 2147483647) && Rc.dataB ty rd) := rfl
  have hpd := Rc.partsN_isSome ty rd
  generalize Rc.partsN ty rd = ps at *
  generalize Rc.dataB ty rd = db at *
  generalize Nm.valid rn = vb at *
  generalize checkB ⟨rn, ty, cl, tl, rd⟩ = res at *
  rw [← hpd] at hck
  have HP := Go.Lib.hid hp
  have HV := Go.Lib.hid hv
  have HH := Go.Lib.hid hH
  have H0 := Go.Lib.hid h0
  have HCK := Go.Lib.hid hck
  clear hp hv hH h0 hck
  clear hpd
  have key : ps.isSome = false ∨ (ps.isSome = true ∧ vb = false) ∨ (ps.isSome = true ∧ vb = true) := by cases ps.isSome <;> cases vb <;> simp
  rcases key with k1 | ⟨k1, k2⟩ | ⟨k1, k2⟩
  · have hres : Hid (res = false) := Go.Lib.hid (by rw [HCK.out, k1]; simp)
    clear HCK
    go_enter Tryz.func77, Tryz.ntmps77
    go_wp2_with fail
    change Calls _ _ _ (w.alloc (.cells (rrC ⟨rn, ty, cl, tl, rd⟩) 43)) _
    generalize w.alloc (.cells (rrC ⟨rn, ty, cl, tl, rd⟩) 43) = X at *
    refine (HP.out _).mono ?_; rintro e X1 ⟨v, rfl, _, hx⟩
    rw [k1]
    have HX := Go.Lib.hid hx
    clear hx
    go_wp2_with fail
    go_ret
    exact ⟨ret_bool hres.out.symm, H0.out.trans (HX.out.mono H0.out.size)⟩
  · have hres : Hid (res = false) := Go.Lib.hid (by rw [HCK.out, k2]; simp)
    clear HCK
    go_enter Tryz.func77, Tryz.ntmps77
    go_wp2_with fail
    change Calls _ _ _ (w.alloc (.cells (rrC ⟨rn, ty, cl, tl, rd⟩) 43)) _
    generalize w.alloc (.cells (rrC ⟨rn, ty, cl, tl, rd⟩) 43) = X at *
    obtain ⟨c0, c1, c2, c3, c4⟩ := rr_cells HH.out
    refine (HP.out _).mono ?_; rintro e X1 ⟨v, rfl, _, hx⟩
    rw [k1]
    go_wp2_with fail
    refine (HV.out _).mono ?_; rintro e X2 ⟨rfl, hx2⟩
    rw [k2]
    have hb := H0.out.trans ((hx.trans (hx2.mono hx.size)).mono H0.out.size)
    have HB := Go.Lib.hid hb
    clear hb
    clear hx hx2
    go_wp2_with fail
    go_ret
    exact ⟨ret_bool hres.out.symm, HB.out⟩
  · have key : (ty < 1) ∨ (1 ≤ ty ∧ 65535 < ty) ∨ (1 ≤ ty ∧ ty ≤ 65535 ∧ (ty != 41) = false ∧ ty = 41) ∨ (1 ≤ ty ∧ ty ≤ 65535 ∧ (ty != 41) = true ∧ cl < 0) ∨ (1 ≤ ty ∧ ty ≤ 65535 ∧ (ty != 41) = true ∧ 0 ≤ cl ∧ 65535 < cl) ∨
        (1 ≤ ty ∧ ty ≤ 65535 ∧ (ty != 41) = true ∧ 0 ≤ cl ∧ cl ≤ 65535 ∧ tl < 0) ∨ (1 ≤ ty ∧ ty ≤ 65535 ∧ (ty != 41) = true ∧ 0 ≤ cl ∧ cl ≤ 65535 ∧ 0 ≤ tl ∧ 2147483648 ≤ tl) ∨ (1 ≤ ty ∧ ty ≤ 65535 ∧ (ty != 41) = true ∧ 0 ≤ cl ∧ cl ≤ 65535 ∧ 0 ≤ tl ∧ tl < 2147483648) := by
      by_cases h41 : ty = 41
      · have : (ty != 41) = false := by simp [h41]
        rw [this]; simp; omega
      · have : (ty != 41) = true := by simp [h41]
        rw [this]; simp; omega
    rcases key with p1 | ⟨p1, p2⟩ | ⟨p1, p2, p3, p3'⟩ | ⟨p1, p2, p3, p4⟩ | ⟨p1, p2, p3, p4, p5⟩ | ⟨p1, p2, p3, p4, p5, p6⟩ | ⟨p1, p2, p3, p4, p5, p6, p7⟩ | ⟨p1, p2, p3, p4, p5, p6, p7⟩
    case inr.inr.inr.inr.inr.inr.inr =>
      have hres : Hid (res = true) := Go.Lib.hid (by rw [HCK.out, k1, k2, p3]; simp; omega)
      clear HCK
      go_enter Tryz.func77, Tryz.ntmps77
      go_wp2_with fail
      change Calls _ _ _ (w.alloc (.cells (rrC ⟨rn, ty, cl, tl, rd⟩) 43)) _
      generalize w.alloc (.cells (rrC ⟨rn, ty, cl, tl, rd⟩) 43) = X at *
      obtain ⟨c0, c1, c2, c3, c4⟩ := rr_cells HH.out
      refine (HP.out _).mono ?_; rintro e X1 ⟨v, rfl, _, hx⟩
      rw [k1]
      go_wp2_with fail
      refine (HV.out _).mono ?_; rintro e X2 ⟨rfl, hx2⟩
      rw [k2]
      have hx3 := hx.trans (hx2.mono hx.size)
      have hb := H0.out.trans (hx3.mono H0.out.size)
      have HB := Go.Lib.hid hb
      clear hb
      clear hx hx2
      go_wp2_with fail
      go_ret
      exact ⟨ret_bool (by have h := hres.out; first | (rw [h]; done) | (simp [h]; done) | (simp [h]; omega)), HB.out⟩
    all_goals
      have hres : Hid (res = false) := Go.Lib.hid (by rw [HCK.out, k1, k2]; simp; omega)
      try clear p3'
      clear HCK
      go_enter Tryz.func77, Tryz.ntmps77
      go_wp2_with fail
      change Calls _ _ _ (w.alloc (.cells (rrC ⟨rn, ty, cl, tl, rd⟩) 43)) _
      generalize w.alloc (.cells (rrC ⟨rn, ty, cl, tl, rd⟩) 43) = X at *
      obtain ⟨c0, c1, c2, c3, c4⟩ := rr_cells HH.out
      refine (HP.out _).mono ?_; rintro e X1 ⟨v, rfl, _, hx⟩
      rw [k1]
      go_wp2_with fail
      refine (HV.out _).mono ?_; rintro e X2 ⟨rfl, hx2⟩
      rw [k2]
      have hx3 := hx.trans (hx2.mono hx.size)
      have HB := Go.Lib.hid (H0.out.trans (hx3.mono H0.out.size))
      clear hx hx2
      go_wp2_with fail
      go_ret
      exact ⟨ret_bool (by have h := hres.out; first | (rw [h]; done) | (simp [h]; done) | (simp [h]; omega)), HB.out⟩
theorem word_any (n : Int) (w : World) : Calls Tryz.prog 76 #[.int .i64 n] w fun e w' => e = .returned (.bool (decide (0 ≤ n ∧ n ≤ 4294967295))) ∧ w = w' := by
  by_cases h1 : 0 ≤ n
  · by_cases h2 : n < 4294967296
    · have hr : Hid (decide (0 ≤ n ∧ n ≤ 4294967295) = true) := Go.Lib.hid (decide_eq_true ⟨h1, by omega⟩)
      go_enter Tryz.func76, Tryz.ntmps76
      go_wp2_with fail
      go_ret
      exact ⟨ret_bool (by have h := hr.out; first | (rw [h]; done) | (simp; done) | (simp; omega)), rfl⟩
    · have hr : Hid (decide (0 ≤ n ∧ n ≤ 4294967295) = false) := Go.Lib.hid (decide_eq_false fun h => by omega)
      go_enter Tryz.func76, Tryz.ntmps76
      go_wp2_with fail
      go_ret
      exact ⟨ret_bool (by have h := hr.out; first | (rw [h]; done) | (simp; done) | (simp; omega)), rfl⟩
  · have hr : Hid (decide (0 ≤ n ∧ n ≤ 4294967295) = false) := Go.Lib.hid (decide_eq_false fun h => h1 h.1)
    go_enter Tryz.func76, Tryz.ntmps76
    go_wp2_with fail
    go_ret
    exact ⟨ret_bool (by have h := hr.out; first | (rw [h]; done) | (simp; done) | (simp; omega)), rfl⟩
def madeM (r : Rc.RR) (more : Bool) : Rc.RR := if more && checkB r then r else rZ
set_option maxRecDepth 100000 in
set_option maxHeartbeats 8000000 in
theorem refMade_any (r : Rc.RR) (more : Bool) (w : World) (hr : RROk r) : Calls Tryz.prog 47 #[rrV r, .bool more] w fun e w' => e = .returned (rrV (madeM r more)) ∧ Below w.heap.size w w' := by
  have hc := fun W => refCheck_any r W hr
  have hm : madeM r more = if more && checkB r then r else rZ := rfl
  obtain ⟨hR, hZ⟩ := two_boxes w (rrC r) (rrC rZ) 43
  have hb0 : Below w.heap.size w ((w.alloc (.cells (rrC r) 43)).alloc (.cells (rrC rZ) 43)) := ((Below.refl _ w).alloc (Nat.le_refl _) _).alloc (by simp) _
  have hone1 := one_rrC rZ
  have hone2 := one_rrC r
  generalize checkB r = cb at *
  obtain ⟨n, t, c, l, d⟩ := r
  have hck := rr_cells hR
  generalize hres : madeM ⟨n, t, c, l, d⟩ more = res at *
  simp only [rrV] at hc ⊢
  have HC := Go.Lib.hid hc
  have HM := Go.Lib.hid hm
  have HRES := Go.Lib.hid hres
  clear hc hm hres
  cases more with
  | false =>
    have hr : Hid (res = rZ) := Go.Lib.hid (by rw [HM.out]; rfl)
    clear HRES HM hck hR HC
    have HZ := Go.Lib.hid hZ
    have HB0 := Go.Lib.hid hb0
    have HONE1 := Go.Lib.hid hone1
    clear hZ hb0 hone1
    go_enter Tryz.func47, Tryz.ntmps47
    go_wp2_with (refine wpList_store_row rfl 43 (.tmp 4) (.tmp 12) rfl (w.heap.size + 1) (rrC rZ) rfl rfl _ _ HZ.out infoR5 rfl HONE1.out ?_)
    refine ret_rr (r := rZ) rfl rfl rfl (setRow_heap _ (w.heap.size + 1) _ (rrC rZ) _ _ HZ.out) ⟨by rw [hr.out], below_setRow HB0.out (by omega) _⟩
  | true =>
    obtain ⟨c0, c1, c2, c3, c4⟩ := hck
    have hrx := Below.refl ((w.alloc (.cells (rrC ⟨n, t, c, l, d⟩) 43)).alloc (.cells (rrC rZ) 43)).heap.size ((w.alloc (.cells (rrC ⟨n, t, c, l, d⟩) 43)).alloc (.cells (rrC rZ) 43))
    have d0 := c0 _ hrx
    have d1 := c1 _ hrx
    have d2 := c2 _ hrx
    have d3 := c3 _ hrx
    have d4 := c4 _ hrx
    have HZ := Go.Lib.hid hZ
    have HB0 := Go.Lib.hid hb0
    have HONE1 := Go.Lib.hid hone1
    have HONE2 := Go.Lib.hid hone2
    clear hZ hb0 hone1 hone2
    clear hrx hR
    cases cb with
    | false =>
      have hr : Hid (res = rZ) := Go.Lib.hid (by rw [HM.out]; rfl)
      clear HRES HM
      go_enter Tryz.func47, Tryz.ntmps47
      go_wp2_with fail
      clear d0 d1 d2 d3 d4
      change Calls _ _ _ ((w.alloc (.cells (rrC ⟨n, t, c, l, d⟩) 43)).alloc (.cells (rrC rZ) 43)) _
      generalize (w.alloc (.cells (rrC ⟨n, t, c, l, d⟩) 43)).alloc (.cells (rrC rZ) 43) = X at *
      refine (HC.out _).mono ?_; rintro e X1 ⟨rfl, hx⟩
      have hZ1 := heap_laterO (B := 0) HZ.out hx
      have hb1 := HB0.out.trans (hx.mono HB0.out.size)
      have HZ1 := Go.Lib.hid hZ1
      have HB1 := Go.Lib.hid hb1
      clear hZ1 hb1
      go_wp2_with (refine wpList_store_row rfl 43 (.tmp 4) (.tmp 12) rfl (w.heap.size + 1) (rrC rZ) rfl rfl _ _ HZ1.out infoR5 rfl HONE1.out ?_)
      refine ret_rr (r := rZ) rfl rfl rfl (setRow_heap _ (w.heap.size + 1) _ (rrC rZ) _ _ HZ1.out) ⟨by rw [hr.out], below_setRow HB1.out (by omega) _⟩
    | true =>
      have hr : Hid (res = ⟨n, t, c, l, d⟩) := Go.Lib.hid (by rw [HM.out]; rfl)
      clear HRES HM
      go_enter Tryz.func47, Tryz.ntmps47
      go_wp2_with fail
      clear d0 d1 d2 d3 d4
      change Calls _ _ _ ((w.alloc (.cells (rrC ⟨n, t, c, l, d⟩) 43)).alloc (.cells (rrC rZ) 43)) _
      generalize (w.alloc (.cells (rrC ⟨n, t, c, l, d⟩) 43)).alloc (.cells (rrC rZ) 43) = X at *
      refine (HC.out _).mono ?_; rintro e X1 ⟨rfl, hx⟩
      have hZ1 := heap_laterO (B := 0) HZ.out hx
      have hb1 := HB0.out.trans (hx.mono HB0.out.size)
      have HZ1 := Go.Lib.hid hZ1
      have HB1 := Go.Lib.hid hb1
      clear hZ1 hb1
      go_wp2_with (refine wpList_store_row rfl 43 (.tmp 4) (.tmp 13) rfl (w.heap.size + 1) (rrC ⟨n, t, c, l, d⟩) rfl rfl _ _ HZ1.out infoR5 rfl HONE2.out ?_)
      refine ret_rr (r := ⟨n, t, c, l, d⟩) rfl rfl rfl (setRow_heap _ (w.heap.size + 1) _ (rrC ⟨n, t, c, l, d⟩) _ _ HZ1.out) ⟨by rw [hr.out], below_setRow HB1.out (by omega) _⟩
end Go.Proofs.YtkpcmnckdappnaaGreat

/- The contracts of the reference's MakeA, MakeName, MakeSOA. -/
namespace Go.Proofs.YtkpcmnckdappnaaGreat
open Go.RowKit
set_option linter.unusedVariables false

theorem madeM_true (r : Rc.RR) : madeM r true = madeN r := by unfold madeM madeN; simp
theorem madeM_false (r : Rc.RR) : madeM r false = rZ := by unfold madeM; simp
theorem makeA_ref (n : List UInt8) (ttl x : Int) : madeM ⟨n, 1, 1, ttl, four x⟩ (decide (0 ≤ x ∧ x ≤ 4294967295)) = makeAN n ttl x := by
  unfold makeAN
  by_cases h : 0 ≤ x ∧ x ≤ 4294967295
  · rw [decide_eq_true h, if_pos h, madeM_true]
  · rw [decide_eq_false h, if_neg h, madeM_false]
set_option maxRecDepth 100000 in
set_option maxHeartbeats 8000000 in
theorem refMakeA_any (n : List UInt8) (ttl x : Int) (w : World) (hn : n.length ≤ maxLen) :
    Calls Tryz.prog 46 #[.string (mk n), .int .i64 ttl, .int .i64 x] w fun e w' => e = .returned (rrV (makeAN n ttl x)) ∧ Below w.heap.size w w' := by
  have hw := word_any x
  have hby := freshetref1_four_any x
  have hmd := fun W => refMade_any ⟨n, 1, 1, ttl, four x⟩ (decide (0 ≤ x ∧ x ≤ 4294967295)) W ⟨hn, by show (four x).length ≤ maxLen; rw [show (four x).length = 4 from rfl]; unfold maxLen; decide⟩
  rw [makeA_ref] at hmd
  have hone := one_rrC (makeAN n ttl x)
  have hZ := World.alloc_heap_new w (.cells (rrC rZ) 43)
  have hb0 : Below w.heap.size w (w.alloc (.cells (rrC rZ) 43)) := (Below.refl _ w).alloc (Nat.le_refl _) _
  simp only [rrV] at hmd
  generalize makeAN n ttl x = res at *
  generalize four x = l at *
  generalize decide (0 ≤ x ∧ x ≤ 4294967295) = b at *
  have HW := Go.Lib.hid hw
  have HMD := Go.Lib.hid hmd
  have HBY := Go.Lib.hid hby
  have HONE := Go.Lib.hid hone
  clear hw hmd hby hone
  go_enter Tryz.func46, Tryz.ntmps46
  go_wp2_with fail
  change Calls _ _ _ (w.alloc (.cells (rrC rZ) 43)) _
  generalize w.alloc (.cells (rrC rZ) 43) = X at *
  refine (HBY.out _).mono ?_; rintro e X1 ⟨rfl, hx1⟩
  have HX1 := Go.Lib.hid hx1
  have HZ := Go.Lib.hid hZ
  have HB0 := Go.Lib.hid hb0
  clear hx1 hZ hb0
  go_wp2_with fail
  refine (HW.out _).mono ?_; rintro e _ ⟨rfl, rfl⟩
  go_wp2_with fail
  refine (HMD.out _).mono ?_; rintro e X2 ⟨rfl, hx2⟩
  have hb := HB0.out.trans (((HX1.out).trans (hx2.mono HX1.out.size)).mono HB0.out.size)
  have hZ2 := heap_laterO (B := 0) HZ.out (HX1.out.trans (hx2.mono HX1.out.size))
  have HB := Go.Lib.hid hb
  have HZ2 := Go.Lib.hid hZ2
  clear hb hZ2
  clear hx2
  go_wp2_with (refine wpList_store_row rfl 43 (.tmp 6) (.tmp 14) rfl w.heap.size (rrC res) rfl rfl _ _ HZ2.out infoR5 rfl HONE.out ?_)
  refine ret_rr (r := res) rfl rfl rfl (setRow_heap X2 w.heap.size _ (rrC res) _ _ HZ2.out) ⟨rfl, below_setRow HB.out (Nat.le_refl _) _⟩
set_option maxRecDepth 100000 in
set_option maxHeartbeats 8000000 in
theorem refMakeName_any (n : List UInt8) (t ttl : Int) (to : List UInt8) (w : World) (hn : n.length ≤ maxLen) (ht : to.length ≤ maxLen) :
    Calls Tryz.prog 21 #[.string (mk n), .int .i64 t, .int .i64 ttl, .string (mk to)] w fun e w' => e = .returned (rrV (makeNN n t ttl to)) ∧ Below w.heap.size w w' := by
  have hmd := fun (b : Bool) W => refMade_any ⟨n, t, 1, ttl, to⟩ b W ⟨hn, ht⟩
  have hZ := World.alloc_heap_new w (.cells (rrC rZ) 43)
  have hb0 : Below w.heap.size w (w.alloc (.cells (rrC rZ) 43)) := (Below.refl _ w).alloc (Nat.le_refl _) _
  simp only [rrV] at hmd
  by_cases hx : t = 2 ∨ t = 5 ∨ t = 12
  · have hm : makeNN n t ttl to = madeN ⟨n, t, 1, ttl, to⟩ := if_pos hx
    have hmd := hmd true
    rw [madeM_true, ← hm] at hmd
    clear hm
    generalize makeNN n t ttl to = res at *
    have hone := one_rrC res
    have HMD := Go.Lib.hid hmd
    have HONE := Go.Lib.hid hone
    have HZ := Go.Lib.hid hZ
    have HB0 := Go.Lib.hid hb0
    clear hmd hone hZ hb0
    rcases hx with rfl | rfl | rfl
    all_goals
      go_enter Tryz.func21, Tryz.ntmps21
      go_wp2_with fail
      change Calls _ _ _ (w.alloc (.cells (rrC rZ) 43)) _
      generalize w.alloc (.cells (rrC rZ) 43) = X at *
      refine (HMD.out _).mono ?_; rintro e X2 ⟨rfl, hx2⟩
      have HB := Go.Lib.hid (HB0.out.trans (hx2.mono HB0.out.size))
      have HZ2 := Go.Lib.hid (heap_laterO (B := 0) HZ.out hx2)
      clear hx2
      go_wp2_with (refine wpList_store_row rfl 43 (.tmp 8) (.tmp 24) rfl w.heap.size (rrC res) rfl rfl _ _ HZ2.out infoR5 rfl HONE.out ?_)
      refine ret_rr (r := res) rfl rfl rfl (setRow_heap X2 w.heap.size _ (rrC res) _ _ HZ2.out) ⟨rfl, below_setRow HB.out (Nat.le_refl _) _⟩
  · have hm : makeNN n t ttl to = rZ := if_neg hx
    have hmd := hmd false
    rw [madeM_false, ← hm] at hmd
    clear hm
    have e1 : (t == 2) = false := by simp; omega
    have e2 : (t == 5) = false := by simp; omega
    have e3 : (t == 12) = false := by simp; omega
    generalize makeNN n t ttl to = res at *
    have hone := one_rrC res
    have HMD := Go.Lib.hid hmd
    have HONE := Go.Lib.hid hone
    have HZ := Go.Lib.hid hZ
    have HB0 := Go.Lib.hid hb0
    clear hmd hone hZ hb0
    clear hx
    go_enter Tryz.func21, Tryz.ntmps21
    go_wp2_with fail
    change Calls _ _ _ (w.alloc (.cells (rrC rZ) 43)) _
    generalize w.alloc (.cells (rrC rZ) 43) = X at *
    refine (HMD.out _).mono ?_; rintro e X2 ⟨rfl, hx2⟩
    have HB := Go.Lib.hid (HB0.out.trans (hx2.mono HB0.out.size))
    have HZ2 := Go.Lib.hid (heap_laterO (B := 0) HZ.out hx2)
    clear hx2
    go_wp2_with (refine wpList_store_row rfl 43 (.tmp 8) (.tmp 24) rfl w.heap.size (rrC res) rfl rfl _ _ HZ2.out infoR5 rfl HONE.out ?_)
    refine ret_rr (r := res) rfl rfl rfl (setRow_heap X2 w.heap.size _ (rrC res) _ _ HZ2.out) ⟨rfl, below_setRow HB.out (Nat.le_refl _) _⟩
end Go.Proofs.YtkpcmnckdappnaaGreat

/- Tree: the law's adr, ali, asked; rows that were made one behind another; appends to a slice that is full. -/
namespace Go.Proofs.YtkpcmnckdappnaaGreat
open Go.RowKit Go.Sort Go.Lib
set_option maxRecDepth 100000
set_option linter.unusedVariables false
set_option linter.unusedSimpArgs false

/-- rows that were made since w -/
structure MadeL (B : Nat) (l : List (Nat × Obj)) (w W : World) : Prop where
  bl : Below B w W
  le : B ≤ W.heap.size
  at_ : ∀ p ∈ l, B ≤ p.1 ∧ W.heap[p.1]? = some p.2
theorem MadeL.below {B : Nat} {l : List (Nat × Obj)} {w W W' : World} (h : MadeL B l w W) (hb : Below W.heap.size W W') : MadeL B l w W' :=
  ⟨h.bl.trans (hb.mono h.le), Nat.le_trans h.le hb.size, fun p hp => ⟨(h.at_ p hp).1, heap_later hb (h.at_ p hp).2⟩⟩
theorem MadeL.push {B : Nat} {l : List (Nat × Obj)} {w W : World} (h : MadeL B l w W) (o : Obj) : MadeL B ((W.heap.size, o) :: l) w (W.alloc o) := by
  have h2 := h.below ((Below.refl _ W).alloc (Nat.le_refl _) o)
  refine ⟨h2.bl, h2.le, fun p hp => ?_⟩
  rcases List.mem_cons.1 hp with rfl | hp
  · exact ⟨h.le, World.alloc_heap_new _ _⟩
  · exact h2.at_ p hp
theorem MadeL.start (w : World) : MadeL w.heap.size [] w w := ⟨Below.refl _ _, Nat.le_refl _, fun p hp => by cases hp⟩

/-! ### an append to a slice that is full: the old rows lie as they lay -/
theorem below_of_grown {w w' : World} (h : w.grownBy w' none) : Below w.heap.size w w' := ⟨h.os, h.tape, h.output, h.size, fun k hk => h.block k hk (by simp)⟩
theorem run_appF {P : Program} {t e sz bytes : Nat} (ei : EI P t e sz bytes) (w : World) (ty : Nat) {ao : Option Addr} {n m : Nat} {ad : Addr} {c : Nat} {olds news : List Value} (hown : SlC w sz (.slice ao n n) n olds) (hn : 0 < n) (hm : 0 < m)
    (hl : news.length = m * sz) (hc : ∀ j u, news[j]? = some u → w.cell? (ad.add j) = some u) (h63 : n + m ≤ maxLen) (hbytes : (n + m) * bytes ≤ 140737488355328) :
    ∃ v' w', (Builtin.append_ #[t, t] ty #[.slice ao n n, .slice (some ad) m c]).run P w = .ok v' w' ∧ w'.ownsRow w.heap.size e sz v' (n + m) (olds ++ news) ∧ Below w.heap.size w w' := by
  obtain ⟨i, z, ht, hi, hz, hsz, hby, hzs, hpos⟩ := ei
  have hlo := hown.1
  obtain ⟨_, b, off, rfl, hlt, h4⟩ := SlC.at hown hn
  obtain ⟨v', w', h1, h2, h3⟩ := run_append_arg_grows (P := P) w t ty e i z sz bytes ht hi hz hsz hby hzs hpos ⟨b, off, none⟩ n n olds hlo (fun j u hj => by
    have hj2 : j < olds.length := (List.getElem?_eq_some_iff.1 hj).1
    rw [Addr.add_lit, h4 j (by omega)]
    exact hj) ad m c news hl hc (by omega) h63 hbytes
  exact ⟨v', w', h1, h2, below_of_grown h3⟩
theorem wp_appF {P : Program} {t e sz bytes : Nat} (ei : EI P t e sz bytes) {w : World} {o : Oper} {a : Act} {K : Act → World → Prop} {Q : Exit → Act → World → Prop} (s x : Operand)
    (ho : o.op = .call { callee := .builtin .append, args := #[s, x], argTypes := #[t, t] }) {ao : Option Addr} {n m : Nat} {ad : Addr} {c : Nat} {olds news : List Value} (hs : a.eval s = .slice ao n n) (hx : a.eval x = .slice (some ad) m c)
    (hown : SlC w sz (.slice ao n n) n olds) (hn : 0 < n) (hm : 0 < m) (hl : news.length = m * sz) (hc : ∀ j u, news[j]? = some u → w.cell? (ad.add j) = some u) (h63 : n + m ≤ maxLen) (hbytes : (n + m) * bytes ≤ 140737488355328)
    (h : ∀ v' w', w'.ownsRow w.heap.size e sz v' (n + m) (olds ++ news) → Below w.heap.size w w' → K (a.put o.dst v') w') : o.wp P a w K Q := by
  obtain ⟨v', w', hr, h2, h3⟩ := run_appF ei w o.type hown hn hm hl hc h63 hbytes
  unfold Oper.wp execOp
  simp only [ho, resolve, invoke, builtin, Sem.run_bind, Sem.run_pure, Result.andThen_ok, List.map_toArray, List.map_cons, List.map_nil, hs, hx]
  rw [hr]
  exact h v' w' h2 h3
theorem wpList_appF {P : Program} {t e sz bytes : Nat} (ei : EI P t e sz bytes) {w : World} {ops : Array Oper} {rest : List Oper} {o : Oper} {a : Act} {Q : Exit → Act → World → Prop} (s x : Operand)
    (hgd : Region.wanted o (yielded ops a.tmps) = true)
    (ho : o.op = .call { callee := .builtin .append, args := #[s, x], argTypes := #[t, t] }) {ao : Option Addr} {n m : Nat} {ad : Addr} {c : Nat} {olds news : List Value} (hs : a.eval s = .slice ao n n) (hx : a.eval x = .slice (some ad) m c)
    (hown : SlC w sz (.slice ao n n) n olds) (hn : 0 < n) (hm : 0 < m) (hl : news.length = m * sz) (hc : ∀ j u, news[j]? = some u → w.cell? (ad.add j) = some u) (h63 : n + m ≤ maxLen) (hbytes : (n + m) * bytes ≤ 140737488355328)
    (h : ∀ v' w', w'.ownsRow w.heap.size e sz v' (n + m) (olds ++ news) → Below w.heap.size w w' → wpList P ops Q rest (a.put o.dst v') w') : wpList P ops Q (o :: rest) a w :=
  wpList_step fun K hK => by
    rw [if_pos hgd]
    exact wp_appF ei s x ho hs hx hown hn hm hl hc h63 hbytes fun v' w' h2 h3 => hK _ _ (h v' w' h2 h3)
theorem mixT_appF {P : Program} {t e sz bytes : Nat} (ei : EI P t e sz bytes) {w : World} {ops : Array Oper} {rest : List Oper} {o : Oper} {a : Act} {Es : List Nat} {C : World → Prop} {Q : Act → World → Prop} {k tl : Nat} (s x : Operand)
    (hk : (Es.contains k && !(k == tl)) = true) (hgd : Region.wanted o (yielded ops a.tmps) = true)
    (ho : o.op = .call { callee := .builtin .append, args := #[s, x], argTypes := #[t, t] }) {ao : Option Addr} {n m : Nat} {ad : Addr} {c : Nat} {olds news : List Value} (hs : a.eval s = .slice ao n n) (hx : a.eval x = .slice (some ad) m c)
    (hown : SlC w sz (.slice ao n n) n olds) (hn : 0 < n) (hm : 0 < m) (hl : news.length = m * sz) (hc : ∀ j u, news[j]? = some u → w.cell? (ad.add j) = some u) (h63 : n + m ≤ maxLen) (hbytes : (n + m) * bytes ≤ 140737488355328)
    (h : ∀ v' w', w'.ownsRow w.heap.size e sz v' (n + m) (olds ++ news) → Below w.heap.size w w' → C w' ∧ Go.Mix.MixT P ops (fun k => Es.contains k) C Q tl (k + 1) rest (a.put o.dst v') w') :
    Go.Mix.MixT P ops (fun k => Es.contains k) C Q tl k (o :: rest) a w :=
  Go.Mix.mixT_eff hk fun K hK => by
    rw [if_pos hgd]
    exact wp_appF ei s x ho hs hx hown hn hm hl hc h63 hbytes fun v' w' h2 h3 => hK _ _ (h v' w' h2 h3).1 (h v' w' h2 h3).2

/-! ### adr, ali, asked -/
theorem adr_any (n : List UInt8) (x : Int) (w : World) (hn : n.length ≤ maxLen) :
    Calls Tryz.prog 19 #[.string (mk n), .int .i64 x] w fun e w' => e = .returned (rrV (adrP n x)) ∧ Below w.heap.size w w' := by
  have hmk0 := fun W => refMakeA_any n 300 x W hn
  obtain ⟨r, hdef⟩ : ∃ r, r = makeAN n 300 x := ⟨_, rfl⟩
  have hR : adrP n x = r := by rw [hdef]; rfl
  rw [hR]
  obtain ⟨X, hX⟩ : ∃ X, w.alloc (.cells #[.string ⟨#[]⟩, .int .i64 0, .int .i64 0, .int .i64 0, .string ⟨#[]⟩] 43) = X := ⟨_, rfl⟩
  have gX : X.heap[w.heap.size]? = some (.cells (rrC rZ) 43 (0, 0)) := by rw [← hX]; exact World.alloc_heap_new _ _
  have hbX : Below w.heap.size w X := by rw [← hX]; exact (Below.refl _ w).alloc (Nat.le_refl _) _
  have hmk := hmk0 X
  rw [← hdef] at hmk
  clear hmk0 hdef
  have hone := one_rrC r
  have GX := Go.Lib.hid gX
  have HBX := Go.Lib.hid hbX
  have HMK := Go.Lib.hid hmk
  have HONE := Go.Lib.hid hone
  clear gX hbX hmk hone
  go_enter Tryz.func19, Tryz.ntmps19
  go_wp2_with fail
  refine HMK.out.mono ?_; rintro e Z ⟨rfl, hz⟩
  have gZ := heap_later hz GX.out
  have hbZ := HBX.out.trans (hz.mono HBX.out.size)
  have GZ := Go.Lib.hid gZ
  have HBZ := Go.Lib.hid hbZ
  clear gZ hbZ
  clear hz
  go_wp2_with (refine wpList_store_row rfl 43 (.tmp 4) (.tmp 7) rfl w.heap.size (rrC r) rfl rfl _ _ GZ.out infoR5 rfl HONE.out ?_)
  refine ret_rr (r := r) rfl rfl rfl (setRow_heap Z w.heap.size _ (rrC r) _ _ GZ.out) ⟨rfl, below_setRow HBZ.out (Nat.le_refl _) _⟩
theorem ali_any (n to : List UInt8) (w : World) (hn : n.length ≤ maxLen) (ht : to.length ≤ maxLen) :
    Calls Tryz.prog 20 #[.string (mk n), .string (mk to)] w fun e w' => e = .returned (rrV (aliR n to)) ∧ Below w.heap.size w w' := by
  have hmk0 := fun W => refMakeName_any n 5 200 to W hn ht
  obtain ⟨r, hdef⟩ : ∃ r, r = makeNN n 5 200 to := ⟨_, rfl⟩
  have hR : aliR n to = r := by rw [hdef]; rfl
  rw [hR]
  obtain ⟨X, hX⟩ : ∃ X, w.alloc (.cells #[.string ⟨#[]⟩, .int .i64 0, .int .i64 0, .int .i64 0, .string ⟨#[]⟩] 43) = X := ⟨_, rfl⟩
  have gX : X.heap[w.heap.size]? = some (.cells (rrC rZ) 43 (0, 0)) := by rw [← hX]; exact World.alloc_heap_new _ _
  have hbX : Below w.heap.size w X := by rw [← hX]; exact (Below.refl _ w).alloc (Nat.le_refl _) _
  have hmk := hmk0 X
  rw [← hdef] at hmk
  clear hmk0 hdef
  have hone := one_rrC r
  have GX := Go.Lib.hid gX
  have HBX := Go.Lib.hid hbX
  have HMK := Go.Lib.hid hmk
  have HONE := Go.Lib.hid hone
  clear gX hbX hmk hone
  go_enter Tryz.func20, Tryz.ntmps20
  go_wp2_with fail
  refine HMK.out.mono ?_; rintro e Z ⟨rfl, hz⟩
  have gZ := heap_later hz GX.out
  have hbZ := HBX.out.trans (hz.mono HBX.out.size)
  have GZ := Go.Lib.hid gZ
  have HBZ := Go.Lib.hid hbZ
  clear gZ hbZ
  clear hz
  go_wp2_with (refine wpList_store_row rfl 43 (.tmp 4) (.tmp 7) rfl w.heap.size (rrC r) rfl rfl _ _ GZ.out infoR5 rfl HONE.out ?_)
  refine ret_rr (r := r) rfl rfl rfl (setRow_heap Z w.heap.size _ (rrC r) _ _ GZ.out) ⟨rfl, below_setRow HBZ.out (Nat.le_refl _) _⟩
end Go.Proofs.YtkpcmnckdappnaaGreat

/- Tree: the law's asked. -/
namespace Go.Proofs.YtkpcmnckdappnaaGreat
open Go.RowKit Go.Sort Go.Lib
set_option maxRecDepth 100000
set_option linter.unusedVariables false
set_option linter.unusedSimpArgs false

def askQ (k : Int) : Qn := ⟨askN12.getD (k % 12).toNat [], askT9.getD ((k.tdiv 12) % 9).toNat 0, 1⟩
theorem infoQ3 : (Tryz.prog.info? 29).map (·.size) = some 3 := by kernel_rfl
theorem undQ3 : ∃ fs, Tryz.prog.underlying 29 = some (.struct fs) := ⟨_, Tryz.underlying29⟩
abbrev qC (q : Qn) : Array Value := #[.string (mk q.name), .int .i64 q.ty, .int .i64 q.cl]
theorem ret_qn {fn : Func} {p : Tmp} {a : Act} {W : World} {R : Ending → World → Prop} {q : Qn} {g : Nat} (hr : fn.results = #[.cell p 29]) (hp : a.tmps.getD p undef = .pointer (some ⟨g, 0, none⟩)) (hd : a.defers = [])
    (hg : W.heap[g]? = some (.cells (qC q) 29 (0, 0))) (h : R (.returned (qV q)) W) : bodyPost Tryz.prog fn R Exit.ret a W := by
  obtain ⟨fs, hu⟩ := undQ3
  exact bodyPost_ret (results_cell_row hr _ _ g _ _ (0, 0) _ hp hg hu rfl infoQ3) hd h
theorem tdiv_wrap (k : Int) (h1 : -9223372036854775808 ≤ k) (h2 : k ≤ 9223372036854775807) : IntKind.i64.wrap (k.tdiv 12) = k.tdiv 12 := by
  have e : k.tdiv 12 = -((-k).tdiv 12) := by rw [Int.neg_tdiv, Int.neg_neg]
  have a : k.tdiv 12 ≤ 9223372036854775807 := by
    rcases Int.le_total 0 k with h | h
    · have := Int.tdiv_le_self 12 h; omega
    · have := Int.tdiv_nonneg (show 0 ≤ -k by omega) (show (0 : Int) ≤ 12 by decide); omega
  have b : -9223372036854775808 ≤ k.tdiv 12 := by
    rcases Int.le_total 0 k with h | h
    · have := Int.tdiv_nonneg h (show (0 : Int) ≤ 12 by decide); omega
    · have := Int.tdiv_le_self 12 (show 0 ≤ -k by omega); omega
  exact wrapi b a
set_option maxHeartbeats 8000000 in
theorem asked_any (k : Int) (w : World) (h1 : -9223372036854775808 ≤ k) (h2 : k ≤ 9223372036854775807) :
    Calls Tryz.prog 9 #[.int .i64 k] w fun e w' => e = .returned (qV (askQ k)) ∧ Below w.heap.size w w' := by
  have mixed : Tryz.prog.follows .mixedOrders = true := by kernel_rfl
  have hr1 := fun W => Round_any k 12 W (by decide) (by decide)
  have hr2 := fun W => Round_any (k.tdiv 12) 9 W (by decide) (by decide)
  have hdef : askQ k = ⟨askN12.getD (k % 12).toNat [], askT9.getD ((k.tdiv 12) % 9).toNat 0, 1⟩ := rfl
  have htd := tdiv_wrap k h1 h2
  have ha : 0 ≤ k % 12 ∧ k % 12 < 12 := ⟨Int.emod_nonneg _ (by decide), Int.emod_lt_of_pos _ (by decide)⟩
  have hb : 0 ≤ (k.tdiv 12) % 9 ∧ (k.tdiv 12) % 9 < 9 := ⟨Int.emod_nonneg _ (by decide), Int.emod_lt_of_pos _ (by decide)⟩
  generalize askQ k = Q at *
  obtain ⟨i, hi⟩ : ∃ i : Nat, k % 12 = i := ⟨(k % 12).toNat, by omega⟩
  obtain ⟨j, hj⟩ : ∃ j : Nat, (k.tdiv 12) % 9 = j := ⟨((k.tdiv 12) % 9).toNat, by omega⟩
  rw [hi] at ha hdef
  rw [hj] at hb hdef
  simp only [hi, hj] at hr1 hr2
  simp only [Int.toNat_natCast] at hdef
  clear hi hj h1 h2
  obtain ⟨X, hX⟩ : ∃ X, w.alloc (.cells #[.string ⟨#[]⟩, .int .i64 0, .int .i64 0] 29) = X := ⟨_, rfl⟩
  have gX : X.heap[w.heap.size]? = some (.cells #[.string ⟨#[]⟩, .int .i64 0, .int .i64 0] 29 (0, 0)) := by rw [← hX]; exact World.alloc_heap_new _ _
  have hbX : Below w.heap.size w X := by rw [← hX]; exact (Below.refl _ w).alloc (Nat.le_refl _) _
  obtain ⟨Y1, hY1⟩ : ∃ Y1, X.alloc (.cells #[.string ⟨#[1, 119, 1, 97, 0]⟩, .string ⟨#[1, 120, 0]⟩, .string ⟨#[1, 120, 1, 97, 0]⟩, .string ⟨#[1, 87, 1, 98, 0]⟩, .string ⟨#[1, 119, 1, 99, 1, 98, 0]⟩, .string ⟨#[1, 122, 1, 99, 1, 98, 0]⟩, .string ⟨#[2, 110, 111, 1, 97, 0]⟩, .string ⟨#[1, 108, 1, 97, 0]⟩, .string ⟨#[1, 99, 1, 98, 0]⟩, .string ⟨#[1, 109, 1, 98, 0]⟩, .string ⟨#[0]⟩, .string ⟨#[1, 100, 1, 98, 0]⟩] 9) = Y1 := ⟨_, rfl⟩
  obtain ⟨Y, hY⟩ : ∃ Y, Y1.alloc (.cells #[.int .i64 1, .int .i64 1, .int .i64 1, .int .i64 1, .int .i64 15, .int .i64 2, .int .i64 6, .int .i64 5, .int .i64 16] 3) = Y := ⟨_, rfl⟩
  have s1 : SlC Y1 1 (.slice (some ⟨X.heap.size, 0, none⟩) 12 12) 12 (askN12.map fun l => .string (mk l)) := by rw [← hY1]; exact slc_new X 1 12 9 (askN12.map fun l => .string (mk l)) rfl (by decide)
  have hz1 : Y1.heap.size = X.heap.size + 1 := by rw [← hY1]; simp
  have s2 : SlC Y 1 (.slice (some ⟨X.heap.size + 1, 0, none⟩) 9 9) 9 (askT9.map fun n => .int .i64 n) := by rw [← hY, ← hz1]; exact slc_new Y1 1 9 3 (askT9.map fun n => .int .i64 n) rfl (by decide)
  have hb1 : Below X.heap.size X Y1 := by rw [← hY1]; exact (Below.refl _ X).alloc (Nat.le_refl _) _
  have hb2 : Below Y1.heap.size Y1 Y := by rw [← hY]; exact (Below.refl _ Y1).alloc (Nat.le_refl _) _
  have hbY := hb1.trans (hb2.mono hb1.size)
  have s1' := s1.below hb2 (Nat.le_refl _)
  obtain ⟨_, b, off, hba, hlt, hc1⟩ := SlC.at s1' (by decide)
  simp only [Option.some.injEq, Addr.mk.injEq, and_true] at hba
  obtain ⟨rfl, rfl⟩ := hba
  obtain ⟨_, b2, off2, hba2, hlt2, hc2⟩ := SlC.at s2 (by decide)
  simp only [Option.some.injEq, Addr.mk.injEq, and_true] at hba2
  obtain ⟨rfl, rfl⟩ := hba2
  have e1 : Y.cell? ⟨X.heap.size, i, none⟩ = some (.string (mk (askN12.getD i []))) := by
    have := hc1 i (by omega)
    rw [Nat.zero_add] at this
    rw [this, List.getElem?_map, List.getD_eq_getElem?_getD]
    rw [List.getElem?_eq_getElem (show i < askN12.length by show i < 12; omega)]
    rfl
  have e2 : Y.cell? ⟨X.heap.size + 1, j, none⟩ = some (.int .i64 (askT9.getD j 0)) := by
    have := hc2 j (by omega)
    rw [Nat.zero_add] at this
    rw [this, List.getElem?_map, List.getD_eq_getElem?_getD]
    rw [List.getElem?_eq_getElem (show j < askT9.length by show j < 9; omega)]
    rfl
  have gY := heap_later hbY gX
  have hbwY := hbX.trans (hbY.mono hbX.size)
  have D1 := BelowC.cell (W := Y) e1 hlt
  have D2 := BelowC.cell (W := Y) e2 hlt2
  have hne : Nonempty (Subtype (Below Y.heap.size Y)) := ⟨⟨Y, Below.refl _ _⟩⟩
  have HBC := Go.Lib.hid (show Below Y.heap.size Y Y.drew from (Below.refl Y.heap.size Y).drew)
  have hi2 : (i : Int) < 12 := ha.2
  have hj2 : (j : Int) < 9 := hb.2
  have hYs := hbwY.size
  clear s1 s2 s1' hc1 hc2 e1 e2 gX hbX hbY ha hb hlt hlt2 hb1 hb2
  generalize askN12.getD i [] = qn at *
  generalize askT9.getD j 0 = qt at *
  have hone : (qC ⟨qn, qt, 1⟩).all (·.oneCell') = true := by simp [Value.oneCell']
  have HR1 := Go.Lib.hid hr1
  have HR2 := Go.Lib.hid hr2
  have HDEF := Go.Lib.hid hdef
  have GY := Go.Lib.hid gY
  have HBWY := Go.Lib.hid hbwY
  have HONE := Go.Lib.hid hone
  clear hr1 hr2 hdef gY hbwY hone
  go_enter Tryz.func9, Tryz.ntmps9
  go_wp2_with fail
  refine Go.Mix.wp_region_mixT (Es := [2, 8]) 12 (Below Y.heap.size Y) mixed (by kernel_rfl) (Below.refl _ _).drew ?_
  iterate 2 (refine Go.Mix.mixT_step rfl (fun K hK => ?_); have HKK := Go.Lib.hid hK; clear hK; go_simp; refine HKK.out _ _ ?_; clear HKK K)
  refine Go.Mix.mixT_eff rfl (fun K hK => ?_)
  have HKK := Go.Lib.hid hK
  clear hK
  go_simp
  refine (HR1.out _).mono ?_; rintro e _ ⟨rfl, rfl⟩
  go_simp
  refine HKK.out _ _ HBC.out ?_
  clear HKK K
  iterate 5 (refine Go.Mix.mixT_step rfl (fun K hK => ?_); have HKK := Go.Lib.hid hK; clear hK; go_simp; refine HKK.out _ _ ?_; clear HKK K)
  refine Go.Mix.mixT_eff rfl (fun K hK => ?_)
  have HKK := Go.Lib.hid hK
  clear hK
  go_simp
  refine (HR2.out _).mono ?_; rintro e _ ⟨rfl, rfl⟩
  go_simp
  refine HKK.out _ _ HBC.out ?_
  clear HKK K
  iterate 3 (refine Go.Mix.mixT_step rfl (fun K hK => ?_); have HKK := Go.Lib.hid hK; clear hK; go_simp; refine HKK.out _ _ ?_; clear HKK K)
  refine Go.Mix.mixT_last rfl (fun K hK => ?_)
  rw [if_pos (show Region.wanted _ _ = true from rfl)]
  have gD := heap_later HBC.out GY.out
  have hbD := HBWY.out.trans (HBC.out.mono hYs)
  have GD := Go.Lib.hid gD
  have HBD := Go.Lib.hid hbD
  clear gD hbD
  refine wp_store_row 29 (.tmp 2) (.tmp 18) rfl w.heap.size (qC ⟨qn, qt, 1⟩) rfl rfl _ _ GD.out infoQ3 rfl HONE.out ?_
  refine hK _ _ ?_
  clear hK K D1 D2 hne
  go_wp2_with fail
  refine ret_qn (q := ⟨qn, qt, 1⟩) rfl rfl rfl (setRow_heap _ _ _ _ _ _ GD.out) ⟨by rw [HDEF.out], below_setRow HBD.out (Nat.le_refl _) _⟩
end Go.Proofs.YtkpcmnckdappnaaGreat

