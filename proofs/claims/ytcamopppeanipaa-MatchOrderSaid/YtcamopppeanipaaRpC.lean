/- The contract of the reference's Sets: records by their keys. -/
import Derived.Test.YtcamopppeanipaaMgE
import Derived.Test.YtcamopppeanipaaRpB
namespace Go.Proofs.Ytcamopppeanipaa
open Go.RowKit Go.Shelf Go.Sq
set_option linter.unusedVariables false

namespace Rf
/-- an owned list of groups, each of whose lists is owned, all in blocks of their own -/
structure OwnsG (w : World) (base : Nat) (v : Value) (gs : List Gr) (vs : List Value) : Prop where
  len : vs.length = gs.length
  row : w.ownsRow base 47 3 v gs.length (encG gs vs)
  each : ∀ i, i < gs.length → w.ownsRow base 49 5 (vs.getD i nilV) (gs.getD i g0).l.length (encR (gs.getD i g0).l)
  apart : ∀ i j, i < gs.length → j < gs.length → i ≠ j → (vs.getD i nilV).ownBlock = none ∨ (vs.getD i nilV).ownBlock ≠ (vs.getD j nilV).ownBlock
theorem OwnsG.nil (w : World) (base : Nat) : OwnsG w base nilV [] [] := ⟨rfl, World.ownsRow_nil _ _ _ _, fun i h => by simp at h, fun i j h => by simp at h⟩
theorem OwnsG.below {w w' : World} {base : Nat} {v : Value} {gs : List Gr} {vs : List Value} (h : OwnsG w base v gs vs) (hb : Below w.heap.size w w') : OwnsG w' base v gs vs := by
  have hg : w.grownBy w' none := ⟨hb.os, hb.tape, hb.output, hb.size, fun k hk _ => hb.block k hk⟩
  exact ⟨h.len, h.row.kept hg (by cases Value.ownBlock _ <;> simp), fun i hi => (h.each i hi).kept hg (by cases Value.ownBlock _ <;> simp), h.apart⟩
/-- the cells of a group, where it lies -/
theorem ownsG_at {w : World} {base cap m : Nat} {a : Option Addr} {gs : List Gr} {vs : List Value} (h : OwnsG w base (.slice a m cap) gs vs) {k : Nat} (hk : k < gs.length) :
    m = gs.length ∧ ∃ g cur, a = some ⟨g, 0, none⟩ ∧ base ≤ g ∧ w.heap[g]? = some (.cells cur 47 (0, 0)) ∧ w.cell? ⟨g, k * 3, none⟩ = some (.string (mk (gs.getD k g0).name)) ∧ w.cell? ⟨g, k * 3 + 1, none⟩ = some (.int .i64 (gs.getD k g0).ty) ∧
      w.cell? ⟨g, k * 3 + 2, none⟩ = some (vs.getD k nilV) := by
  have hs := SlC.of_owns h.row
  obtain ⟨hm, b, off, ha, _, hc⟩ := SlC.at hs (by omega)
  obtain ⟨h1, h2⟩ := h.row
  rcases h2 with ⟨hv, h0⟩ | ⟨g, cap', cur, hv, hb, hg, _⟩
  · simp only [Value.slice.injEq] at hv
    omega
  · simp only [Value.slice.injEq] at hv
    obtain ⟨hv1, _, _⟩ := hv
    rw [hv1] at ha
    simp only [Option.some.injEq, Addr.mk.injEq] at ha
    obtain ⟨rfl, rfl, _⟩ := ha
    obtain ⟨e0, e1, e2⟩ := encG_get gs vs k h.len hk
    refine ⟨hm, g, cur, hv1, hb, hg, ?_, ?_, ?_⟩
    · have := hc (k * 3) (by omega); rw [Nat.zero_add] at this; rw [this, e0]
    · have := hc (k * 3 + 1) (by omega); rw [Nat.zero_add] at this; rw [this, e1]
    · have := hc (k * 3 + 2) (by omega); rw [Nat.zero_add] at this; rw [this, e2]

/-- a new group, without records yet -/
theorem ownsG_push {W w' : World} {base : Nat} {v v' : Value} {gs : List Gr} {vs : List Value} (h : OwnsG W base v gs vs) (n : List UInt8) (t : Int) (tmp : Obj)
    (hown : w'.ownsRow base 47 3 v' (gs.length + 1) (encG gs vs ++ [.string (mk n), .int .i64 t, nilV])) (hg : (W.alloc tmp).grownBy w' v.ownBlock) :
    OwnsG w' base v' (gs ++ [⟨n, t, []⟩]) (vs ++ [nilV]) := by
  refine ⟨by simp [h.len], ?_, fun i hi => ?_, fun i j hi hj hij => ?_⟩
  · rw [List.length_append, encG_snoc h.len]; exact hown
  · rw [List.length_append, List.length_singleton] at hi
    rcases Nat.lt_or_ge i gs.length with h1 | h1
    · rw [getD_snoc_lt _ _ _ h1, getD_snoc_lt _ _ _ (by rw [h.len]; exact h1)]
      exact ((h.each i h1).alloc tmp).kept hg (rows_apart (h.each i h1) h.row (by decide))
    · obtain rfl : i = gs.length := by omega
      rw [getD_snoc_eq, ← h.len, getD_snoc_eq]
      exact World.ownsRow_nil _ _ _ _
  · rw [List.length_append, List.length_singleton] at hi hj
    rcases Nat.lt_or_ge i gs.length with h1 | h1
    · rcases Nat.lt_or_ge j gs.length with h2 | h2
      · rw [getD_snoc_lt _ _ _ (by rw [h.len]; exact h1), getD_snoc_lt _ _ _ (by rw [h.len]; exact h2)]
        exact h.apart i j h1 h2 hij
      · obtain rfl : j = gs.length := by omega
        rw [getD_snoc_lt _ _ _ (by rw [h.len]; exact h1), ← h.len, getD_snoc_eq]
        cases hb : (vs.getD i nilV).ownBlock with
        | none => exact .inl rfl
        | some g => exact .inr (by simp [nilV, Value.ownBlock])
    · obtain rfl : i = gs.length := by omega
      rw [← h.len, getD_snoc_eq]
      exact .inl (by simp [nilV, Value.ownBlock])

theorem ownsG_put {W w' : World} {base gb n c q : Nat} {gs : List Gr} {vs : List Value} (h : OwnsG W base (.slice (some ⟨gb, 0, none⟩) n c) gs vs) (hq : q < gs.length) (r : Rc.RR) (tmp : Obj) {v' : Value}
    (hown : w'.ownsRow base 49 5 v' ((gs.getD q g0).l.length + 1) (encR (gs.getD q g0).l ++ [.string (mk r.name), .int .i64 r.ty, .int .i64 r.cl, .int .i64 r.ttl, .string (mk r.data)]))
    (hg : (W.alloc tmp).grownBy w' (vs.getD q nilV).ownBlock) (hsn : SameOrNew (W.alloc tmp).heap.size (vs.getD q nilV) v') :
    OwnsG (w'.setCell ⟨gb, q * 3 + 2, none⟩ v') base (.slice (some ⟨gb, 0, none⟩) n c) (gs.set q ⟨(gs.getD q g0).name, (gs.getD q g0).ty, (gs.getD q g0).l ++ [r]⟩) (vs.set q v') := by
  have hn : n = gs.length := ((SlC.of_owns h.row).cap).1
  subst hn
  have hrow := (h.row.alloc tmp).kept hg (rows_apart h.row (h.each q hq) (by decide))
  obtain ⟨s1, s2⟩ := hrow.stored (q * 3 + 2) v'
  have hlt : ∀ j, j < gs.length → ∀ g, (vs.getD j nilV).ownBlock = some g → g < (W.alloc tmp).heap.size := fun j hj g hg' => (((h.each j hj).alloc tmp).lt g hg').2
  refine ⟨by simp [h.len], ?_, fun i hi => ?_, fun i j hi hj hij => ?_⟩
  · rw [List.length_set, ← encG_set gs vs q v' ⟨(gs.getD q g0).name, (gs.getD q g0).ty, (gs.getD q g0).l ++ [r]⟩ h.len hq rfl rfl]
    exact s1
  · rw [List.length_set] at hi
    by_cases hiq : i = q
    · subst hiq
      rw [getD_set_eq' _ _ _ hi, getD_set_eq' _ _ _ (by rw [h.len]; exact hi)]
      simp only
      rw [List.length_append, encR_snoc]
      exact hown.kept s2 (rows_apart hown hrow (by decide))
    · rw [getD_set_ne' _ _ _ hiq, getD_set_ne' _ _ _ hiq]
      have hi2 := ((h.each i hi).alloc tmp).kept hg (h.apart i q hi hq hiq)
      exact hi2.kept s2 (rows_apart hi2 hrow (by decide))
  · rw [List.length_set] at hi hj
    by_cases hiq : i = q
    · subst hiq
      have hjq : j ≠ i := fun e => hij e.symm
      rw [getD_set_eq' _ _ _ (by rw [h.len]; exact hi), getD_set_ne' _ _ _ hjq]
      rcases hsn with hs | ⟨g, hg1, hg2⟩
      · rw [hs]; exact h.apart i j hi hj hij
      · right
        rw [hg1]
        intro e
        have := hlt j hj g e.symm
        omega
    · by_cases hjq : j = q
      · subst hjq
        rw [getD_set_ne' _ _ _ hiq, getD_set_eq' _ _ _ (by rw [h.len]; exact hj)]
        rcases hsn with hs | ⟨g, hg1, hg2⟩
        · rw [hs]; exact h.apart i j hi hj hij
        · cases hb : (vs.getD i nilV).ownBlock with
          | none => exact .inl rfl
          | some g3 =>
            right
            rw [hg1]
            intro e
            simp only [Option.some.injEq] at e
            have := hlt i hi g3 hb
            omega
      · rw [getD_set_ne' _ _ _ hiq, getD_set_ne' _ _ _ hjq]
        exact h.apart i j hi hj hij


end Rf

/-! ### plain: keys are unlike -/
def Apart (gs : List Gr) : Prop := ∀ i j, i < gs.length → j < gs.length → i ≠ j → ¬ ((gs.getD i g0).name = (gs.getD j g0).name ∧ (gs.getD i g0).ty = (gs.getD j g0).ty)
theorem keyP_true {r : Rc.RR} {g : Gr} : keyP r g = true ↔ g.name = Nm.foldN r.name ∧ g.ty = r.ty := by unfold keyP; simp
theorem idx_neg {α : Type} {p : α → Bool} {l : List α} (h : ∀ x ∈ l, p x = false) : idx p l = -1 := by
  have h1 := idx_lt p l
  have h2 := idx_any p l
  cases hb : l.any p with
  | true => 
    obtain ⟨x, hx, hp⟩ := List.any_eq_true.1 hb
    rw [h x hx] at hp; cases hp
  | false =>
    rw [hb] at h2
    have : ¬ 0 ≤ idx p l := fun h0 => by have := h2.1 h0; cases this
    omega
theorem idx_spec (p : Gr → Bool) : ∀ (l : List Gr), 0 ≤ idx p l → p (l.getD (idx p l).toNat g0) = true
  | [], h => by simp [idx] at h
  | x :: l, h => by
    by_cases hx : p x = true
    · have : idx p (x :: l) = 0 := by simp [idx, hx]
      rw [this]
      simpa using hx
    · simp only [idx, hx, Bool.false_eq_true, if_false] at h ⊢
      by_cases hn : idx p l < 0
      · rw [if_pos hn] at h; omega
      · rw [if_neg hn]
        have h1 := idx_spec p l (by omega)
        rw [show (idx p l + 1).toNat = (idx p l).toNat + 1 by omega]
        simpa using h1
theorem idx_only {r : Rc.RR} {gs : List Gr} (ha : Apart gs) {q : Nat} (hq : q < gs.length) (hp : keyP r (gs.getD q g0) = true) : idx (keyP r) gs = q := by
  have h2 := (idx_any (keyP r) gs).2 (List.any_eq_true.2 ⟨_, getD_mem' hq, hp⟩)
  have h3 := idx_lt (keyP r) gs
  have h4 := idx_spec (keyP r) gs h2
  by_cases he : (idx (keyP r) gs).toNat = q
  · omega
  · exfalso
    rw [keyP_true] at hp h4
    exact ha _ _ (by omega) hq he ⟨h4.1.trans hp.1.symm, h4.2.trans hp.2.symm⟩
theorem apart_add {gs : List Gr} (ha : Apart gs) (r : Rc.RR) : Apart (addG gs r) := by
  unfold addG
  split
  · split
    · rename_i hneg
      intro i j hi hj hij
      rw [List.length_append, List.length_singleton] at hi hj
      have hno : ∀ k, k < gs.length → ¬ ((gs.getD k g0).name = Nm.foldN r.name ∧ (gs.getD k g0).ty = r.ty) := fun k hk h => by
        have := idx_only ha hk (keyP_true.2 h)
        omega
      rcases Nat.lt_or_ge i gs.length with h1 | h1
      · rw [getD_snoc_lt _ _ _ h1]
        rcases Nat.lt_or_ge j gs.length with h2 | h2
        · rw [getD_snoc_lt _ _ _ h2]; exact ha i j h1 h2 hij
        · obtain rfl : j = gs.length := by omega
          rw [getD_snoc_eq]
          exact hno i h1
      · obtain rfl : i = gs.length := by omega
        rw [getD_snoc_eq, getD_snoc_lt _ _ _ (by omega)]
        exact fun h => hno j (by omega) ⟨h.1.symm, h.2.symm⟩
    · rename_i hneg
      have hkey : ∀ q k, ((gs.set q (addTo r (gs.getD q g0))).getD k g0).name = (gs.getD k g0).name ∧ ((gs.set q (addTo r (gs.getD q g0))).getD k g0).ty = (gs.getD k g0).ty := fun q k => by
        by_cases hk : k = q
        · subst hk
          by_cases hl : k < gs.length
          · rw [getD_set_eq' _ _ _ hl]
            unfold addTo
            split <;> exact ⟨rfl, rfl⟩
          · rw [List.set_eq_of_length_le (by omega)]
            exact ⟨rfl, rfl⟩
        · rw [getD_set_ne' _ _ _ hk]
          exact ⟨rfl, rfl⟩
      intro i j hi hj hij h
      rw [List.length_set] at hi hj
      rw [(hkey _ i).1, (hkey _ j).1, (hkey _ i).2, (hkey _ j).2] at h
      exact ha i j hi hj hij h
  · exact ha
theorem groupsN_apart (l : List Rc.RR) : Apart (groupsN l) := by
  have key : ∀ (l : List Rc.RR) (gs : List Gr), Apart gs → Apart (l.foldl addG gs) := by
    intro l
    induction l with
    | nil => intro gs h; exact h
    | cons r l ih => intro gs h; exact ih _ (apart_add h r)
  exact key l [] (fun i j h => by simp at h)

/-- where the key was met last -/
def AtIs (p : Gr → Bool) (gs : List Gr) (j : Nat) (v : Value) : Prop := (v = .int .i64 (-1) ∧ ∀ x ∈ gs.take j, p x = false) ∨ ∃ q : Nat, q < j ∧ v = .int .i64 q ∧ p (gs.getD q g0) = true
theorem AtIs.no {p : Gr → Bool} {gs : List Gr} {j : Nat} {v : Value} (h : AtIs p gs j v) (hj : j < gs.length) (hp : p (gs.getD j g0) = false) : AtIs p gs (j + 1) v := by
  rcases h with ⟨h1, h2⟩ | ⟨q, h1, h2, h3⟩
  · refine .inl ⟨h1, fun x hx => ?_⟩
    rw [List.take_succ_eq_append_getElem hj] at hx
    rcases List.mem_append.1 hx with h | h
    · exact h2 x h
    · simp at h
      rw [h]
      simpa [List.getD_eq_getElem?_getD, hj] using hp
  · exact .inr ⟨q, by omega, h2, h3⟩

def FK (ia B : Nat) (i : Nat) (v : Value) (w : World) : Prop := i = ia → ∃ kb, v = .pointer (some ⟨kb, 0, none⟩) ∧ B ≤ kb ∧ w.heap[kb]? = some (.cells #[.string ⟨#[]⟩, .int .i64 0] 45 (0, 0))
def SK (ic ia : Nat) (n : List UInt8) (i : Nat) (v : Value) : Prop := (i = ic → v = .string (mk n)) ∧ (i = ia → ∃ kb, v = .pointer (some ⟨kb, 0, none⟩))
theorem FK.stable {ia B i : Nat} {v : Value} {w w' : World} (h : FK ia B i v w) (hg : GB w w') : FK ia B i v w' := fun e => by
  obtain ⟨kb, h1, h2, h3⟩ := h e
  exact ⟨kb, h1, h2, hg.heap h3⟩
theorem SK.inh (ic ia : Nat) (n : List UInt8) (h : ic ≠ ia) (i : Nat) : ∃ v, SK ic ia n i v := by
  by_cases h2 : i = ic
  · exact ⟨.string (mk n), fun _ => rfl, fun e => absurd (h2.symm.trans e) h⟩
  · exact ⟨.pointer (some ⟨0, 0, none⟩), fun e => absurd e h2, fun _ => ⟨0, rfl⟩⟩
theorem infoKey : (Try.prog.info? 45).map (·.size) = some 2 := by kernel_rfl

/-- the class of the last region: the list's place, and the record -/
def CG2 (g j : Nat) (v : Value) (b o : Nat) (r : Rc.RR) (w : World) : Prop := w.cell? ⟨g, j, none⟩ = some v ∧ RRAt w b o r
theorem CG2.vq {g j : Nat} {v : Value} {b o : Nat} {r : Rc.RR} (w3 : Subtype (CG2 g j v b o r)) : w3.1.cell? ⟨g, j, none⟩ = some v := w3.2.1
theorem CG2.r0 {g j : Nat} {v : Value} {b o : Nat} {r : Rc.RR} (w3 : Subtype (CG2 g j v b o r)) : w3.1.cell? ⟨b, o, none⟩ = some (.string (mk r.name)) := w3.2.2.1
theorem CG2.r1 {g j : Nat} {v : Value} {b o : Nat} {r : Rc.RR} (w3 : Subtype (CG2 g j v b o r)) : w3.1.cell? ⟨b, o + 1, none⟩ = some (.int .i64 r.ty) := w3.2.2.2.1
theorem CG2.r2 {g j : Nat} {v : Value} {b o : Nat} {r : Rc.RR} (w3 : Subtype (CG2 g j v b o r)) : w3.1.cell? ⟨b, o + 2, none⟩ = some (.int .i64 r.cl) := w3.2.2.2.2.1
theorem CG2.r3 {g j : Nat} {v : Value} {b o : Nat} {r : Rc.RR} (w3 : Subtype (CG2 g j v b o r)) : w3.1.cell? ⟨b, o + 3, none⟩ = some (.int .i64 r.ttl) := w3.2.2.2.2.2.1
theorem CG2.r4 {g j : Nat} {v : Value} {b o : Nat} {r : Rc.RR} (w3 : Subtype (CG2 g j v b o r)) : w3.1.cell? ⟨b, o + 4, none⟩ = some (.string (mk r.data)) := w3.2.2.2.2.2.2
theorem CG2.keep {g j : Nat} {v : Value} {b o : Nat} {r : Rc.RR} {W W' : World} (h : CG2 g j v b o r W) (hk : ∀ p v, W.cell? p = some v → p.block = g ∨ p.block = b → W'.cell? p = some v) : CG2 g j v b o r W' :=
  ⟨hk _ _ h.1 (.inl rfl), hk _ _ h.2.1 (.inr rfl), hk _ _ h.2.2.1 (.inr rfl), hk _ _ h.2.2.2.1 (.inr rfl), hk _ _ h.2.2.2.2.1 (.inr rfl), hk _ _ h.2.2.2.2.2 (.inr rfl)⟩
theorem CG2.alloc {g j : Nat} {v : Value} {b o : Nat} {r : Rc.RR} {W : World} (h : CG2 g j v b o r W) (ob : Obj) : CG2 g j v b o r (W.alloc ob) :=
  h.keep fun p _ hp _ => (((Below.refl W.heap.size W).alloc (Nat.le_refl _) ob).cell (p := p) (World.block_lt_of_cell? _ _ hp)).trans hp

/-- what the loop has laid by -/
def GrI2 (w : World) (l : List Rc.RR) (k : Nat) (v : Value) (wr : World) : Prop :=
  ∃ vs, Rf.OwnsG wr w.heap.size v (groupsN (l.take k)) vs ∧ (∀ g ∈ groupsN (l.take k), g.l.length ≤ k ∧ ∀ x ∈ g.l, RROk x) ∧ (groupsN (l.take k)).length ≤ k ∧ Below w.heap.size w wr

set_option maxRecDepth 100000 in
set_option maxHeartbeats 8000000 in
theorem refSets_any (a : Option Addr) (cap : Nat) (l : List Rc.RR) (w : World) (hst : RRs w (.slice a l.length cap) l) (hn : l.length ≤ 1000000) (hok : ∀ r ∈ l, RROk r) :
    Calls Try.prog 22 #[.slice a l.length cap] w fun e w' => ∃ v vs, e = .returned v ∧ Rf.OwnsG w' w.heap.size v (groupsN l) vs ∧ Below w.heap.size w w' := by
  have HB := Go.Lib.hid (Below.refl w.heap.size w)
  have hcap := (slc_bounds hst).1
  have HST := Go.Lib.hid hst
  have HOK := Go.Lib.hid hok
  clear hst hok
  generalize hN : l.length = N at *
  have HN := Go.Lib.hid hN
  clear hN
  go_enter Try.func22, Try.ntmps22
  go_wp2_with fail
  go_loopw [3, 4] (fun v i wr => ∃ k : Nat, i = .int .i64 k ∧ k ≤ N ∧ GrI2 w l k v wr) (fun _ i _ => N - (intOf i).toNat)
  case atStart => exact ⟨0, rfl, by omega, [], Rf.OwnsG.nil _ _, by simp [groupsN], by simp [groupsN], HB.out⟩
  case round =>
    obtain ⟨k, rfl, hk, vs, hog, hgl, hgn, hbr⟩ := hrel
    clear HB
    have hbz := hbr.size
    obtain ⟨a2, c2, hv2, _, _⟩ := (SlC.of_owns hog.row).slice
    subst hv2
    by_cases hlt : k < N
    · have hst := HST.out.below hbr (Nat.le_refl _)
      rw [← HN.out] at hst
      obtain ⟨b, off, rfl, hbw, hcell⟩ := RRs.at hst (by rw [HN.out]; omega)
      have hbold : b < w.heap.size := by
        have h0 := HST.out
        rw [← HN.out] at h0
        obtain ⟨b0, off0, e0, hb0, _⟩ := RRs.at h0 (by rw [HN.out]; omega)
        simp only [Option.some.injEq, Addr.mk.injEq, and_true] at e0
        omega
      obtain ⟨e0, e1, e2, e3, e4⟩ := hcell k (by rw [HN.out]; exact hlt)
      obtain ⟨hsn, hmem⟩ := rr_step HN.out hlt
      have hrok := HOK.out _ hmem
      have hgs : groupsN (l.take (k + 1)) = addG (groupsN (l.take k)) (l.getD k r0) := by rw [hsn, groupsN_snoc]
      have hdis := groupsN_apart (l.take k)
      have hrk : l.getD k r0 = l.getD k r0 := rfl
      obtain ⟨r, hr⟩ : ∃ r, l.getD k r0 = r := ⟨_, rfl⟩
      rw [hr] at e0 e1 e2 e3 e4 hrok hgs
      have HGS := Go.Lib.hid hgs
      have HOG := Go.Lib.hid hog
      have HGL := Go.Lib.hid hgl
      have HB := Go.Lib.hid hbr
      have HROK := Go.Lib.hid hrok
      have HRK0 := Go.Lib.hid hr
      have HDIS := Go.Lib.hid hdis
      clear hgs hog hgl hbr hrok hr hdis
      clear hcell hst hmem hsn hrk
      generalize hgg : groupsN (l.take k) = gs at *
      have HGG := Go.Lib.hid hgg
      clear hgg
      by_cases hcl : r.cl = 1
      · have q1 : (r.cl != 1) = false := by simp [hcl]
        obtain ⟨rn, rty, rcl, rttl, rd⟩ := r
        simp only at hcl e0 e1 e2 e3 e4
        subst hcl
        have HRK := HRK0
        have hlt' := hlt
        go_wp2_with fail
        have c0 := GB.cell (W := wr) e0 hbw
        have c1 := GB.cell (W := wr) e1 hbw
        have hne : Nonempty (Subtype (GB wr.drew)) := ⟨⟨wr.drew, GB.refl _⟩⟩
        have hfo := fun w => refFold_any (mk rn) w (by rw [size_mk]; exact HROK.out.1)
        rw [bl_mk] at hfo
        have HFO := Go.Lib.hid hfo
        clear hfo
        clear e0 e1 e2 e3 e4
        refine Go.Mix.wp_region_mixR [5, 12] 13 GB (FK 12 wr.heap.size) (SK 5 12 (Nm.foldN rn)) mixed (by kernel_rfl) GB.trans GB.refl (fun i v w w' h hg => h.stable hg) (SK.inh 5 12 _ (by decide)) ?_
        iterate 5 (refine Go.Mix.mixR_step rfl (fun K hK => ?_); have HKK := Go.Lib.hid hK; clear hK; go_simp; refine HKK.out _ ?_; clear HKK K)
        refine Go.Mix.mixR_eff rfl rfl (fun w7 hw7 => ?_) (fun v5 hv5 => ?_)
        · go_simp
          show Calls _ _ _ _ _
          refine (HFO.out _).mono ?_; rintro e w8 ⟨rfl, hx⟩
          exact ⟨hx, ⟨fun _ => rfl, (fun h => by cases h)⟩, (fun h => by cases h)⟩
        obtain rfl := hv5.1 rfl
        clear hv5
        iterate 6 (refine Go.Mix.mixR_step rfl (fun K hK => ?_); have HKK := Go.Lib.hid hK; clear hK; go_simp; refine HKK.out _ ?_; clear HKK K)
        refine Go.Mix.mixR_eff rfl rfl (fun w7 hw7 => ?_) (fun v12 hv12 => ?_)
        · have h7 : wr.drew.heap.size ≤ w7.heap.size := GB.size hw7
          have h8 : wr.drew.heap.size = wr.heap.size := rfl
          go_simp
          exact ⟨(Below.refl _ _).alloc (Nat.le_refl _) _, ⟨(fun h => by cases h), fun _ => ⟨_, rfl⟩⟩, fun _ => ⟨w7.heap.size, rfl, by omega, World.alloc_heap_new _ _⟩⟩
        obtain ⟨kb, rfl⟩ := hv12.2 rfl
        clear hv12
        refine Go.Mix.mixR_last rfl (fun w9 hg9 hΦ K hK => ?_)
        obtain ⟨kb', hk1, hk2, hk3⟩ := hΦ.2 rfl
        simp only [Value.pointer.injEq, Option.some.injEq, Addr.mk.injEq, and_true] at hk1
        subst hk1
        clear hΦ
        rw [if_pos (show Region.wanted _ _ = true from rfl)]
        refine wp_store_row 45 (.tmp 5) (.tmp 31) rfl kb _ rfl rfl _ _ hk3 infoKey rfl (by simp [Value.oneCell']) ?_
        refine hK _ _ ?_
        clear hK K
        have hB10 : GB wr (w9.setRow kb #[.string (mk (Nm.foldN rn)), .int .i64 rty]) := below_setRow (Below.trans (Below.drew (Below.refl _ wr)) hg9) hk2 _
        have hkX := setRow_heap w9 kb _ #[.string (mk (Nm.foldN rn)), .int .i64 rty] _ _ hk3
        clear hk3 hg9 c0 c1 hne
        generalize w9.setRow kb #[.string (mk (Nm.foldN rn)), .int .i64 rty] = X at *
        have hOX := HOG.out.below hB10
        have hBX := HB.out.trans (Below.mono hB10 HB.out.size)
        have hsX := hB10.size
        have hgs2 := HGS.out
        unfold addG at hgs2
        rw [if_pos rfl] at hgs2
        have hkltX := (Array.getElem?_eq_some_iff.1 hkX).1
        have HOX := Go.Lib.hid hOX
        have HBX := Go.Lib.hid hBX
        have HKX := Go.Lib.hid hkX
        have HGS2 := Go.Lib.hid hgs2
        have HB10 := Go.Lib.hid hB10
        clear hOX hBX hkX hgs2 hB10
        go_wp2_with fail
        go_loopw [6, 7] (fun at_ j wq => ∃ jn : Nat, j = .int .i64 jn ∧ jn ≤ gs.length ∧ AtIs (keyP ⟨rn, rty, 1, rttl, rd⟩) gs jn at_ ∧ Below X.heap.size X wq) (fun _ j _ => gs.length - (intOf j).toNat)
        case atStart => exact ⟨0, rfl, by omega, .inl ⟨rfl, by simp⟩, Below.refl _ _⟩
        case round =>
          obtain ⟨jn, rfl, hjn, hat, hbi⟩ := hrel
          have hOi := HOX.out.below hbi
          have hbwi := HBX.out.trans (Below.mono hbi HBX.out.size)
          have hki := (hbi.block _ hkltX).trans HKX.out
          have hk0 := cell_of_heap hki 0
          have hk1 := cell_of_heap hki 1
          simp only [List.getElem?_toArray, List.getElem?_cons_succ, List.getElem?_cons_zero] at hk0 hk1
          have hklt := (Array.getElem?_eq_some_iff.1 hki).1
          have HAT0 := Go.Lib.hid hat
          have HBI := Go.Lib.hid hbi
          have HOI := Go.Lib.hid hOi
          have HBW := Go.Lib.hid hbwi
          have HKI := Go.Lib.hid hki
          clear hat hbi hOi hbwi hki
          by_cases hjl : jn < gs.length
          · obtain ⟨hmm, g3, cur3, rfl, hbg, hgh, y0, y1, y2⟩ := Rf.ownsG_at HOI.out hjl
            have hglt := World.block_lt_of_cell? _ _ y0
            clear hmm hgh y2
            have HAN := Go.Lib.hid (AtIs.no HAT0.out hjl)
            obtain ⟨gj, hgj⟩ : ∃ gj, gs.getD jn g0 = gj := ⟨_, rfl⟩
            rw [hgj] at y0 y1 HAN
            have HGJ := Go.Lib.hid hgj
            clear hgj
            obtain ⟨gn, gt, gl⟩ := gj
            simp only at y0 y1
            have Y0 := BelowC.cell (W := wr) y0 hglt
            have Y1 := BelowC.cell (W := wr) y1 hglt
            have K0 := BelowC.cell (W := wr) hk0 hklt
            have K1 := BelowC.cell (W := wr) hk1 hklt
            have hne : Nonempty (Subtype (Below wr.heap.size wr)) := ⟨⟨wr, Below.refl _ _⟩⟩
            have HJL := Go.Lib.hid hjl
            clear y0 y1
            by_cases hab : gn = Nm.foldN rn
            · by_cases htt : gt = rty
              · have hp : keyP ⟨rn, rty, 1, rttl, rd⟩ (gs.getD jn g0) = true := by rw [HGJ.out, keyP_true]; exact ⟨hab, htt⟩
                subst hab htt
                have HP := Go.Lib.hid hp
                clear hp
                go_wp2_with fail
                refine Go.Mix.wp_region_mix (Es := []) (Below wr.heap.size wr) mixed (by kernel_rfl) (Below.refl _ _).drew (fun _ => ?_)
                iterate 7 (refine Go.Mix.mix_step rfl (fun K hK => ?_); have HKK := Go.Lib.hid hK; clear hK; go_simp; refine HKK.out _ _ ?_; clear HKK K)
                refine Go.Mix.mix_nil ?_
                go_wp2_with fail
                go_roundw
                case rel => exact ⟨jn + 1, by go_num, HJL.out, .inr ⟨jn, Nat.lt_succ_self _, rfl, HP.out⟩, HBI.out.drew⟩
                case measure => have := HJL.out; simp [intOf]; omega
              · have hp : keyP ⟨rn, rty, 1, rttl, rd⟩ ⟨gn, gt, gl⟩ = false := by
                  cases hv : keyP ⟨rn, rty, 1, rttl, rd⟩ ⟨gn, gt, gl⟩ with
                  | false => rfl
                  | true => exact absurd (keyP_true.1 hv).2 htt
                have hnx := HAN.out hp
                have htb := beq_eq_false_iff_ne.2 htt
                subst hab
                have HNX := Go.Lib.hid hnx
                clear hnx
                clear hp HAN
                go_wp2_with fail
                refine Go.Mix.wp_region_mix (Es := []) (Below wr.heap.size wr) mixed (by kernel_rfl) (Below.refl _ _).drew (fun _ => ?_)
                iterate 7 (refine Go.Mix.mix_step rfl (fun K hK => ?_); have HKK := Go.Lib.hid hK; clear hK; go_simp; refine HKK.out _ _ ?_; clear HKK K)
                refine Go.Mix.mix_nil ?_
                go_wp2_with fail
                go_roundw
                case rel => exact ⟨jn + 1, by go_num, HJL.out, HNX.out, HBI.out.drew⟩
                case measure => have := HJL.out; simp [intOf]; omega
            · have hp : keyP ⟨rn, rty, 1, rttl, rd⟩ ⟨gn, gt, gl⟩ = false := by
                cases hv : keyP ⟨rn, rty, 1, rttl, rd⟩ ⟨gn, gt, gl⟩ with
                | false => rfl
                | true => exact absurd (keyP_true.1 hv).1 hab
              have hnx := HAN.out hp
              have hne1 : ¬ (mk gn).toList = (mk (Nm.foldN rn)).toList := ne_mk hab
              have hne2 := beq_mk_false hab
              have hne3 : ¬ mk gn = mk (Nm.foldN rn) := fun e => hab (by rw [← bl_mk gn, ← bl_mk (Nm.foldN rn), e])
              have HNX := Go.Lib.hid hnx
              clear hnx
              clear hp HAN hab
              go_wp2_with fail
              refine Go.Mix.wp_region_mix (Es := []) (Below wr.heap.size wr) mixed (by kernel_rfl) (Below.refl _ _).drew (fun _ => ?_)
              iterate 7 (refine Go.Mix.mix_step rfl (fun K hK => ?_); have HKK := Go.Lib.hid hK; clear hK; go_simp; refine HKK.out _ _ ?_; clear HKK K)
              refine Go.Mix.mix_nil ?_
              go_wp2_with fail
              go_roundw
              case rel => exact ⟨jn + 1, by go_num, HJL.out, HNX.out, HBI.out.drew⟩
              case measure => have := HJL.out; simp [intOf]; omega
          · obtain rfl : jn = gs.length := by omega
            clear hjl hjn
            rcases HAT0.out with ⟨rfl, hall⟩ | ⟨q, hq, rfl, hp⟩
            · have hix : idx (keyP ⟨rn, rty, 1, rttl, rd⟩) gs = -1 := idx_neg (by rw [List.take_length] at hall; exact hall)
              have hgs3 := HGS2.out
              rw [hix, if_pos (by omega)] at hgs3
              have hO2len := HOI.out.len
              have hz3 := HBW.out.size
              have hone := one_grp (Nm.foldN rn) rty
              have hgl9 : (gs.length : Int) + 1 - 1 = (gs.length : Int) := by omega
              have HGS3 := Go.Lib.hid hgs3
              have HONE := Go.Lib.hid hone
              clear hgs3 hone
              clear hall hix HAT0
              go_wp2_with (at_builtin; refine wpList_app eiRG (.tmp 48) (.tmp 51) rfl rfl w.heap.size rfl rfl (HOI.out.row.alloc _) (slc_new _ 3 1 47 [.string (mk (Nm.foldN rn)), .int .i64 rty, .slice none 0 0] rfl (by decide)) HONE.out ?h2 ?h3 ?h4 ?h5; rotate_right; intro v3 X3 hown3 hg3; obtain ⟨a3, c3, rfl, _, _⟩ := (SlC.of_owns hown3).slice; have hO3 := Rf.ownsG_push HOI.out _ _ _ hown3 hg3; obtain ⟨hmm, g3, cur3, rfl, hb3g, hh3, y0, y1, y2⟩ := Rf.ownsG_at hO3 (k := gs.length) (by simp); clear hmm hh3 y0 y1 y2; have HG3 := Go.Lib.hid hg3; have HO3 := Go.Lib.hid hO3; have HOWN3 := Go.Lib.hid hown3; clear hg3 hO3 hown3)
              case h2 => unfold maxLen; omega
              case h3 => omega
              case h4 => simp; omega
              obtain ⟨gs1, hgs1⟩ : ∃ gs1, gs1 = gs ++ [⟨Nm.foldN rn, rty, []⟩] := ⟨_, rfl⟩
              obtain ⟨vs1, hvs1⟩ : ∃ vs1, vs1 = vs ++ [nilV] := ⟨_, rfl⟩
              have HO := HO3
              rw [← hgs1, ← hvs1] at HO
              have hq : gs.length < gs1.length := by rw [hgs1]; simp
              have hgq : gs1.getD gs.length g0 = ⟨Nm.foldN rn, rty, []⟩ := by rw [hgs1, getD_snoc_eq]
              have HRES : Hid (groupsN (l.take (k + 1)) = gs1.set gs.length (addTo ⟨rn, rty, 1, rttl, rd⟩ (gs1.getD gs.length g0))) := Go.Lib.hid (by
                rw [HGS3.out, hgq, hgs1]
                simp [addTo])
              have HGL1 : Hid (∀ g ∈ gs1, g.l.length ≤ k ∧ ∀ x ∈ g.l, RROk x) := Go.Lib.hid (fun g hg => by
                rw [hgs1] at hg
                rcases List.mem_append.1 hg with h | h
                · exact HGL.out g h
                · simp at h; subst h; exact ⟨Nat.zero_le _, by simp⟩)
              have HB4 : Hid (Below w.heap.size w X3) := Go.Lib.hid (below_app (HBW.out.alloc hz3 _) (HOI.out.row.alloc _) HG3.out (Nat.le_refl _) (by simp; omega))
              have HLEN1 : Hid (gs1.length ≤ k + 1) := Go.Lib.hid (by rw [hgs1, List.length_append]; simp; omega)
              have HLN1 : Hid (gs1.length = gs.length + 1) := Go.Lib.hid (by rw [hgs1, List.length_append]; rfl)
              have hgl8 : (gs.length : Int) < (gs.length : Int) + 1 := by omega
              have HGS1 := Go.Lib.hid hgs1
              have HVS1 := Go.Lib.hid hvs1
              have HGQ := Go.Lib.hid hgq
              clear hgs1 hvs1 hgq
              clear HO3 HG3 HOWN3 hk0 hk1 HOI HBW HBI HKI
              have hO7 := HO.out
              obtain ⟨hmm, g3', cur3, hga, hbg3, hh3, y0, y1, y2⟩ := Rf.ownsG_at hO7 (k := gs.length) hq
              simp only [Option.some.injEq, Addr.mk.injEq, and_true] at hga
              subst hga
              have hw2 := hO7.each (gs.length) hq
              obtain ⟨aq, cq, hvq, _, _⟩ := (SlC.of_owns hw2).slice
              have hap2 := rows_apart hO7.row hw2 (by decide)
              obtain ⟨lq, hlq⟩ : ∃ lq, lq = (gs1.getD (gs.length) g0).l := ⟨_, rfl⟩
              rw [← hlq] at hvq hw2
              rw [hvq] at y2 hw2 hap2
              have hgm := HGL1.out _ (getD_mem' (d := g0) hq)
              rw [← hlq] at hgm
              have hres0 := HRES.out
              unfold addTo at hres0
              rw [← hlq] at hres0
              have hst7 := HST.out.below HB4.out (Nat.le_refl _)
              rw [← HN.out] at hst7
              obtain ⟨b7, off7, hba, hbw7, hcell7⟩ := RRs.at hst7 (by rw [HN.out]; omega)
              simp only [Option.some.injEq, Addr.mk.injEq, and_true] at hba
              obtain ⟨rfl, rfl⟩ := hba
              have hat7 := hcell7 k (by rw [HN.out]; exact hlt)
              rw [HRK.out] at hat7
              have hltX := World.block_lt_of_cell? _ _ y2
              have hin := fun (W : World) (h : Below X3.heap.size X3 W) => refIn_any aq cq lq ⟨rn, rty, 1, rttl, rd⟩ W ((SlC.of_owns hw2).below h (Nat.le_refl _)) hgm.2 HROK.out
              have hne7 : Nonempty (Subtype (Below X3.heap.size X3)) := ⟨⟨X3, Below.refl _ _⟩⟩
              have Y2 := BelowC.cell (W := X3) y2 hltX
              have R0 := BelowC.cell (W := X3) hat7.1 hbw7
              have R1 := BelowC.cell (W := X3) hat7.2.1 hbw7
              have R2 := BelowC.cell (W := X3) hat7.2.2.1 hbw7
              have R3 := BelowC.cell (W := X3) hat7.2.2.2.1 hbw7
              have R4 := BelowC.cell (W := X3) hat7.2.2.2.2 hbw7
              have HBC := Go.Lib.hid (show Below X3.heap.size X3 X3.drew from (Below.refl X3.heap.size X3).drew)
              have hqi : (gs.length : Int) < ((gs.length + 1 : Nat) : Int) := by omega
              have HIN := Go.Lib.hid hin
              have HLQ := Go.Lib.hid hlq
              have HW2 := Go.Lib.hid hw2
              have HGM := Go.Lib.hid hgm
              have HRES0 := Go.Lib.hid hres0
              have HAT := Go.Lib.hid hat7
              have HST7 := Go.Lib.hid hst7
              have HVQ := Go.Lib.hid hvq
              have HAP2 := Go.Lib.hid hap2
              clear hin hlq hw2 hgm hres0 hat7 hst7 hvq hap2
              clear hO7 hcell7 y0 y1 hh3 hmm
              refine Go.Mix.wp_region_mix (Es := [9]) (Below X3.heap.size X3) mixed (by kernel_rfl) (Below.refl _ _).drew (fun _ => ?_)
              iterate 9 (refine Go.Mix.mix_step rfl (fun K hK => ?_); have HKK := Go.Lib.hid hK; clear hK; go_simp; refine HKK.out _ _ ?_; clear HKK K)
              refine Go.Mix.mix_eff rfl (fun K hK => ?_)
              have HKK := Go.Lib.hid hK
              clear hK
              go_simp
              refine (HIN.out _ HBC.out).mono ?_; rintro e X4 ⟨rfl, hx⟩
              have hb := HBC.out.trans (hx.mono HBC.out.size)
              clear HBC
              have HBC := Go.Lib.hid hb
              clear hx hb
              go_simp
              refine HKK.out _ _ HBC.out ?_
              clear HKK K
              iterate 1 (refine Go.Mix.mix_step rfl (fun K hK => ?_); have HKK := Go.Lib.hid hK; clear hK; go_simp; refine HKK.out _ _ ?_; clear HKK K)
              refine Go.Mix.mix_nil ?_
              clear Y2 R0 R1 R2 R3 R4
              have hbX := HBC.out
              clear HBC
              have hO4 := HO.out.below hbX
              have hB5 := HB4.out.trans (Below.mono hbX HB4.out.size)
              have y4 := (hbX.cell (p := ⟨g3, gs.length * 3 + 2, none⟩) hltX).trans y2
              have hat4 := HAT.out.below hbX hbw7
              have hbw4 : b < X4.heap.size := Nat.lt_of_lt_of_le hbw7 hbX.size
              have HO4 := Go.Lib.hid hO4
              have HB5 := Go.Lib.hid hB5
              have HBX := Go.Lib.hid hbX
              clear hO4 hB5 hbX
              clear y2
              generalize hany : (lq.any fun x => Rc.sameRR x ⟨rn, rty, 1, rttl, rd⟩) = bb at *
              cases bb with
              | true =>
                have hres : groupsN (l.take (k + 1)) = gs1 := by
                  rw [HRES0.out]
                  simp [List.getD_eq_getElem?_getD, hq]
                have HRES2 := Go.Lib.hid hres
                have HANY := Go.Lib.hid hany
                clear hres hany
                clear hat4 y4
                go_wp2_with fail
                go_roundw
                case rel => exact ⟨k + 1, by go_num, by omega, vs1, by rw [HRES2.out]; exact HO4.out, by rw [HRES2.out]; exact fun g hg => ⟨Nat.le_succ_of_le (HGL1.out g hg).1, (HGL1.out g hg).2⟩, by rw [HRES2.out]; exact HLEN1.out, HB5.out⟩
                case measure => simp [intOf]; omega
              | false =>
                have hres : groupsN (l.take (k + 1)) = gs1.set (gs.length) ⟨(gs1.getD (gs.length) g0).name, (gs1.getD (gs.length) g0).ty, (gs1.getD (gs.length) g0).l ++ [⟨rn, rty, 1, rttl, rd⟩]⟩ := by
                  rw [HRES0.out, ← HLQ.out]
                  simp
                have hC0 : CG2 g3 (gs.length * 3 + 2) (.slice aq lq.length cq) b (off + k * 5) ⟨rn, rty, 1, rttl, rd⟩ X4 := ⟨y4, hat4⟩
                have f2 := fun w3 => CG2.vq (g := g3) (j := gs.length * 3 + 2) (v := .slice aq lq.length cq) (b := b) (o := off + k * 5) (r := ⟨rn, rty, 1, rttl, rd⟩) w3
                have r0' := fun w3 => CG2.r0 (g := g3) (j := gs.length * 3 + 2) (v := .slice aq lq.length cq) (b := b) (o := off + k * 5) (r := ⟨rn, rty, 1, rttl, rd⟩) w3
                have r1' := fun w3 => CG2.r1 (g := g3) (j := gs.length * 3 + 2) (v := .slice aq lq.length cq) (b := b) (o := off + k * 5) (r := ⟨rn, rty, 1, rttl, rd⟩) w3
                have r2' := fun w3 => CG2.r2 (g := g3) (j := gs.length * 3 + 2) (v := .slice aq lq.length cq) (b := b) (o := off + k * 5) (r := ⟨rn, rty, 1, rttl, rd⟩) w3
                have r3' := fun w3 => CG2.r3 (g := g3) (j := gs.length * 3 + 2) (v := .slice aq lq.length cq) (b := b) (o := off + k * 5) (r := ⟨rn, rty, 1, rttl, rd⟩) w3
                have r4' := fun w3 => CG2.r4 (g := g3) (j := gs.length * 3 + 2) (v := .slice aq lq.length cq) (b := b) (o := off + k * 5) (r := ⟨rn, rty, 1, rttl, rd⟩) w3
                have hne4 : Nonempty (Subtype (CG2 g3 (gs.length * 3 + 2) (.slice aq lq.length cq) b (off + k * 5) ⟨rn, rty, 1, rttl, rd⟩)) := ⟨⟨X4, hC0⟩⟩
                have hap : some g3 ≠ (Value.slice aq lq.length cq).ownBlock ∧ some b ≠ (Value.slice aq lq.length cq).ownBlock := by
                  refine ⟨?_, fun e => ?_⟩
                  · rcases HAP2.out with h | h
                    · simp [Value.ownBlock] at h
                    · exact h
                  · have := (HW2.out.lt b e.symm).1
                    omega
                have HC0 := Go.Lib.hid hC0
                have HANY := Go.Lib.hid hany
                have HRES2 := Go.Lib.hid hres
                have HAP := Go.Lib.hid hap
                clear hany hres hap
                clear hC0 y4 hat4
                go_wp2_with fail
                refine Go.Mix.wp_region_mixT (Es := [11, 12]) 15 (CG2 g3 (gs.length * 3 + 2) (.slice aq lq.length cq) b (off + k * 5) ⟨rn, rty, 1, rttl, rd⟩) mixed (by kernel_rfl) HC0.out ?_
                iterate 11 (refine Go.Mix.mixT_step rfl (fun K hK => ?_); have HKK := Go.Lib.hid hK; clear hK; go_simp; refine HKK.out _ _ ?_; clear HKK K)
                refine Go.Mix.mixT_eff rfl (fun K hK => ?_)
                have HKK := Go.Lib.hid hK
                clear hK
                go_simp
                refine HKK.out _ _ (HC0.out.alloc _) ?_
                clear HKK K
                have hwq := (HO4.out.each (gs.length) hq).alloc (.cells #[.string (mk rn), .int .i64 rty, .int .i64 1, .int .i64 rttl, .string (mk rd)] 49)
                rw [← HLQ.out] at hwq
                rw [HVQ.out] at hwq
                have hrow4 := HO4.out.row.alloc (.cells #[.string (mk rn), .int .i64 rty, .int .i64 1, .int .i64 rttl, .string (mk rd)] 49)
                have hnc := new_cells X4 [.string (mk rn), .int .i64 rty, .int .i64 1, .int .i64 rttl, .string (mk rd)] 49
                have hone5 := one_rr ⟨rn, rty, 1, rttl, rd⟩
                have hlqk : lq.length ≤ k := HGM.out.1
                have hz4 := HB5.out.size
                have HWQ := Go.Lib.hid hwq
                have HROW4 := Go.Lib.hid hrow4
                have HNC := Go.Lib.hid hnc
                have HONE5 := Go.Lib.hid hone5
                clear hwq hrow4 hnc hone5
                refine mixT_app1 eiRR (.tmp 73) (.tmp 78) rfl rfl rfl w.heap.size (v := .slice aq lq.length cq) (n := lq.length) (xs := encR lq) (ad := ⟨X4.heap.size, 0, none⟩) (c := 1) rfl rfl HWQ.out (news := [.string (mk rn), .int .i64 rty, .int .i64 1, .int .i64 rttl, .string (mk rd)]) rfl HNC.out HONE5.out (by unfold maxLen; omega) (by omega) (by simp; omega) (fun v5 X5 hown5 hg5 hsn5 => ?_)
                obtain ⟨g5, c5, rfl⟩ := ownsRow_succ hown5
                have hg6 : (X4.alloc (.cells #[.string (mk rn), .int .i64 rty, .int .i64 1, .int .i64 rttl, .string (mk rd)] 49)).grownBy X5 (Value.slice aq lq.length cq).ownBlock := ⟨hg5.os, hg5.tape, hg5.output, hg5.size, hg5.block⟩
                have hrow5 := HROW4.out.kept hg6 (rows_apart HROW4.out HWQ.out (by decide))
                have hc5 := (HC0.out.alloc (.cells #[.string (mk rn), .int .i64 rty, .int .i64 1, .int .i64 rttl, .string (mk rd)] 49)).keep (W' := X5) (fun p v hp hb => hg5.cell hp (by rcases hb with h | h <;> rw [h]; exact HAP.out.1; exact HAP.out.2))
                refine ⟨hc5, ?_⟩
                have y5 := hc5.1
                have hfr := (show X5.ownsRow w.heap.size 47 3 (.slice (some ⟨g3, 0, none⟩) (gs.length + 1) c3) (gs.length + 1) (encG gs1 vs1) from HLN1.out ▸ hrow5).frozenAt (gs.length * 3 + 2)
                have hb6 : Below w.heap.size w X5 := below_app ((HB5.out.alloc hz4 _).drew) HWQ.out hg5 (Nat.le_refl _) (by simp; omega)
                have HG5 := Go.Lib.hid hg6
                have HOWN5 := Go.Lib.hid hown5
                have HSN5 := Go.Lib.hid hsn5
                have HB6 := Go.Lib.hid hb6
                clear hrow5 hc5 hg5 hg6 hown5 hsn5 hb6 r0' r1' r2' r3' r4' f2
                iterate 2 (refine Go.Mix.mixT_step rfl (fun K hK => ?_); have HKK := Go.Lib.hid hK; clear hK; go_simp; refine HKK.out _ _ ?_; clear HKK K)
                refine Go.Mix.mixT_last rfl (fun K hK => ?_)
                have HKK := Go.Lib.hid hK
                clear hK
                go_simp
                refine HKK.out _ _ ?_
                clear HKK K
                have hput : Rf.OwnsG (X5.setCell ⟨g3, gs.length * 3 + 2, none⟩ (.slice (some ⟨g5, 0, none⟩) (lq.length + 1) c5)) w.heap.size (.slice (some ⟨g3, 0, none⟩) (gs.length + 1) c3) (gs1.set (gs.length) ⟨(gs1.getD (gs.length) g0).name, (gs1.getD (gs.length) g0).ty, (gs1.getD (gs.length) g0).l ++ [⟨rn, rty, 1, rttl, rd⟩]⟩) (vs1.set (gs.length) (.slice (some ⟨g5, 0, none⟩) (lq.length + 1) c5)) :=
                  Rf.ownsG_put HO4.out hq ⟨rn, rty, 1, rttl, rd⟩ (.cells #[.string (mk rn), .int .i64 rty, .int .i64 1, .int .i64 rttl, .string (mk rd)] 49) (by rw [← HLQ.out]; exact HOWN5.out) (by rw [HVQ.out]; exact HG5.out) (by rw [HVQ.out]; exact HSN5.out)
                have hb7 := HB6.out.setCell (p := ⟨g3, gs.length * 3 + 2, none⟩) hbg3 (.slice (some ⟨g5, 0, none⟩) (lq.length + 1) c5)
                rw [← HRES2.out] at hput
                have HPUT := Go.Lib.hid hput
                have HB7 := Go.Lib.hid hb7
                clear hput hb7 y5 hfr
                go_wp2_with fail
                go_roundw
                case rel =>
                  refine ⟨k + 1, by go_num, by omega, _, HPUT.out, fun g hg => ?_, by rw [HRES2.out, List.length_set]; exact HLEN1.out, HB7.out⟩
                  rw [HRES2.out] at hg
                  rcases List.mem_or_eq_of_mem_set hg with h | h
                  · exact ⟨Nat.le_succ_of_le (HGL1.out g h).1, (HGL1.out g h).2⟩
                  · subst h
                    have hm := HGL1.out _ (getD_mem' (d := g0) hq)
                    refine ⟨by simp only [List.length_append, List.length_singleton]; exact Nat.succ_le_succ hm.1, fun x hx => ?_⟩
                    rcases List.mem_append.1 hx with h | h
                    · exact hm.2 x h
                    · simp at h; rw [h]; exact HROK.out
                case measure => simp [intOf]; omega
            · have hix := idx_only HDIS.out hq hp
              have hgs3 := HGS2.out
              rw [hix, if_neg (by omega), Int.toNat_natCast] at hgs3
              obtain ⟨hmm, g3, cur3, rfl, hb3g, hh3, y0, y1, y2⟩ := Rf.ownsG_at HOI.out hq
              have HRES := Go.Lib.hid hgs3
              have HO := HOI
              have HB4 := HBW
              have HGL1 := HGL
              have HLEN1 : Hid (gs.length ≤ k + 1) := Go.Lib.hid (by omega)
              clear hmm hh3 y0 y1 y2 hgs3 hix hp HAT0 hk0 hk1 HKI
              have hO7 := HO.out
              obtain ⟨hmm, g3', cur3, hga, hbg3, hh3, y0, y1, y2⟩ := Rf.ownsG_at hO7 (k := q) hq
              simp only [Option.some.injEq, Addr.mk.injEq, and_true] at hga
              subst hga
              have hw2 := hO7.each (q) hq
              obtain ⟨aq, cq, hvq, _, _⟩ := (SlC.of_owns hw2).slice
              have hap2 := rows_apart hO7.row hw2 (by decide)
              obtain ⟨lq, hlq⟩ : ∃ lq, lq = (gs.getD (q) g0).l := ⟨_, rfl⟩
              rw [← hlq] at hvq hw2
              rw [hvq] at y2 hw2 hap2
              have hgm := HGL1.out _ (getD_mem' (d := g0) hq)
              rw [← hlq] at hgm
              have hres0 := HRES.out
              unfold addTo at hres0
              rw [← hlq] at hres0
              have hst7 := HST.out.below HB4.out (Nat.le_refl _)
              rw [← HN.out] at hst7
              obtain ⟨b7, off7, hba, hbw7, hcell7⟩ := RRs.at hst7 (by rw [HN.out]; omega)
              simp only [Option.some.injEq, Addr.mk.injEq, and_true] at hba
              obtain ⟨rfl, rfl⟩ := hba
              have hat7 := hcell7 k (by rw [HN.out]; exact hlt)
              rw [HRK.out] at hat7
              have hltX := World.block_lt_of_cell? _ _ y2
              have hin := fun (W : World) (h : Below wr.heap.size wr W) => refIn_any aq cq lq ⟨rn, rty, 1, rttl, rd⟩ W ((SlC.of_owns hw2).below h (Nat.le_refl _)) hgm.2 HROK.out
              have hne7 : Nonempty (Subtype (Below wr.heap.size wr)) := ⟨⟨wr, Below.refl _ _⟩⟩
              have Y2 := BelowC.cell (W := wr) y2 hltX
              have R0 := BelowC.cell (W := wr) hat7.1 hbw7
              have R1 := BelowC.cell (W := wr) hat7.2.1 hbw7
              have R2 := BelowC.cell (W := wr) hat7.2.2.1 hbw7
              have R3 := BelowC.cell (W := wr) hat7.2.2.2.1 hbw7
              have R4 := BelowC.cell (W := wr) hat7.2.2.2.2 hbw7
              have HBC := Go.Lib.hid (show Below wr.heap.size wr wr.drew from (Below.refl wr.heap.size wr).drew)
              have hqi : (q : Int) < ((gs.length : Nat) : Int) := by omega
              have HIN := Go.Lib.hid hin
              have HLQ := Go.Lib.hid hlq
              have HW2 := Go.Lib.hid hw2
              have HGM := Go.Lib.hid hgm
              have HRES0 := Go.Lib.hid hres0
              have HAT := Go.Lib.hid hat7
              have HST7 := Go.Lib.hid hst7
              have HVQ := Go.Lib.hid hvq
              have HAP2 := Go.Lib.hid hap2
              clear hin hlq hw2 hgm hres0 hat7 hst7 hvq hap2
              clear hO7 hcell7 y0 y1 hh3 hmm
              go_wp2_with fail
              refine Go.Mix.wp_region_mix (Es := [9]) (Below wr.heap.size wr) mixed (by kernel_rfl) (Below.refl _ _).drew (fun _ => ?_)
              iterate 9 (refine Go.Mix.mix_step rfl (fun K hK => ?_); have HKK := Go.Lib.hid hK; clear hK; go_simp; refine HKK.out _ _ ?_; clear HKK K)
              refine Go.Mix.mix_eff rfl (fun K hK => ?_)
              have HKK := Go.Lib.hid hK
              clear hK
              go_simp
              refine (HIN.out _ HBC.out).mono ?_; rintro e X4 ⟨rfl, hx⟩
              have hb := HBC.out.trans (hx.mono HBC.out.size)
              clear HBC
              have HBC := Go.Lib.hid hb
              clear hx hb
              go_simp
              refine HKK.out _ _ HBC.out ?_
              clear HKK K
              iterate 1 (refine Go.Mix.mix_step rfl (fun K hK => ?_); have HKK := Go.Lib.hid hK; clear hK; go_simp; refine HKK.out _ _ ?_; clear HKK K)
              refine Go.Mix.mix_nil ?_
              clear Y2 R0 R1 R2 R3 R4
              have hbX := HBC.out
              clear HBC
              have hO4 := HO.out.below hbX
              have hB5 := HB4.out.trans (Below.mono hbX HB4.out.size)
              have y4 := (hbX.cell (p := ⟨g3, q * 3 + 2, none⟩) hltX).trans y2
              have hat4 := HAT.out.below hbX hbw7
              have hbw4 : b < X4.heap.size := Nat.lt_of_lt_of_le hbw7 hbX.size
              have HO4 := Go.Lib.hid hO4
              have HB5 := Go.Lib.hid hB5
              have HBX := Go.Lib.hid hbX
              clear hO4 hB5 hbX
              clear y2
              generalize hany : (lq.any fun x => Rc.sameRR x ⟨rn, rty, 1, rttl, rd⟩) = bb at *
              cases bb with
              | true =>
                have hres : groupsN (l.take (k + 1)) = gs := by
                  rw [HRES0.out]
                  simp [List.getD_eq_getElem?_getD, hq]
                have HRES2 := Go.Lib.hid hres
                have HANY := Go.Lib.hid hany
                clear hres hany
                clear hat4 y4
                go_wp2_with fail
                go_roundw
                case rel => exact ⟨k + 1, by go_num, by omega, vs, by rw [HRES2.out]; exact HO4.out, by rw [HRES2.out]; exact fun g hg => ⟨Nat.le_succ_of_le (HGL1.out g hg).1, (HGL1.out g hg).2⟩, by rw [HRES2.out]; exact HLEN1.out, HB5.out⟩
                case measure => simp [intOf]; omega
              | false =>
                have hres : groupsN (l.take (k + 1)) = gs.set (q) ⟨(gs.getD (q) g0).name, (gs.getD (q) g0).ty, (gs.getD (q) g0).l ++ [⟨rn, rty, 1, rttl, rd⟩]⟩ := by
                  rw [HRES0.out, ← HLQ.out]
                  simp
                have hC0 : CG2 g3 (q * 3 + 2) (.slice aq lq.length cq) b (off + k * 5) ⟨rn, rty, 1, rttl, rd⟩ X4 := ⟨y4, hat4⟩
                have f2 := fun w3 => CG2.vq (g := g3) (j := q * 3 + 2) (v := .slice aq lq.length cq) (b := b) (o := off + k * 5) (r := ⟨rn, rty, 1, rttl, rd⟩) w3
                have r0' := fun w3 => CG2.r0 (g := g3) (j := q * 3 + 2) (v := .slice aq lq.length cq) (b := b) (o := off + k * 5) (r := ⟨rn, rty, 1, rttl, rd⟩) w3
                have r1' := fun w3 => CG2.r1 (g := g3) (j := q * 3 + 2) (v := .slice aq lq.length cq) (b := b) (o := off + k * 5) (r := ⟨rn, rty, 1, rttl, rd⟩) w3
                have r2' := fun w3 => CG2.r2 (g := g3) (j := q * 3 + 2) (v := .slice aq lq.length cq) (b := b) (o := off + k * 5) (r := ⟨rn, rty, 1, rttl, rd⟩) w3
                have r3' := fun w3 => CG2.r3 (g := g3) (j := q * 3 + 2) (v := .slice aq lq.length cq) (b := b) (o := off + k * 5) (r := ⟨rn, rty, 1, rttl, rd⟩) w3
                have r4' := fun w3 => CG2.r4 (g := g3) (j := q * 3 + 2) (v := .slice aq lq.length cq) (b := b) (o := off + k * 5) (r := ⟨rn, rty, 1, rttl, rd⟩) w3
                have hne4 : Nonempty (Subtype (CG2 g3 (q * 3 + 2) (.slice aq lq.length cq) b (off + k * 5) ⟨rn, rty, 1, rttl, rd⟩)) := ⟨⟨X4, hC0⟩⟩
                have hap : some g3 ≠ (Value.slice aq lq.length cq).ownBlock ∧ some b ≠ (Value.slice aq lq.length cq).ownBlock := by
                  refine ⟨?_, fun e => ?_⟩
                  · rcases HAP2.out with h | h
                    · simp [Value.ownBlock] at h
                    · exact h
                  · have := (HW2.out.lt b e.symm).1
                    omega
                have HC0 := Go.Lib.hid hC0
                have HANY := Go.Lib.hid hany
                have HRES2 := Go.Lib.hid hres
                have HAP := Go.Lib.hid hap
                clear hany hres hap
                clear hC0 y4 hat4
                go_wp2_with fail
                refine Go.Mix.wp_region_mixT (Es := [11, 12]) 15 (CG2 g3 (q * 3 + 2) (.slice aq lq.length cq) b (off + k * 5) ⟨rn, rty, 1, rttl, rd⟩) mixed (by kernel_rfl) HC0.out ?_
                iterate 11 (refine Go.Mix.mixT_step rfl (fun K hK => ?_); have HKK := Go.Lib.hid hK; clear hK; go_simp; refine HKK.out _ _ ?_; clear HKK K)
                refine Go.Mix.mixT_eff rfl (fun K hK => ?_)
                have HKK := Go.Lib.hid hK
                clear hK
                go_simp
                refine HKK.out _ _ (HC0.out.alloc _) ?_
                clear HKK K
                have hwq := (HO4.out.each (q) hq).alloc (.cells #[.string (mk rn), .int .i64 rty, .int .i64 1, .int .i64 rttl, .string (mk rd)] 49)
                rw [← HLQ.out] at hwq
                rw [HVQ.out] at hwq
                have hrow4 := HO4.out.row.alloc (.cells #[.string (mk rn), .int .i64 rty, .int .i64 1, .int .i64 rttl, .string (mk rd)] 49)
                have hnc := new_cells X4 [.string (mk rn), .int .i64 rty, .int .i64 1, .int .i64 rttl, .string (mk rd)] 49
                have hone5 := one_rr ⟨rn, rty, 1, rttl, rd⟩
                have hlqk : lq.length ≤ k := HGM.out.1
                have hz4 := HB5.out.size
                have HWQ := Go.Lib.hid hwq
                have HROW4 := Go.Lib.hid hrow4
                have HNC := Go.Lib.hid hnc
                have HONE5 := Go.Lib.hid hone5
                clear hwq hrow4 hnc hone5
                refine mixT_app1 eiRR (.tmp 73) (.tmp 78) rfl rfl rfl w.heap.size (v := .slice aq lq.length cq) (n := lq.length) (xs := encR lq) (ad := ⟨X4.heap.size, 0, none⟩) (c := 1) rfl rfl HWQ.out (news := [.string (mk rn), .int .i64 rty, .int .i64 1, .int .i64 rttl, .string (mk rd)]) rfl HNC.out HONE5.out (by unfold maxLen; omega) (by omega) (by simp; omega) (fun v5 X5 hown5 hg5 hsn5 => ?_)
                obtain ⟨g5, c5, rfl⟩ := ownsRow_succ hown5
                have hg6 : (X4.alloc (.cells #[.string (mk rn), .int .i64 rty, .int .i64 1, .int .i64 rttl, .string (mk rd)] 49)).grownBy X5 (Value.slice aq lq.length cq).ownBlock := ⟨hg5.os, hg5.tape, hg5.output, hg5.size, hg5.block⟩
                have hrow5 := HROW4.out.kept hg6 (rows_apart HROW4.out HWQ.out (by decide))
                have hc5 := (HC0.out.alloc (.cells #[.string (mk rn), .int .i64 rty, .int .i64 1, .int .i64 rttl, .string (mk rd)] 49)).keep (W' := X5) (fun p v hp hb => hg5.cell hp (by rcases hb with h | h <;> rw [h]; exact HAP.out.1; exact HAP.out.2))
                refine ⟨hc5, ?_⟩
                have y5 := hc5.1
                have hfr := (show X5.ownsRow w.heap.size 47 3 (.slice (some ⟨g3, 0, none⟩) (gs.length) c2) (gs.length) (encG gs vs) from hrow5).frozenAt (q * 3 + 2)
                have hb6 : Below w.heap.size w X5 := below_app ((HB5.out.alloc hz4 _).drew) HWQ.out hg5 (Nat.le_refl _) (by simp; omega)
                have HG5 := Go.Lib.hid hg6
                have HOWN5 := Go.Lib.hid hown5
                have HSN5 := Go.Lib.hid hsn5
                have HB6 := Go.Lib.hid hb6
                clear hrow5 hc5 hg5 hg6 hown5 hsn5 hb6 r0' r1' r2' r3' r4' f2
                iterate 2 (refine Go.Mix.mixT_step rfl (fun K hK => ?_); have HKK := Go.Lib.hid hK; clear hK; go_simp; refine HKK.out _ _ ?_; clear HKK K)
                refine Go.Mix.mixT_last rfl (fun K hK => ?_)
                have HKK := Go.Lib.hid hK
                clear hK
                go_simp
                refine HKK.out _ _ ?_
                clear HKK K
                have hput : Rf.OwnsG (X5.setCell ⟨g3, q * 3 + 2, none⟩ (.slice (some ⟨g5, 0, none⟩) (lq.length + 1) c5)) w.heap.size (.slice (some ⟨g3, 0, none⟩) (gs.length) c2) (gs.set (q) ⟨(gs.getD (q) g0).name, (gs.getD (q) g0).ty, (gs.getD (q) g0).l ++ [⟨rn, rty, 1, rttl, rd⟩]⟩) (vs.set (q) (.slice (some ⟨g5, 0, none⟩) (lq.length + 1) c5)) :=
                  Rf.ownsG_put HO4.out hq ⟨rn, rty, 1, rttl, rd⟩ (.cells #[.string (mk rn), .int .i64 rty, .int .i64 1, .int .i64 rttl, .string (mk rd)] 49) (by rw [← HLQ.out]; exact HOWN5.out) (by rw [HVQ.out]; exact HG5.out) (by rw [HVQ.out]; exact HSN5.out)
                have hb7 := HB6.out.setCell (p := ⟨g3, q * 3 + 2, none⟩) hbg3 (.slice (some ⟨g5, 0, none⟩) (lq.length + 1) c5)
                rw [← HRES2.out] at hput
                have HPUT := Go.Lib.hid hput
                have HB7 := Go.Lib.hid hb7
                clear hput hb7 y5 hfr
                go_wp2_with fail
                go_roundw
                case rel =>
                  refine ⟨k + 1, by go_num, by omega, _, HPUT.out, fun g hg => ?_, by rw [HRES2.out, List.length_set]; exact HLEN1.out, HB7.out⟩
                  rw [HRES2.out] at hg
                  rcases List.mem_or_eq_of_mem_set hg with h | h
                  · exact ⟨Nat.le_succ_of_le (HGL1.out g h).1, (HGL1.out g h).2⟩
                  · subst h
                    have hm := HGL1.out _ (getD_mem' (d := g0) hq)
                    refine ⟨by simp only [List.length_append, List.length_singleton]; exact Nat.succ_le_succ hm.1, fun x hx => ?_⟩
                    rcases List.mem_append.1 hx with h | h
                    · exact hm.2 x h
                    · simp at h; rw [h]; exact HROK.out
                case measure => simp [intOf]; omega

      · have q1 : (r.cl != 1) = true := by simp [hcl]
        have hres : Hid (groupsN (l.take (k + 1)) = gs) := Go.Lib.hid (by rw [HGS.out]; unfold addG; rw [if_neg hcl])
        clear hcl
        go_wp2_with fail
        go_roundw
        case rel => exact ⟨k + 1, by go_num, by omega, vs, by rw [hres.out]; exact HOG.out, by rw [hres.out]; exact fun g hg => ⟨Nat.le_succ_of_le (HGL.out g hg).1, (HGL.out g hg).2⟩, by rw [hres.out]; omega, HB.out⟩
        case measure => simp [intOf]; omega
    · obtain rfl : k = N := by omega
      have hall : l.take k = l := by rw [← HN.out, List.take_length]
      have HOG := Go.Lib.hid hog
      have HB := Go.Lib.hid hbr
      have HALL := Go.Lib.hid hall
      clear hog hbr hall
      go_wp2_with fail
      go_ret
      refine ⟨_, vs, rfl, ?_, HB.out⟩
      have h := HOG.out
      rw [HALL.out] at h
      have he := HALL.out
      simp only [he] at h ⊢
      exact h
end Go.Proofs.Ytcamopppeanipaa

