/- Merged texts of the seat, in their order: PkZ, PkAF. -/
import Derived.Test.YtgbmclgnbbhcbaaG6
/- Pick: PickAll's plain law. -/
namespace Go.Proofs.Ytgbmclgnbbhcbaa
open Go.RowKit Go.Sort Go.Lib
set_option maxRecDepth 100000
set_option linter.unusedVariables false

/-- an address of the law -/
def rP (D : List Int) (i : Nat) : Int := D.getD i 0 % 9
/-- what is told of a name, of the first k -/
def tellPk (D : List Int) (n : Nat) (s : List UInt8) (k : Nat) : List Int := (List.range k).filterMap fun i => if i % n + 1 < n ∧ nmM (i % n) = s then some (rP D i) else none
def tellP (D : List Int) (n : Nat) (s : List UInt8) : List Int := tellPk D n s D.length
theorem tellPk_succ (D : List Int) (n : Nat) (s : List UInt8) (k : Nat) : tellPk D n s (k + 1) = tellPk D n s k ++ (if k % n + 1 < n ∧ nmM (k % n) = s then [rP D k] else []) := by
  unfold tellPk
  rw [List.range_succ, List.filterMap_append]
  congr 1
  rw [List.filterMap_cons, List.filterMap_nil]
  split <;> rename_i h <;> split at h <;> simp_all
theorem tellPk_len (D : List Int) (n : Nat) (s : List UInt8) (k : Nat) : (tellPk D n s k).length ≤ k := by
  have := List.length_filterMap_le (fun i => if i % n + 1 < n ∧ nmM (i % n) = s then some (rP D i) else none) (List.range k)
  simpa [tellPk] using this
theorem tellP_mem {D : List Int} {n : Nat} {s : List UInt8} {x : Int} : x ∈ tellP D n s ↔ ∃ i, i < D.length ∧ i % n + 1 < n ∧ nmM (i % n) = s ∧ rP D i = x := by
  unfold tellP tellPk
  rw [List.mem_filterMap]
  constructor
  · rintro ⟨i, h1, h2⟩
    split at h2
    · rename_i h3
      exact ⟨i, List.mem_range.1 h1, h3.1, h3.2, Option.some.inj h2⟩
    · cases h2
  · rintro ⟨i, h1, h2, h3, h4⟩
    exact ⟨i, List.mem_range.2 h1, by rw [if_pos ⟨h2, h3⟩, h4]⟩
/-- the unlike ones -/
def unlP (D : List Int) (n : Nat) : Nat → List Int
  | 0 => []
  | k + 1 => if k % n + 1 = n ∨ rP D k ∈ unlP D n k then unlP D n k else unlP D n k ++ [rP D k]
theorem unlP_len (D : List Int) (n : Nat) : ∀ k, (unlP D n k).length ≤ k
  | 0 => Nat.le_refl _
  | k + 1 => by
    have := unlP_len D n k
    unfold unlP
    split
    · omega
    · simp; omega
theorem unlP_nodup (D : List Int) (n : Nat) : ∀ k, (unlP D n k).Nodup
  | 0 => List.nodup_nil
  | k + 1 => by
    unfold unlP
    split
    · exact unlP_nodup D n k
    · rename_i h
      rw [List.nodup_append]
      refine ⟨unlP_nodup D n k, by simp, fun a ha b hb e => ?_⟩
      rw [List.mem_singleton] at hb
      exact h (.inr (by rw [← hb, ← e]; exact ha))
theorem unlP_mem {D : List Int} {n : Nat} (hn : 0 < n) {x : Int} : ∀ k, x ∈ unlP D n k ↔ ∃ i, i < k ∧ i % n + 1 < n ∧ rP D i = x
  | 0 => by simp [unlP]
  | k + 1 => by
    have ih := unlP_mem (D := D) hn (x := x) k
    have hm := Nat.mod_lt k hn
    unfold unlP
    split
    · rename_i h
      rw [ih]
      constructor
      · rintro ⟨i, h1, h2⟩
        exact ⟨i, by omega, h2⟩
      · rintro ⟨i, h1, h2, h3⟩
        by_cases e : i = k
        · subst e
          rcases h with h | h
          · omega
          · rw [h3] at h
            exact ih.1 h
        · exact ⟨i, by omega, h2, h3⟩
    · rename_i h
      rw [List.mem_append, ih, List.mem_singleton]
      constructor
      · rintro (⟨i, h1, h2⟩ | h2)
        · exact ⟨i, by omega, h2⟩
        · exact ⟨k, by omega, by omega, h2.symm⟩
      · rintro ⟨i, h1, h2, h3⟩
        by_cases e : i = k
        · subst e; exact .inr h3.symm
        · exact .inl ⟨i, by omega, h2, h3⟩
theorem sub_len : ∀ {A B : List Int}, A.Nodup → (∀ x ∈ A, x ∈ B) → A.length ≤ B.length
  | [], _, _, _ => Nat.zero_le _
  | a :: A, B, hn, hs => by
    obtain ⟨h1, h2⟩ := List.nodup_cons.1 hn
    have ha := hs a (List.mem_cons_self ..)
    have h3 := sub_len (A := A) (B := B.erase a) h2 fun x hx => (List.mem_erase_of_ne (fun e => by subst e; exact h1 hx)).2 (hs x (List.mem_cons_of_mem _ hx))
    have h4 := List.length_erase_of_mem ha
    have h5 := List.length_pos_of_mem ha
    simp only [List.length_cons]
    omega
def namesP (n : Nat) : List (List UInt8) := (List.range n).map nmM
theorem namesP_len (n : Nat) : (namesP n).length = n := by simp [namesP]
theorem namesP_mem {n : Nat} {s : List UInt8} : s ∈ namesP n ↔ ∃ i, i < n ∧ nmM i = s := by simp [namesP]
theorem targsP {n : Nat} (h : n ≤ 12) : targsN (setL (namesP n)) = namesP n := by
  refine targsN_set (fun d hd => ?_) ?_ fun d => Iff.rfl
  · obtain ⟨i, h1, rfl⟩ := namesP_mem.1 hd
    exact tg12 i (by omega)
  · exact List.Pairwise.sublist (List.Sublist.map nmM (List.range_sublist.2 h)) asc12
theorem toldN_mem {zs : List Int} {x : Int} : x ∈ toldN zs ↔ x ∈ zs := (insAll_asc od_ints (P := fun _ => True) (l := zs) fun _ _ => trivial).2 x
theorem toldN_len (zs : List Int) : (toldN zs).length ≤ zs.length := insAll_len _
theorem toldN_emp {zs : List Int} : (toldN zs).length = 0 ↔ zs.length = 0 := by
  constructor
  · intro h
    have h1 := List.eq_nil_of_length_eq_zero h
    cases zs with
    | nil => rfl
    | cons x l => have := toldN_mem.2 (List.mem_cons_self (a := x) (l := l)); rw [h1] at this; cases this
  · intro h
    have := toldN_len zs
    omega
/-- the servers' list -/
def servP (D : List Int) (n : Nat) : List Sv := servN (tellP D n) (setL (namesP n))
theorem servP_addr {D : List Int} {n : Nat} (h0 : 0 < n) (h : n ≤ 12) {x : Int} : x ∈ (servP D n).map (·.2) ↔ x ∈ unlP D n D.length := by
  unfold servP servN
  rw [targsP h, unlP_mem h0]
  simp only [List.mem_map, List.mem_flatMap]
  constructor
  · rintro ⟨s, ⟨d, hd, a, ha, rfl⟩, rfl⟩
    obtain ⟨i, h1, h2, _, h4⟩ := tellP_mem.1 (toldN_mem.1 ha)
    exact ⟨i, h1, h2, h4⟩
  · rintro ⟨i, h1, h2, h3⟩
    exact ⟨(nmM (i % n), x), ⟨nmM (i % n), namesP_mem.2 ⟨i % n, by omega, rfl⟩, x, toldN_mem.2 (tellP_mem.2 ⟨i, h1, h2, rfl, h3⟩), rfl⟩, rfl⟩
theorem servP_len {D : List Int} {n : Nat} (h : n ≤ 12) (hD : D.length ≤ 20) : (servP D n).length ≤ 240 := by
  have hb : ∀ s, (toldN (tellP D n s)).length ≤ 20 := fun s => Nat.le_trans (toldN_len _) (Nat.le_trans (tellPk_len D n s _) hD)
  unfold servP servN
  rw [targsP h]
  have : ∀ l : List (List UInt8), (l.flatMap fun s => (toldN (tellP D n s)).map fun a => (s, a)).length ≤ 20 * l.length := fun l => by
    induction l with
    | nil => simp
    | cons s l ih =>
      rw [List.flatMap_cons, List.length_append, List.length_map, List.length_cons]
      have := hb s
      omega
  have h2 := this (namesP n)
  rw [namesP_len] at h2
  omega
/-- who was asked so far -/
def Tried (D : List Int) (n j : Nat) (T : List Sv) : Prop := T.length = j ∧ (T.map (·.2)).Nodup ∧ ∀ s ∈ T, s ∈ servP D n
theorem Tried.nil (D : List Int) (n : Nat) : Tried D n 0 [] := ⟨rfl, List.nodup_nil, fun _ h => by cases h⟩
theorem next_some {D : List Int} {n j : Nat} {T : List Sv} (h0 : 0 < n) (h : n ≤ 12) (hT : Tried D n j T) (hj : j < (unlP D n D.length).length) : ∃ x, nextN (servP D n) T = some x ∧ Tried D n (j + 1) (T ++ [x]) := by
  obtain ⟨h1, h2, h3⟩ := hT
  cases hx : nextN (servP D n) T with
  | none =>
    exfalso
    unfold nextN at hx
    rw [List.find?_eq_none] at hx
    have := sub_len (A := unlP D n D.length) (B := T.map (·.2)) (unlP_nodup D n _) fun x hxx => by
      obtain ⟨s, hs, rfl⟩ := List.mem_map.1 ((servP_addr h0 h).2 hxx)
      have h4 := hx s hs
      simp only [Bool.not_eq_true, Bool.not_eq_false', List.any_eq_true, decide_eq_true_iff] at h4
      obtain ⟨t, ht, e⟩ := h4
      exact List.mem_map.2 ⟨t, ht, e⟩
    rw [List.length_map] at this
    omega
  | some x =>
    refine ⟨x, rfl, by rw [List.length_append, h1]; rfl, ?_, fun s hs => ?_⟩
    · unfold nextN at hx
      have h4 := List.find?_some hx
      rw [List.map_append, List.nodup_append]
      refine ⟨h2, by simp, fun a ha b hb e => ?_⟩
      simp only [List.map_cons, List.map_nil, List.mem_singleton] at hb
      obtain ⟨t, ht, rfl⟩ := List.mem_map.1 ha
      rw [Bool.not_eq_true', List.any_eq_false] at h4
      exact h4 t ht (by simp only [decide_eq_true_iff]; rw [e, hb])
    · rcases List.mem_append.1 hs with hs | hs
      · exact h3 s hs
      · rw [List.mem_singleton] at hs
        subst hs
        exact List.mem_of_find?_eq_some hx
theorem next_none {D : List Int} {n j : Nat} {T : List Sv} (h0 : 0 < n) (h : n ≤ 12) (hT : Tried D n j T) (hj : j = (unlP D n D.length).length) : nextN (servP D n) T = none := by
  cases hx : nextN (servP D n) T with
  | none => rfl
  | some x =>
    exfalso
    obtain ⟨h1, h2, h3⟩ := hT
    unfold nextN at hx
    have h4 := List.find?_some hx
    have h5 := List.mem_of_find?_eq_some hx
    rw [Bool.not_eq_true', List.any_eq_false] at h4
    have := sub_len (A := T.map (·.2) ++ [x.2]) (B := unlP D n D.length) (by
      rw [List.nodup_append]
      refine ⟨h2, by simp, fun a ha b hb e => ?_⟩
      rw [List.mem_singleton] at hb
      obtain ⟨t, ht, rfl⟩ := List.mem_map.1 ha
      exact h4 t ht (by simp only [decide_eq_true_iff]; rw [e, hb])) fun y hy => by
      rcases List.mem_append.1 hy with hy | hy
      · obtain ⟨t, ht, rfl⟩ := List.mem_map.1 hy
        exact (servP_addr h0 h).1 (List.mem_map.2 ⟨t, h3 t ht, rfl⟩)
      · rw [List.mem_singleton] at hy
        subst hy
        exact (servP_addr h0 h).1 (List.mem_map.2 ⟨x, h5, rfl⟩)
    rw [List.length_append, List.length_map] at this
    simp only [List.length_cons, List.length_nil] at this
    omega
/-- whose addresses are not known, of the first k -/
def wP (D : List Int) (n k : Nat) : List Nat := (List.range k).filter fun i => decide ((tellP D n (nmM i)).length = 0)
theorem wP_succ (D : List Int) (n k : Nat) : wP D n (k + 1) = wP D n k ++ (if (tellP D n (nmM k)).length = 0 then [k] else []) := by
  unfold wP
  rw [List.range_succ, List.filter_append]
  congr 1
  rw [List.filter_cons, List.filter_nil]
  by_cases h : (tellP D n (nmM k)).length = 0
  · rw [decide_eq_true h, if_pos rfl, if_pos h]
  · rw [decide_eq_false h, if_neg (by decide), if_neg h]
theorem wP_len (D : List Int) (n k : Nat) : (wP D n k).length ≤ k := by
  have := List.length_filter_le (fun i => decide ((tellP D n (nmM i)).length = 0)) (List.range k)
  simpa [wP] using this
theorem wP_mem {D : List Int} {n k i : Nat} (h : i ∈ wP D n k) : i < k := List.mem_range.1 (List.mem_filter.1 h).1
theorem missP {D : List Int} {n : Nat} (hn : n ≤ 12) (j : Nat) : missN (tellP D n) (setL (namesP n)) (((wP D n n).take j).map nmM) = ((wP D n n)[j]?).map nmM := by
  unfold missN
  rw [targsP hn]
  unfold namesP
  rw [List.find?_map]
  have h := find_rest (p := fun i => decide ((tellP D n (nmM i)).length = 0)) (T := List.range n) List.nodup_range j
  have e : (List.range n).find? ((fun s => decide ((toldN (tellP D n s)).length = 0) && !(((wP D n n).take j).map nmM).any fun x => Nm.sameN x s) ∘ nmM) = (wP D n n)[j]? := by
    rw [show (wP D n n)[j]? = ((List.range n).filter fun i => decide ((tellP D n (nmM i)).length = 0))[j]? from rfl, ← h]
    refine find_cong fun i hi => ?_
    have hi := List.mem_range.1 hi
    simp only [Function.comp_apply]
    rw [List.any_map]
    congr 1
    · exact decide_eq_decide.2 toldN_emp
    · congr 1
      have : ∀ l : List Nat, (∀ x ∈ l, x < 12) → (l.any ((fun x => Nm.sameN x (nmM i)) ∘ nmM)) = l.any fun x => decide (x = i) := fun l => by
        induction l with
        | nil => intro _; rfl
        | cons a l ih =>
          intro hl
          have := same12 false a (hl a (List.mem_cons_self ..)) i (by omega)
          rw [List.any_cons, List.any_cons, ih fun x hx => hl x (List.mem_cons_of_mem _ hx), Function.comp_apply]
          rw [show nmM a = upM false a from rfl, this]
      exact this _ fun x hx => by have := wP_mem (List.mem_of_mem_take hx); omega
  rw [e]
end Go.Proofs.Ytgbmclgnbbhcbaa

/- Pick: what PickAll's function tells. -/
namespace Go.Proofs.Ytgbmclgnbbhcbaa
open Go.RowKit Go.Sort Go.Lib
set_option maxRecDepth 100000
set_option linter.unusedVariables false
set_option linter.unusedSimpArgs false

theorem infoIP : (Try.prog.info? 3).map (fun i => (i.zero, i.size, i.bytes)) = some (some (.int .i64 0), 1, 8) := by kernel_rfl
theorem eiIP : EI Try.prog 30 3 1 8 := ei_of Try.underlying30 infoIP rfl (by decide)
/-- the law's three boxes -/
structure BP (b1 b2 b3 : Nat) (a1 : Option Addr) (c1 : Nat) (D : List Int) (n : Nat) (a3 : Option Addr) (c3 : Nat) (W : World) : Prop where
  x1 : W.heap[b1]? = some (.cells #[.slice a1 D.length c1] 30 (0, 0))
  x2 : W.heap[b2]? = some (.cells #[.int .i64 n] 3 (0, 0))
  x3 : W.heap[b3]? = some (.cells #[.slice a3 n c3] 31 (0, 0))
  i1 : Ints W (.slice a1 D.length c1) D
  i3 : Strs W (.slice a3 (namesP n).length c3) (namesP n)
theorem box_cell {W : World} {b : Nat} {v : Value} {T : TypeId} (h : W.heap[b]? = some (.cells #[v] T (0, 0))) : W.cell? ⟨b, 0, none⟩ = some v := by simp [World.cell?, h]
section
variable {b1 b2 b3 : Nat} {a1 : Option Addr} {c1 : Nat} {D : List Int} {n : Nat} {a3 : Option Addr} {c3 : Nat} {W W' : World}
theorem BP.below (h : BP b1 b2 b3 a1 c1 D n a3 c3 W) (hb : Below W.heap.size W W') : BP b1 b2 b3 a1 c1 D n a3 c3 W' :=
  ⟨(hb.block b1 (Array.getElem?_eq_some_iff.1 h.x1).1).trans h.x1, (hb.block b2 (Array.getElem?_eq_some_iff.1 h.x2).1).trans h.x2, (hb.block b3 (Array.getElem?_eq_some_iff.1 h.x3).1).trans h.x3, SlC.below h.i1 hb (Nat.le_refl _), SlC.below h.i3 hb (Nat.le_refl _)⟩
end
theorem rem_nat (k n : Nat) : Int.tmod (k : Int) (n : Int) = ((k % n : Nat) : Int) := by
  rw [Int.tmod_eq_emod_of_nonneg (by omega)]
  exact (Int.natCast_emod k n).symm
set_option maxHeartbeats 4000000 in
theorem tellP_any (b1 b2 b3 : Nat) (a1 : Option Addr) (c1 : Nat) (D : List Int) (n : Nat) (a3 : Option Addr) (c3 : Nat) (s : List UInt8) (w : World) (hB : BP b1 b2 b3 a1 c1 D n a3 c3 w) (hn0 : 1 ≤ n) (hn : n ≤ 12) (hD : D.length ≤ 20) :
    TellsA Try.prog 12 #[.pointer (some ⟨b1, 0, none⟩), .pointer (some ⟨b2, 0, none⟩), .pointer (some ⟨b3, 0, none⟩)] s (tellP D n s) w := by
  intro W hW
  have hBW := hB.below hW
  have hnl := namesP_len n
  have hfin : tellP D n s = tellPk D n s D.length := rfl
  have hstep := fun k => tellPk_succ D n s k
  have hlen := fun k => tellPk_len D n s k
  clear hB hW
  have HB := Go.Lib.hid (Below.refl W.heap.size W)
  generalize tellP D n s = R at *
  have hi1 := hBW.i1
  have hx1 := hBW.x1
  generalize hN : D.length = N at *
  have HBW := Go.Lib.hid hBW
  have HFIN := Go.Lib.hid hfin
  have HSTEP := Go.Lib.hid hstep
  have HLEN := Go.Lib.hid hlen
  have HN := Go.Lib.hid hN
  have HI1 := Go.Lib.hid hi1
  have HNL := Go.Lib.hid hnl
  have HX1 := Go.Lib.hid hx1
  clear hBW hfin hstep hlen hN hi1 hnl hx1
  show Calls _ _ #[.string (mk s), .pointer (some ⟨b1, 0, none⟩), .pointer (some ⟨b2, 0, none⟩), .pointer (some ⟨b3, 0, none⟩)] _ _
  go_enter Try.func12, Try.ntmps12
  go_wp2_with fail
  go_loopw [6, 7] (fun v i wr => ∃ k : Nat, i = .int .i64 k ∧ k ≤ N ∧ wr.ownsRow W.heap.size 3 1 v (tellPk D n s k).length ((tellPk D n s k).map (Value.int .i64)) ∧ Below W.heap.size W wr) (fun _ i _ => N - (RowKit.intOf i).toNat)
  case atStart => exact ⟨0, rfl, Nat.zero_le _, World.ownsRow_nil _ _ _ _, HB.out⟩
  case round =>
    clear HB
    obtain ⟨k, rfl, hk, hown, hb⟩ := hrel
    have hBr := HBW.out.below hb
    have e1 : wr.cell? ⟨b1, 0, none⟩ = some (.slice a1 N c1) := box_cell ((hb.block b1 (Array.getElem?_eq_some_iff.1 HX1.out).1).trans HX1.out)
    have e2 := box_cell hBr.x2
    have e3 := box_cell hBr.x3
    by_cases hlt : k < N
    · have hlt2 : (k : Int) < (N : Int) := by omega
      obtain ⟨g1, o1, rfl, hg1, hcell1⟩ := Ints.at (HI1.out.below hb (Nat.le_refl _)) (by rw [HN.out]; omega)
      have f1 := hcell1 k (by rw [HN.out]; exact hlt)
      obtain ⟨g3, o3, rfl, hg3, hcell3⟩ := Strs.at hBr.i3 (by rw [HNL.out]; omega)
      have hqn : k % n < n := Nat.mod_lt _ (by omega)
      have f3 := hcell3 (k % n) (by rw [HNL.out]; exact hqn)
      have e4 : (namesP n).getD (k % n) [] = nmM (k % n) := by unfold namesP; rw [List.getD_eq_getElem?_getD, List.getElem?_map, List.getElem?_range hqn]; rfl
      rw [e4] at f3
      have hst := HSTEP.out k
      have hr := fun W => Round_any (D.getD k 0) 9 W (by omega) (by omega)
      have hrp : D.getD k 0 % 9 = rP D k := rfl
      rw [hrp] at hr
      have hrem := rem_nat k n
      generalize k % n = q at *
      generalize D.getD k 0 = dk at *
      generalize rP D k = r at *
      have hlk := HLEN.out k
      generalize tellPk D n s k = L at *
      have hw1 : IntKind.i64.wrap (q : Int) = q := wrapi (by omega) (by omega)
      have hw2 : IntKind.i64.wrap ((n : Int) - 1) = (n : Int) - 1 := wrapi (by omega) (by omega)
      have hne : ¬ (n : Int) = 0 := by omega
      generalize nmM q = nq at *
      have hz := hb.size
      by_cases hq1 : q + 1 < n
      · have hq2 : (q : Int) < (n : Int) - 1 := by omega
        by_cases he : nq = s
        · have q0 : ((mk nq).toList == (mk s).toList) = true := beq_mk_true he
          rw [if_pos ⟨hq1, he⟩] at hst
          have hownA := hown.alloc (.cells #[.int .i64 r] 3)
          have hbA := hb.alloc hz (.cells #[.int .i64 r] 3)
          have HST := Go.Lib.hid hst
          have HR := Go.Lib.hid hr
          have HOWN := Go.Lib.hid hown
          have HBQ := Go.Lib.hid hb
          have HBR := Go.Lib.hid hBr
          have HRP := Go.Lib.hid hrp
          have HOA := Go.Lib.hid hownA
          have HBA := Go.Lib.hid hbA
          clear hst hr hown hb hBr hrp hownA hbA
          clear hcell1 hcell3 e4 he
          go_wp2_with fail
          refine (HR.out _).mono ?_; rintro e _ ⟨rfl, rfl⟩
          go_wp2_with (at_builtin; refine wpList_app1 eiIP (.tmp 30) (.tmp 36) rfl rfl W.heap.size rfl rfl HOA.out (news := [.int .i64 r]) rfl (new_cells _ _ _) (fun u hu => by rw [List.mem_singleton] at hu; subst hu; rfl) (by unfold maxLen; omega) (by omega) HBA.out.size ?_; intro v5 W5 hown5 hg5 hsn5)
          have hb5 := below_app HBA.out HOA.out hg5 (Nat.le_refl _) HBA.out.size
          go_roundw
          case rel => exact ⟨k + 1, by go_num, by omega, by rw [HST.out, List.length_append, List.map_append]; exact hown5, hb5⟩
          case measure => simp [RowKit.intOf]; omega
        · have q0 : ((mk nq).toList == (mk s).toList) = false := beq_mk_false he
          rw [if_neg (fun h => he h.2), List.append_nil] at hst
          have HST := Go.Lib.hid hst
          have HR := Go.Lib.hid hr
          have HOWN := Go.Lib.hid hown
          have HBQ := Go.Lib.hid hb
          have HBR := Go.Lib.hid hBr
          have HRP := Go.Lib.hid hrp
          clear hst hr hown hb hBr hrp
          clear hcell1 hcell3 e4 he
          go_wp2_with fail
          go_roundw
          case rel => exact ⟨k + 1, by go_num, by omega, by rw [HST.out]; exact HOWN.out, HBQ.out⟩
          case measure => simp [RowKit.intOf]; omega
      · have hq2 : ¬ (q : Int) < (n : Int) - 1 := by omega
        rw [if_neg (fun h => hq1 h.1), List.append_nil] at hst
        have HST := Go.Lib.hid hst
        have HR := Go.Lib.hid hr
        have HOWN := Go.Lib.hid hown
        have HBQ := Go.Lib.hid hb
        have HBR := Go.Lib.hid hBr
        have HRP := Go.Lib.hid hrp
        clear hst hr hown hb hBr hrp
        clear hcell1 hcell3 e4
        go_wp2_with fail
        go_roundw
        case rel => exact ⟨k + 1, by go_num, by omega, by rw [HST.out]; exact HOWN.out, HBQ.out⟩
        case measure => simp [RowKit.intOf]; omega
    · obtain rfl : k = N := by omega
      have HOWN := Go.Lib.hid hown
      have HBQ := Go.Lib.hid hb
      have HBR := Go.Lib.hid hBr
      clear hown hb hBr
      go_wp2_with fail
      go_ret
      rw [HFIN.out]
      exact ⟨_, rfl, by unfold Ints; exact SlC.of_owns HOWN.out, HBQ.out⟩
end Go.Proofs.Ytgbmclgnbbhcbaa

