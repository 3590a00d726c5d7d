/- Plain law of groups: each record of the class is in just one group, once. -/
import Derived.Test.YtcamopppeanipaaRpC
namespace Go.Proofs.Ytcamopppeanipaa
open Go.RowKit
set_option linter.unusedVariables false

/-- groups bear what they should -/
def GoodG (gs : List Gr) : Prop := ∀ g ∈ gs, 0 < g.l.length ∧ ∀ r ∈ g.l, r.cl = 1 ∧ r.ty = g.ty ∧ Nm.foldN r.name = g.name
theorem good_addTo {r : Rc.RR} {g : Gr} (h : 0 < g.l.length ∧ ∀ r ∈ g.l, r.cl = 1 ∧ r.ty = g.ty ∧ Nm.foldN r.name = g.name) (hr : r.cl = 1 ∧ r.ty = g.ty ∧ Nm.foldN r.name = g.name) :
    0 < (addTo r g).l.length ∧ ∀ x ∈ (addTo r g).l, x.cl = 1 ∧ x.ty = (addTo r g).ty ∧ Nm.foldN x.name = (addTo r g).name := by
  unfold addTo
  split
  · exact h
  · refine ⟨by simp, fun x hx => ?_⟩
    simp only at hx ⊢
    rcases List.mem_append.1 hx with h1 | h1
    · exact h.2 x h1
    · simp at h1; rw [h1]; exact hr
theorem good_add {gs : List Gr} (h : GoodG gs) (r : Rc.RR) : GoodG (addG gs r) := by
  unfold addG
  split
  · rename_i hcl
    split
    · intro g hg
      rcases List.mem_append.1 hg with h1 | h1
      · exact h g h1
      · simp at h1
        subst h1
        exact ⟨by simp, fun x hx => by simp at hx; subst hx; exact ⟨hcl, rfl, rfl⟩⟩
    · rename_i hneg
      have h2 := idx_lt (keyP r) gs
      have h3 := idx_spec (keyP r) gs (by omega)
      rw [keyP_true] at h3
      intro g hg
      rcases List.mem_or_eq_of_mem_set hg with h1 | h1
      · exact h g h1
      · subst h1
        exact good_addTo (h _ (getD_mem' (by omega))) ⟨hcl, h3.2.symm, h3.1.symm⟩
  · exact h
theorem groupsN_good (l : List Rc.RR) : GoodG (groupsN l) := by
  have key : ∀ (l : List Rc.RR) (gs : List Gr), GoodG gs → GoodG (l.foldl addG gs) := by
    intro l
    induction l with
    | nil => intro gs h; exact h
    | cons r l ih => intro gs h; exact ih _ (good_add h r)
  exact key l [] (fun g h => by cases h)

/-- how many records -/
def sumG (gs : List Gr) : Nat := (gs.map fun g => g.l.length).sum
theorem sumG_snoc (gs : List Gr) (g : Gr) : sumG (gs ++ [g]) = sumG gs + g.l.length := by simp [sumG]
theorem sumG_set : ∀ (gs : List Gr) (q : Nat) (g : Gr), q < gs.length → sumG (gs.set q g) + (gs.getD q g0).l.length = sumG gs + g.l.length
  | [], _, _, h => by simp at h
  | x :: gs, 0, g, _ => by simp [sumG]; omega
  | x :: gs, q + 1, g, h => by
    have := sumG_set gs q g (by simpa using h)
    simp only [List.set_cons_succ, List.getD_cons_succ]
    simp [sumG] at this ⊢
    omega
def InG (gs : List Gr) (x : Rc.RR) : Prop := ∃ g ∈ gs, x ∈ g.l
def HasG (gs : List Gr) (r : Rc.RR) : Prop := ∃ x, InG gs x ∧ Rc.sameRR x r = true
theorem same_key {x r : Rc.RR} (h : Rc.sameRR x r = true) : Nm.foldN x.name = Nm.foldN r.name ∧ x.ty = r.ty ∧ x.cl = r.cl := by
  unfold Rc.sameRR at h
  simp only [Bool.and_eq_true, beq_iff_eq] at h
  exact ⟨h.1.1.1, h.1.1.2, h.1.2⟩
theorem hasG_idx {gs : List Gr} (hg : GoodG gs) (ha : Apart gs) (r : Rc.RR) : HasG gs r ↔ 0 ≤ idx (keyP r) gs ∧ (gs.getD (idx (keyP r) gs).toNat g0).l.any (fun x => Rc.sameRR x r) = true := by
  have hl := idx_lt (keyP r) gs
  constructor
  · rintro ⟨x, ⟨g, hgm, hx⟩, hs⟩
    obtain ⟨k1, k2, k3⟩ := same_key hs
    obtain ⟨_, h2, h3⟩ := (hg g hgm).2 x hx
    obtain ⟨i, hi, rfl⟩ := List.getElem_of_mem hgm
    have he : gs.getD i g0 = gs[i] := by simp [List.getD_eq_getElem?_getD, hi]
    have hp : keyP r (gs.getD i g0) = true := by rw [he, keyP_true]; exact ⟨h3.symm.trans k1, h2.symm.trans k2⟩
    have hix := idx_only ha hi hp
    rw [hix]
    refine ⟨by omega, ?_⟩
    rw [Int.toNat_natCast, he]
    exact List.any_eq_true.2 ⟨x, hx, hs⟩
  · rintro ⟨h1, h2⟩
    obtain ⟨x, hx, hs⟩ := List.any_eq_true.1 h2
    exact ⟨x, ⟨_, getD_mem' (by omega), hx⟩, hs⟩
theorem sumG_add {gs : List Gr} (hg : GoodG gs) (ha : Apart gs) (r : Rc.RR) : (r.cl = 1 → ¬ HasG gs r → sumG (addG gs r) = sumG gs + 1) ∧ (r.cl = 1 → HasG gs r → sumG (addG gs r) = sumG gs) ∧ (¬ r.cl = 1 → sumG (addG gs r) = sumG gs) := by
  have hl := idx_lt (keyP r) gs
  refine ⟨fun hc hn => ?_, fun hc hh => ?_, fun hc => by unfold addG; rw [if_neg hc]⟩
  · unfold addG
    rw [if_pos hc]
    split
    · rw [sumG_snoc]; rfl
    · rename_i hneg
      have hany : (gs.getD (idx (keyP r) gs).toNat g0).l.any (fun x => Rc.sameRR x r) = false := by
        cases h : (gs.getD (idx (keyP r) gs).toNat g0).l.any (fun x => Rc.sameRR x r) with
        | false => rfl
        | true => exact absurd ((hasG_idx hg ha r).2 ⟨by omega, h⟩) hn
      have h1 := sumG_set gs (idx (keyP r) gs).toNat (addTo r (gs.getD (idx (keyP r) gs).toNat g0)) (by omega)
      have h2 : (addTo r (gs.getD (idx (keyP r) gs).toNat g0)).l.length = (gs.getD (idx (keyP r) gs).toNat g0).l.length + 1 := by
        unfold addTo
        rw [hany]
        simp
      omega
  · obtain ⟨h1, h2⟩ := (hasG_idx hg ha r).1 hh
    unfold addG
    rw [if_pos hc, if_neg (by omega)]
    have h3 := sumG_set gs (idx (keyP r) gs).toNat (addTo r (gs.getD (idx (keyP r) gs).toNat g0)) (by omega)
    have h4 : addTo r (gs.getD (idx (keyP r) gs).toNat g0) = gs.getD (idx (keyP r) gs).toNat g0 := by
      unfold addTo
      rw [h2]
      simp
    rw [h4] at h3 ⊢
    omega
theorem inG_add {gs : List Gr} {r x : Rc.RR} : (InG gs x → InG (addG gs r) x) ∧ (InG (addG gs r) x → InG gs x ∨ x = r) := by
  have hl := idx_lt (keyP r) gs
  unfold addG
  split
  · split
    · constructor
      · rintro ⟨g, h1, h2⟩; exact ⟨g, by simp [h1], h2⟩
      · rintro ⟨g, h1, h2⟩
        rcases List.mem_append.1 h1 with h | h
        · exact .inl ⟨g, h, h2⟩
        · simp at h; subst h; simp at h2; exact .inr h2
    · rename_i hneg
      have hq : (idx (keyP r) gs).toNat < gs.length := by omega
      generalize (idx (keyP r) gs).toNat = q at *
      constructor
      · rintro ⟨g, h1, h2⟩
        obtain ⟨i, hi, rfl⟩ := List.getElem_of_mem h1
        by_cases hiq : i = q
        · subst hiq
          have he : gs.getD i g0 = gs[i] := by simp [List.getD_eq_getElem?_getD, hi]
          refine ⟨addTo r (gs.getD i g0), List.mem_set hq _, ?_⟩
          rw [he]
          unfold addTo
          split
          · exact h2
          · simp [h2]
        · refine ⟨gs[i], ?_, h2⟩
          have : (gs.set q (addTo r (gs.getD q g0)))[i]'(by simpa using hi) = gs[i] := by rw [List.getElem_set_ne (Ne.symm hiq)]
          rw [← this]
          exact List.getElem_mem _
      · rintro ⟨g, h1, h2⟩
        rcases List.mem_or_eq_of_mem_set h1 with h | h
        · exact .inl ⟨g, h, h2⟩
        · subst h
          unfold addTo at h2
          split at h2
          · exact .inl ⟨_, getD_mem' hq, h2⟩
          · simp only at h2
            rcases List.mem_append.1 h2 with h | h
            · exact .inl ⟨_, getD_mem' hq, h⟩
            · simp at h; exact .inr h
  · exact ⟨id, .inl⟩
theorem hasG_self {gs : List Gr} (hg : GoodG gs) (ha : Apart gs) {r : Rc.RR} (hc : r.cl = 1) : HasG (addG gs r) r := by
  by_cases hh : HasG gs r
  · obtain ⟨x, h1, h2⟩ := hh
    exact ⟨x, inG_add.1 h1, h2⟩
  · refine ⟨r, ?_, Rc.same_refl r⟩
    have hl := idx_lt (keyP r) gs
    unfold addG
    rw [if_pos hc]
    split
    · exact ⟨_, List.mem_append_right _ (List.mem_singleton.2 rfl), by simp⟩
    · rename_i hneg
      refine ⟨addTo r (gs.getD (idx (keyP r) gs).toNat g0), List.mem_set (by omega) _, ?_⟩
      have hany : (gs.getD (idx (keyP r) gs).toNat g0).l.any (fun x => Rc.sameRR x r) = false := by
        cases h : (gs.getD (idx (keyP r) gs).toNat g0).l.any (fun x => Rc.sameRR x r) with
        | false => rfl
        | true => exact absurd ((hasG_idx hg ha r).2 ⟨by omega, h⟩) hh
      unfold addTo
      rw [hany]
      simp
theorem snoc_ind {α : Type} {P : List α → Prop} (h0 : P []) (h1 : ∀ l r, P l → P (l ++ [r])) (l : List α) : P l := by
  have h : ∀ l : List α, P l.reverse := by
    intro l
    induction l with
    | nil => exact h0
    | cons x l ih => rw [List.reverse_cons]; exact h1 _ _ ih
  have h := h l.reverse
  rwa [List.reverse_reverse] at h
theorem groupsN_has : ∀ (l : List Rc.RR), (∀ x, InG (groupsN l) x → x ∈ l) ∧ (∀ y ∈ l, y.cl = 1 → HasG (groupsN l) y) := by
    refine snoc_ind ?_ ?_
    · exact ⟨fun x h => (by obtain ⟨g, h1, _⟩ := h; cases h1), fun y h => by cases h⟩
    · intro l r ih
      rw [groupsN_snoc]
      refine ⟨fun x h => ?_, fun y hy hc => ?_⟩
      · rcases inG_add.2 h with h | h
        · exact List.mem_append_left _ (ih.1 x h)
        · subst h; simp
      · rcases List.mem_append.1 hy with h | h
        · obtain ⟨x, h1, h2⟩ := ih.2 y h hc
          exact ⟨x, inG_add.1 h1, h2⟩
        · simp at h
          subst h
          exact hasG_self (groupsN_good l) (groupsN_apart l) hc
/-- what the groups have is what the records have -/
theorem hasG_iff : ∀ (l : List Rc.RR) (r : Rc.RR), r.cl = 1 → (HasG (groupsN l) r ↔ l.any (fun x => Rc.sameRR x r) = true) := by
  intro l r hc
  obtain ⟨k1, k2⟩ := groupsN_has l
  constructor
  · rintro ⟨x, h1, h2⟩
    exact List.any_eq_true.2 ⟨x, k1 x h1, h2⟩
  · intro h
    obtain ⟨y, hy, hs⟩ := List.any_eq_true.1 h
    obtain ⟨x, h1, h2⟩ := k2 y hy ((same_key hs).2.2.trans hc)
    exact ⟨x, h1, Rc.same_trans h2 hs⟩
/-- was a record like it met ahead, or is it of another class? -/
def metN (l : List Rc.RR) (r : Rc.RR) : Bool := (r.cl != 1) || l.any (fun x => Rc.sameRR x r)
theorem sumG_next (l : List Rc.RR) (r : Rc.RR) : sumG (groupsN (l ++ [r])) = sumG (groupsN l) + (if metN l r then 0 else 1) := by
  rw [groupsN_snoc]
  obtain ⟨h1, h2, h3⟩ := sumG_add (groupsN_good l) (groupsN_apart l) r
  unfold metN
  by_cases hc : r.cl = 1
  · have hb : (r.cl != 1) = false := by simp [hc]
    rw [hb, Bool.false_or]
    have h4 := hasG_iff l r hc
    cases ha : l.any (fun x => Rc.sameRR x r) with
    | true => rw [h2 hc (h4.2 ha)]; rfl
    | false => rw [h1 hc (fun h => by have := h4.1 h; rw [ha] at this; cases this)]; rfl
  · have hb : (r.cl != 1) = true := by simp [hc]
    rw [hb, h3 hc]
    rfl
theorem metN_snoc (l : List Rc.RR) (x r : Rc.RR) : metN (l ++ [x]) r = (metN l r || Rc.sameRR x r) := by
  unfold metN
  rw [List.any_append]
  simp [Bool.or_assoc]
theorem sumG_le : ∀ l : List Rc.RR, sumG (groupsN l) ≤ l.length := by
  refine snoc_ind ?_ ?_
  · simp [groupsN, sumG]
  · intro l r ih
    rw [sumG_next, List.length_append, List.length_singleton]
    split <;> omega
theorem sumG_take {gs : List Gr} {k : Nat} (h : k < gs.length) : sumG (gs.take (k + 1)) = sumG (gs.take k) + (gs.getD k g0).l.length := by
  rw [List.take_succ_eq_append_getElem h, sumG_snoc]
  simp [List.getD_eq_getElem?_getD, h]
theorem sumG_take_le : ∀ (gs : List Gr) (k : Nat), sumG (gs.take k) ≤ sumG gs
  | [], k => by simp
  | g :: gs, 0 => by simp [sumG]
  | g :: gs, k + 1 => by
    have h := sumG_take_le gs k
    simp [sumG] at h ⊢
    omega
/-- a group's facts -/
theorem groupsN_facts (l : List Rc.RR) (hok : ∀ r ∈ l, RROk r) : ∀ g ∈ groupsN l, 0 < g.l.length ∧ ∀ r ∈ g.l, r.cl = 1 ∧ r.ty = g.ty ∧ Nm.foldN r.name = g.name ∧ RROk r := fun g hg =>
  ⟨(groupsN_good l g hg).1, fun r hr => by
    obtain ⟨h1, h2, h3⟩ := (groupsN_good l g hg).2 r hr
    exact ⟨h1, h2, h3, hok _ ((groupsN_has l).1 r ⟨g, hg, hr⟩)⟩⟩
theorem SlC.take {w : World} {sz m n cap q : Nat} {a : Option Addr} {cs : List Value} (h : SlC w sz (.slice a n cap) m cs) (hq : q ≤ m) (hq0 : 0 < q) : SlC w sz (.slice a q cap) q (cs.take (q * sz)) := by
  obtain ⟨h1, a', cap', hv, h2, h3, hz, h4⟩ := h
  simp only [Value.slice.injEq] at hv
  obtain ⟨rfl, rfl, rfl⟩ := hv
  have hm : q * sz ≤ n * sz := Nat.mul_le_mul_right _ hq
  refine ⟨by rw [List.length_take, h1]; omega, a, cap, rfl, by omega, h3, hz, .inr ?_⟩
  rcases h4 with h4 | ⟨b, off, hb, hl, hc⟩
  · omega
  · refine ⟨b, off, hb, hl, fun j hj => ?_⟩
    rw [hc j (by omega), List.getElem?_take_of_lt hj]
theorem GrpV.take {w : World} {a : Option Addr} {n cap q : Nat} {gs : List Gr} (h : GrpV w (.slice a n cap) gs) (hq : q ≤ gs.length) (hq0 : 0 < q) : GrpV w (.slice a q cap) (gs.take q) := by
  obtain ⟨ps, rfl, hs, hl⟩ := h
  have hp : q ≤ ps.length := by simpa using hq
  refine ⟨ps.take q, (List.map_take).symm ▸ rfl, ?_, fun x hx => hl x (List.mem_of_mem_take hx)⟩
  have hc : encQ (ps.take q) = (encQ ps).take (q * 3) := by
    have key : ∀ (ps : List (Gr × Value)) (q : Nat), encQ (ps.take q) = (encQ ps).take (q * 3) := by
      intro ps
      induction ps with
      | nil => intro q; simp [encQ]
      | cons p ps ih =>
        intro q
        cases q with
        | zero => rfl
        | succ q =>
          have e : encQ (p :: ps) = [.string (mk p.1.name), .int .i64 p.1.ty, p.2] ++ encQ ps := rfl
          have e2 : encQ ((p :: ps).take (q + 1)) = [.string (mk p.1.name), .int .i64 p.1.ty, p.2] ++ encQ (ps.take q) := rfl
          rw [e, e2, ih q, show (q + 1) * 3 = q * 3 + 1 + 1 + 1 by omega]
          simp only [List.cons_append, List.nil_append, List.take_succ_cons]
    exact key ps q
  rw [List.length_take, Nat.min_eq_left hp, hc]
  exact SlC.take hs hp hq0
end Go.Proofs.Ytcamopppeanipaa

