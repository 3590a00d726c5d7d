/- Merged texts of the seat, in their order: BkA, BkB, BkC, Put, PutB. -/
import Derived.Test.YthfhmbooeemaaaaG5
import Derived.Test.YthfhmbooeemaaaaG6
import Derived.Test.YthfhmbooeemaaaaG7
/- Message: what was written is read as it was: names and numbers. Lists alone. -/
namespace Go.Proofs.Ythfhmbooeemaaaa
open Go.RowKit
set_option maxRecDepth 100000
set_option linter.unusedVariables false

/-! ### what stands at a place -/
/-- bytes stand at a place -/
def Has (F : List UInt8) (k : Nat) (bs : List UInt8) : Prop := k + bs.length ≤ F.length ∧ (F.drop k).take bs.length = bs
theorem Has.nil {F : List UInt8} {k : Nat} (h : k ≤ F.length) : Has F k [] := ⟨by simpa using h, by simp⟩
theorem Has.append {F : List UInt8} {k : Nat} {x y : List UInt8} : Has F k (x ++ y) ↔ Has F k x ∧ Has F (k + x.length) y := by
  unfold Has
  rw [List.length_append, ← List.drop_drop]
  constructor
  · rintro ⟨h1, h2⟩
    rw [List.take_add] at h2
    have hx : ((F.drop k).take x.length).length = x.length := by rw [List.length_take, List.length_drop]; omega
    obtain ⟨h3, h4⟩ := List.append_inj h2 hx
    exact ⟨⟨by omega, h3⟩, by omega, h4⟩
  · rintro ⟨⟨h1, h2⟩, h3, h4⟩
    exact ⟨by omega, by rw [List.take_add, h2, h4]⟩
theorem Has.cons {F : List UInt8} {k : Nat} {c : UInt8} {y : List UInt8} : Has F k (c :: y) ↔ (k < F.length ∧ F.getD k 0 = c) ∧ Has F (k + 1) y := by
  rw [show c :: y = [c] ++ y from rfl, Has.append]
  refine and_congr ?_ Iff.rfl
  unfold Has
  constructor
  · rintro ⟨h1, h2⟩
    simp only [List.length_singleton] at h1 h2
    refine ⟨by omega, ?_⟩
    have : (F.drop k).take 1 = [F[k]'(by omega)] := by rw [List.take_one, List.head?_drop, List.getElem?_eq_getElem (by omega)]; rfl
    rw [this] at h2
    rw [List.getD_eq_getElem?_getD, List.getElem?_eq_getElem (by omega), Option.getD_some]
    simpa using h2
  · rintro ⟨h1, h2⟩
    simp only [List.length_singleton]
    refine ⟨by omega, ?_⟩
    have : (F.drop k).take 1 = [F[k]'(by omega)] := by rw [List.take_one, List.head?_drop, List.getElem?_eq_getElem (by omega)]; rfl
    rw [this, ← h2, List.getD_eq_getElem?_getD, List.getElem?_eq_getElem (by omega), Option.getD_some]
theorem Has.le {F : List UInt8} {k : Nat} {bs : List UInt8} (h : Has F k bs) : k + bs.length ≤ F.length := h.1

/-- labels stand at a place, by pointers too; 'bg' where it was jumped to last, 'e' the place behind -/
inductive At (F : List UInt8) : Nat → Nat → List (List UInt8) → Nat → Prop
  | nil (bg k : Nat) : k < F.length → F.getD k 0 = 0 → At F bg k [] (k + 1)
  | lab (bg k : Nat) (l : List UInt8) (ls : List (List UInt8)) (e : Nat) : 1 ≤ l.length → l.length ≤ 63 → Has F k (UInt8.ofNat l.length :: l) → At F bg (k + 1 + l.length) ls e → At F bg k (l :: ls) e
  | ptr (bg k t : Nat) (ls : List (List UInt8)) (e : Nat) : t < bg → t < 16384 → Has F k (two2 (49152 + (t : Int))) → At F t t ls e → At F bg k ls (k + 2)
theorem At.mono {F : List UInt8} {bg k e : Nat} {ls : List (List UInt8)} (h : At F bg k ls e) : ∀ bg', bg ≤ bg' → At F bg' k ls e := by
  induction h with
  | nil bg k h1 h2 => exact fun bg' _ => .nil bg' k h1 h2
  | lab bg k l ls e h1 h2 h3 _ ih => exact fun bg' hb => .lab bg' k l ls e h1 h2 h3 (ih bg' hb)
  | ptr bg k t ls e h1 h2 h3 h4 _ => exact fun bg' hb => .ptr bg' k t ls e (by omega) h2 h3 h4
theorem At.good {F : List UInt8} {bg k e : Nat} {ls : List (List UInt8)} (h : At F bg k ls e) : Nm.GoodL ls := by
  induction h with
  | nil => exact Nm.good_nil
  | lab bg k l ls e h1 h2 h3 _ ih => exact Nm.good_cons.2 ⟨⟨h1, h2⟩, ih⟩
  | ptr bg k t ls e h1 h2 h3 h4 ih => exact ih
theorem At.lt {F : List UInt8} {bg k e : Nat} {ls : List (List UInt8)} (h : At F bg k ls e) : k < F.length := by
  cases h with
  | nil _ _ h => exact h
  | lab _ _ l _ _ _ _ h _ => have := h.le; simp at this; omega
  | ptr _ _ t _ e _ _ h _ => have := h.le; simp [two2] at this; omega
theorem two2_at {t : Nat} (h : t < 16384) : (byteOf (49152 + (t : Int)) 256).toNat = 192 + t / 256 ∧ (byteOf (49152 + (t : Int)) 1).toNat = t % 256 := by
  have h1 := byteOf_nat (49152 + (t : Int)) 256
  have h2 := byteOf_nat (49152 + (t : Int)) 1
  constructor <;> omega
theorem drop_has {F : List UInt8} {k : Nat} {bs : List UInt8} (h : Has F k bs) : (F.drop k).take bs.length = bs := h.2
/-- what stands at a place is read there -/
theorem At.get {F : List UInt8} {bg k e : Nat} {ls : List (List UInt8)} (h : At F bg k ls e) : ∀ (f : Nat) (e0 : Int) (out : List UInt8), out.length + (Nm.wire ls).length ≤ 255 → bg * (F.length + 1) + (F.length - k) < f → getF F f k bg e0 out = some (out ++ Nm.wire ls, if e0 < 0 then (e : Int) else e0) := by
  induction h with
  | nil bg k h1 h2 =>
    intro f e0 out hl hf
    obtain ⟨f, rfl⟩ : ∃ f', f = f' + 1 := ⟨f - 1, by omega⟩
    have h0 : (F.getD k 0).toNat = 0 := by rw [h2]; rfl
    rw [getF, if_pos h1, if_pos h0, if_neg (by simp [Nm.wire, Nm.pre] at hl; omega)]
    rfl
  | lab bg k l ls e h1 h2 h3 h4 ih =>
    intro f e0 out hl hf
    obtain ⟨f, rfl⟩ : ∃ f', f = f' + 1 := ⟨f - 1, by omega⟩
    have hle := h3.le
    have hd := h3.2
    simp only [List.length_cons] at hle hd
    have hc := (Has.cons.1 h3).1.2
    have hn : (F.getD k 0).toNat = l.length := by rw [hc]; exact Nm.ofNat_toNat h2
    have hw : (Nm.wire (l :: ls)).length = 1 + l.length + (Nm.wire ls).length := by simp [Nm.wire, Nm.pre]; omega
    have hwp := Nm.wire_length_gt ls
    rw [getF, if_pos (by omega), if_neg (by omega), if_pos (by omega), hn, if_neg (by omega), show 1 + l.length = l.length + 1 by omega, hd, ih f e0 _ (by simp; omega) (by omega)]
    have : out ++ UInt8.ofNat l.length :: l ++ Nm.wire ls = out ++ Nm.wire (l :: ls) := by simp [Nm.wire, Nm.pre]
    rw [this]
  | ptr bg k t ls e h1 h2 h3 h4 ih =>
    intro f e0 out hl hf
    obtain ⟨f, rfl⟩ : ∃ f', f = f' + 1 := ⟨f - 1, by omega⟩
    have hle := h3.le
    have hl2 : (two2 (49152 + (t : Int))).length = 2 := rfl
    rw [hl2] at hle
    obtain ⟨⟨_, hc⟩, h5⟩ := Has.cons.1 h3
    obtain ⟨⟨_, hc2⟩, _⟩ := Has.cons.1 h5
    obtain ⟨n1, n2⟩ := two2_at h2
    rw [← hc] at n1
    rw [← hc2] at n2
    have ht : ((F.getD k 0).toNat - 192) * 256 + (F.getD (k + 1) 0).toNat = t := by omega
    rw [getF, if_pos (by omega), if_neg (by omega), if_neg (by omega), if_neg (by omega), ht, if_neg (by omega)]
    have hm : t * (F.length + 1) + (F.length - t) < f := by
      have h6 : (t + 1) * (F.length + 1) ≤ bg * (F.length + 1) := Nat.mul_le_mul_right _ h1
      rw [Nat.add_mul] at h6
      omega
    rw [ih f _ _ hl hm]
    by_cases he : e0 < 0
    · rw [if_pos he, if_pos he, if_neg (by omega)]
      rfl
    · rw [if_neg he, if_neg he, if_neg he]
theorem At.is {F : List UInt8} {k e : Nat} {ls : List (List UInt8)} (h : At F k k ls e) (hl : (Nm.wire ls).length ≤ 255) : getN F k = (Nm.wire ls, (e : Int), 0) := by
  unfold getN
  rw [h.get _ (-1) [] (by simpa using hl) (by omega)]
  rfl

/-! ### what is written stands there -/
/-- a name's bytes, written at a place, and what was met -/
def nameS (sq : Bool) : List (List UInt8) → Nat → Met → List UInt8 × Met
  | [], _, M => ([0], M)
  | l :: ls, k, M => match (if sq then look M (Nm.wire (l :: ls)) else none) with
    | some t => (two2 (49152 + (t : Int)), M)
    | none => (UInt8.ofNat l.length :: l ++ (nameS sq ls (k + 1 + l.length) (if sq && decide (k < 16384) then M ++ [(Nm.wire (l :: ls), k)] else M)).1, (nameS sq ls (k + 1 + l.length) (if sq && decide (k < 16384) then M ++ [(Nm.wire (l :: ls), k)] else M)).2)
theorem nameW_S (sq : Bool) : ∀ (ls : List (List UInt8)) (b : List UInt8) (M : Met), nameW sq ls b M = (b ++ (nameS sq ls b.length M).1, (nameS sq ls b.length M).2)
  | [], b, M => rfl
  | l :: ls, b, M => by
    rw [nameW, nameS]
    cases hq : (if sq then look M (Nm.wire (l :: ls)) else none) with
    | some t => rfl
    | none =>
      simp only
      rw [nameW_S sq ls, List.length_append, List.length_cons, show b.length + (l.length + 1) = b.length + 1 + l.length by omega]
      simp
/-- what was met stands where it says -/
def Inv (F : List UInt8) (k : Nat) (M : Met) : Prop := ∀ n t, look M n = some t → t < k ∧ t < 16384 ∧ ∃ ls e, n = Nm.wire ls ∧ At F t t ls e
theorem Inv.nil (F : List UInt8) (k : Nat) : Inv F k [] := fun n t h => by cases h
theorem Inv.mono {F : List UInt8} {k k' : Nat} {M : Met} (h : Inv F k M) (hk : k ≤ k') : Inv F k' M := fun n t e => by
  obtain ⟨h1, h2, h3⟩ := h n t e
  exact ⟨by omega, h2, h3⟩
theorem nameS_at (F : List UInt8) (sq : Bool) (bg : Nat) : ∀ (ls : List (List UInt8)) (k : Nat) (M : Met) (M0 : Met), Nm.GoodL ls → bg ≤ k → Inv F bg M0 →
    (∀ n t, look M n = some t → n.length ≤ (Nm.wire ls).length → look M0 n = some t) →
    Has F k (nameS sq ls k M).1 →
    At F bg k ls (k + (nameS sq ls k M).1.length) ∧
    (∀ n t, look (nameS sq ls k M).2 n = some t → look M n = some t ∨ (k ≤ t ∧ t < k + (nameS sq ls k M).1.length ∧ t < 16384 ∧ ∃ ms e, n = Nm.wire ms ∧ At F t t ms e))
  | [], k, M, M0, hg, hb, hi, hM, hh => by
    have h := (Has.cons.1 hh).1
    exact ⟨.nil bg k h.1 h.2, fun n t e => .inl e⟩
  | l :: ls, k, M, M0, hg, hb, hi, hM, hh => by
    obtain ⟨⟨g1, g2⟩, g3⟩ := Nm.good_cons.1 hg
    rw [nameS] at hh ⊢
    cases hq : (if sq then look M (Nm.wire (l :: ls)) else none) with
    | some t =>
      rw [hq] at hh
      simp only at hh ⊢
      have hlk : look M (Nm.wire (l :: ls)) = some t := by
        cases sq with
        | true => simpa using hq
        | false => simp at hq
      obtain ⟨i1, i2, ms, e, i3, i4⟩ := hi _ _ (hM _ _ hlk (Nat.le_refl _))
      have hms : l :: ls = ms := (Nm.wire_inj (t := []) (u := []) hg i4.good (by rw [i3])).1
      subst hms
      exact ⟨.ptr bg k t _ e i1 i2 hh i4, fun n t e => .inl e⟩
    | none =>
      rw [hq] at hh
      simp only at hh ⊢
      obtain ⟨h1, h2⟩ := Has.append.1 hh
      simp only [List.length_cons, List.length_append] at h2 ⊢
      rw [show k + (l.length + 1) = k + 1 + l.length by omega] at h2
      have hw : (Nm.wire (l :: ls)).length = 1 + l.length + (Nm.wire ls).length := by simp [Nm.wire, Nm.pre]; omega
      obtain ⟨r1, r2⟩ := nameS_at F sq bg ls (k + 1 + l.length) (if sq && decide (k < 16384) then M ++ [(Nm.wire (l :: ls), k)] else M) M0 g3 (by omega) hi (fun n t e hn => by
        refine hM n t ?_ (by omega)
        split at e
        · rw [look_snoc] at e
          split at e
          · rename_i hx
            rw [← hx, hw] at hn
            omega
          · exact e
        · exact e) h2
      have hat : At F bg k (l :: ls) (k + 1 + l.length + (nameS sq ls (k + 1 + l.length) (if sq && decide (k < 16384) then M ++ [(Nm.wire (l :: ls), k)] else M)).1.length) := .lab bg k l ls _ g1 g2 h1 r1
      refine ⟨by rw [show k + (l.length + 1 + (nameS sq ls (k + 1 + l.length) (if sq && decide (k < 16384) then M ++ [(Nm.wire (l :: ls), k)] else M)).1.length) = k + 1 + l.length + (nameS sq ls (k + 1 + l.length) (if sq && decide (k < 16384) then M ++ [(Nm.wire (l :: ls), k)] else M)).1.length by omega]; exact hat, fun n t e => ?_⟩
      rcases r2 n t e with h | ⟨h3, h4, h5, h6⟩
      · split at h
        · rename_i hc
          simp only [Bool.and_eq_true, decide_eq_true_eq] at hc
          rw [look_snoc] at h
          split at h
          · rename_i hx
            cases h
            exact .inr ⟨Nat.le_refl _, by omega, hc.2, l :: ls, _, hx.symm, hat.mono k hb⟩
          · exact .inl h
        · exact .inl h
      · exact .inr ⟨by omega, by omega, h5, h6⟩
/-- a name that is written stands there, and so does what was met -/
theorem nameS_get {F : List UInt8} {sq : Bool} {ls : List (List UInt8)} {k : Nat} {M : Met} (hg : Nm.GoodL ls) (hi : Inv F k M) (hh : Has F k (nameS sq ls k M).1) :
    At F k k ls (k + (nameS sq ls k M).1.length) ∧ Inv F (k + (nameS sq ls k M).1.length) (nameS sq ls k M).2 := by
  obtain ⟨h1, h2⟩ := nameS_at F sq k ls k M M hg (Nat.le_refl _) hi (fun n t e _ => e) hh
  refine ⟨h1, fun n t e => ?_⟩
  rcases h2 n t e with h | ⟨h3, h4, h5, h6⟩
  · obtain ⟨i1, i2, i3⟩ := hi n t h
    exact ⟨by omega, i2, i3⟩
  · exact ⟨h4, h5, h6⟩
/-! ### numbers read -/
theorem byte_at {F : List UInt8} {k : Nat} {c : UInt8} {y : List UInt8} (h : Has F k (c :: y)) : F.getD k 0 = c := (Has.cons.1 h).1.2
theorem lack_in {len k : Nat} {n : Nat} (h : k + n ≤ len) : lackB len k false n = false := by
  unfold lackB
  simp
  omega
theorem rdTwo_has {F : List UInt8} {k : Nat} {a b : UInt8} {y : List UInt8} (h : Has F k (a :: b :: y)) : rdTwo F k false = (((a.toNat * 256 + b.toNat : Nat) : Int), k + 2, false) := by
  have hl := h.le
  simp only [List.length_cons] at hl
  have h1 := byte_at h
  have h2 := byte_at (Has.cons.1 h).2
  have e := lack_in (len := F.length) (k := k) (n := 2) (by omega)
  unfold rdTwo
  rw [show lackB F.length k false 2 = false from e, h1, h2]
  rfl
theorem rdTwo_two {F : List UInt8} {k : Nat} {n : Int} (h : Has F k (two2 n)) (h0 : 0 ≤ n) (h1 : n ≤ 65535) : rdTwo F k false = (n, k + 2, false) := by
  rw [rdTwo_has h]
  have a1 := byteOf_nat n 256
  have a2 := byteOf_nat n 1
  congr 1
  omega
theorem rdTwo_four {F : List UInt8} {k : Nat} {n : Int} (h : Has F k (four n)) (h0 : 0 ≤ n) (h1 : n < 4294967296) : rdTwo F k false = (n / 65536, k + 2, false) ∧ rdTwo F (k + 2) false = (n % 65536, k + 2 + 2, false) := by
  have hh : Has F (k + 2) [byteOf n 256, byteOf n 1] := (Has.append (x := [byteOf n 16777216, byteOf n 65536]) (y := [byteOf n 256, byteOf n 1])).1 h |>.2
  rw [rdTwo_has (y := [byteOf n 256, byteOf n 1]) h, rdTwo_has (y := []) hh]
  have a1 := byteOf_nat n 16777216
  have a2 := byteOf_nat n 65536
  have a3 := byteOf_nat n 256
  have a4 := byteOf_nat n 1
  constructor
  · congr 1; omega
  · congr 1; omega
theorem rdBytes_has {F : List UInt8} {k : Nat} {bs : List UInt8} {n : Nat} (h : Has F k bs) (hn : bs.length = n) : rdBytes F k false n = (bs, k + n, false) := by
  subst hn
  unfold rdBytes
  rw [lack_in h.le]
  have := h.2
  simp only [Int.toNat_natCast, this]
  rfl
theorem rdName_at {F : List UInt8} {k e : Nat} {ls : List (List UInt8)} (h : At F k k ls e) (hl : (Nm.wire ls).length ≤ 255) : rdName F k false = (Nm.wire ls, e, false) := by
  have := h.is hl
  unfold rdName
  rw [this]
  rfl

/-! ### records -/
/-- data, its names squeezed or whole, written at a place -/
def partsS (sq : Bool) (d : List UInt8) : List (Nat × Nat) → Nat → Nat → Met → List UInt8 × Met × Nat
  | [], fr, _, M => ([], M, fr)
  | (p, n) :: ps, fr, k, M =>
    ((d.drop fr).take (p - fr) ++ (nameS sq (Nm.labs ((d.drop p).take n)) (k + ((d.drop fr).take (p - fr)).length) M).1 ++ (partsS sq d ps (p + n) (k + ((d.drop fr).take (p - fr)).length + (nameS sq (Nm.labs ((d.drop p).take n)) (k + ((d.drop fr).take (p - fr)).length) M).1.length) (nameS sq (Nm.labs ((d.drop p).take n)) (k + ((d.drop fr).take (p - fr)).length) M).2).1,
     (partsS sq d ps (p + n) (k + ((d.drop fr).take (p - fr)).length + (nameS sq (Nm.labs ((d.drop p).take n)) (k + ((d.drop fr).take (p - fr)).length) M).1.length) (nameS sq (Nm.labs ((d.drop p).take n)) (k + ((d.drop fr).take (p - fr)).length) M).2).2)
theorem putParts_S (sq : Bool) (d : List UInt8) : ∀ (ps : List (Nat × Nat)) (fr : Nat) (st : WSt), putParts sq d ps fr st = ((st.1 ++ (partsS sq d ps fr st.1.length st.2).1, (partsS sq d ps fr st.1.length st.2).2.1), (partsS sq d ps fr st.1.length st.2).2.2)
  | [], fr, st => by simp [putParts, partsS]
  | (p, n) :: ps, fr, st => by
    rw [putParts, nameW_S, putParts_S sq d ps]
    simp only [partsS, List.length_append, List.append_assoc, Nat.add_assoc]
/-- a record written at a place -/
def recS (r : Rc.RR) (k : Nat) (M : Met) : List UInt8 × Met :=
  let a := nameS true (Nm.labs r.name) k M
  let h := a.1 ++ two2 r.ty ++ two2 r.cl ++ four r.ttl
  let p := partsS (r.ty != 33) r.data ((Rc.partsN r.ty r.data).getD []) 0 (k + h.length + 2) a.2
  (h ++ two2 ((p.1 ++ r.data.drop p.2.2).length : Int) ++ (p.1 ++ r.data.drop p.2.2), p.2.1)
theorem setTwo_at (x y : List UInt8) (n : Int) : setTwo (x ++ two2 0 ++ y) x.length n = x ++ two2 n ++ y := by
  unfold setTwo two2
  rw [List.append_assoc, List.set_append_right _ _ (Nat.le_refl _), Nat.sub_self, List.set_append_right _ _ (Nat.le_succ _), show x.length + 1 - x.length = 1 by omega]
  simp
theorem putN_S (r : Rc.RR) (st : WSt) : putN r st = (st.1 ++ (recS r st.1.length st.2).1, (recS r st.1.length st.2).2) := by
  have hh : putHead r st = st.1 ++ ((nameS true (Nm.labs r.name) st.1.length st.2).1 ++ two2 r.ty ++ two2 r.cl ++ four r.ttl) := by
    unfold putHead
    rw [nameW_S]
    simp
  have hb : putBody r st = ((putHead r st ++ two2 0 ++ (partsS (r.ty != 33) r.data ((Rc.partsN r.ty r.data).getD []) 0 ((putHead r st).length + 2) (nameS true (Nm.labs r.name) st.1.length st.2).2).1, (partsS (r.ty != 33) r.data ((Rc.partsN r.ty r.data).getD []) 0 ((putHead r st).length + 2) (nameS true (Nm.labs r.name) st.1.length st.2).2).2.1), (partsS (r.ty != 33) r.data ((Rc.partsN r.ty r.data).getD []) 0 ((putHead r st).length + 2) (nameS true (Nm.labs r.name) st.1.length st.2).2).2.2) := by
    unfold putBody
    rw [putParts_S, nameW_S]
    simp only [List.length_append, two2_len]
  unfold putN
  rw [hb]
  simp only
  have hn : ∀ (H P : List UInt8), (((H ++ two2 0 ++ P).length : Int) - H.length - 2) = (P.length : Int) := fun H P => by
    simp only [List.length_append, two2_len]
    omega
  rw [List.append_assoc (putHead r st ++ two2 0), hn, setTwo_at, hh]
  unfold recS
  simp only [List.length_append, List.append_assoc, Nat.add_assoc]
/-- names one behind the other, from a place to a place -/
def Runs (d : List UInt8) : Nat → List (Nat × Nat) → Nat → Prop
  | fr, [], e => fr = e ∧ e ≤ d.length
  | fr, (p, n) :: ps, e => p = fr ∧ Nm.valid ((d.drop p).take n) = true ∧ p + n ≤ d.length ∧ Runs d (p + n) ps e
theorem Runs.le {d : List UInt8} : ∀ {ps : List (Nat × Nat)} {fr e : Nat}, Runs d fr ps e → fr ≤ e ∧ e ≤ d.length
  | [], fr, e, h => by obtain ⟨rfl, h⟩ := h; exact ⟨Nat.le_refl _, h⟩
  | (p, n) :: ps, fr, e, h => by
    obtain ⟨rfl, _, _, h4⟩ := h
    have := Runs.le h4
    exact ⟨by omega, this.2⟩
theorem runs_snoc {d : List UInt8} : ∀ {ps : List (Nat × Nat)} {fr e n : Nat}, Runs d fr ps e → Nm.valid ((d.drop e).take n) = true → e + n ≤ d.length → Runs d fr (ps ++ [(e, n)]) (e + n)
  | [], fr, e, n, h, hv, hl => by obtain ⟨rfl, h⟩ := h; exact ⟨rfl, hv, hl, rfl, hl⟩
  | (p, m) :: ps, fr, e, n, h, hv, hl => by
    obtain ⟨rfl, h2, h3, h4⟩ := h
    exact ⟨rfl, h2, h3, runs_snoc h4 hv hl⟩
theorem names_runs {d : List UInt8} {a : Nat} (ha : a ≤ d.length) : ∀ {m : Nat} {l : List (Nat × Nat)} {e : Nat}, Rc.names d a m = some (l, e) → Runs d a l e ∧ l.length = m
  | 0, l, e, h => by
    simp only [Rc.names, Option.some.injEq, Prod.mk.injEq] at h
    obtain ⟨rfl, rfl⟩ := h
    exact ⟨⟨rfl, ha⟩, rfl⟩
  | m + 1, l, e, h => by
    cases hn : Rc.names d a m with
    | none => rw [Rc.names_none hn (Nat.le_succ m)] at h; cases h
    | some p =>
      obtain ⟨l0, e0⟩ := p
      obtain ⟨h1, h2⟩ := names_runs ha hn
      rw [Rc.names_succ hn] at h
      cases hq : Nm.lead (d.drop e0) with
      | none => rw [hq] at h; cases h
      | some n =>
        rw [hq] at h
        simp only [Option.some.injEq, Prod.mk.injEq] at h
        obtain ⟨rfl, rfl⟩ := h
        have h3 := (Nm.lead_le hq).2.2
        rw [List.length_drop] at h3
        have := h1.le
        exact ⟨runs_snoc h1 (Rc.lead_take hq) (by omega), by simp [h2]⟩
/-- names of data that stand one behind the other are read as they were -/
theorem names_get {F : List UInt8} {sq : Bool} {d : List UInt8} : ∀ {ps : List (Nat × Nat)} {fr e k : Nat} {M : Met} (out : List UInt8), Runs d fr ps e → k ≤ F.length → Has F k (partsS sq d ps fr k M).1 → Inv F k M →
    rdNames F ps.length out k false = (out ++ (d.drop fr).take (e - fr), k + (partsS sq d ps fr k M).1.length, false) ∧ Inv F (k + (partsS sq d ps fr k M).1.length) (partsS sq d ps fr k M).2.1 ∧ (partsS sq d ps fr k M).2.2 = e
  | [], fr, e, k, M, out, hr, hk, hh, hi => by
    obtain ⟨rfl, _⟩ := hr
    exact ⟨by simp [rdNames, partsS], hi, rfl⟩
  | (p, n) :: ps, fr, e, k, M, out, hr, hk, hh, hi => by
    obtain ⟨rfl, h2, h3, h4⟩ := hr
    obtain ⟨v1, v2, v3⟩ := Nm.labs_valid h2
    have h0 : (d.drop p).take (p - p) = [] := by simp
    rw [partsS, h0] at hh ⊢
    simp only [List.nil_append, List.length_nil, Nat.add_zero] at hh ⊢
    obtain ⟨g1, g2⟩ := Has.append.1 hh
    obtain ⟨a1, a2⟩ := nameS_get v2 hi g1
    have hn := rdName_at a1 (by rw [← v1]; exact v3)
    obtain ⟨r1, r2, r3⟩ := names_get (out ++ (d.drop p).take n) h4 (by have := g2.1; omega) g2 a2
    rw [List.length_cons, rdNames, hn, ← v1]
    simp only [List.length_append]
    refine ⟨?_, by rw [← Nat.add_assoc]; exact r2, r3⟩
    rw [r1, ← Nat.add_assoc]
    congr 1
    have hl := Runs.le h4
    rw [List.append_assoc]
    congr 1
    rw [show e - p = n + (e - (p + n)) by omega, List.take_add, List.drop_drop]
end Go.Proofs.Ythfhmbooeemaaaa

/- Message: what was written is read as it was: records, messages. Lists alone. -/
namespace Go.Proofs.Ythfhmbooeemaaaa
open Go.RowKit
set_option maxRecDepth 100000
set_option linter.unusedVariables false

/-! ### a record read as it was written -/
theorem partsS_first {sq : Bool} {d : List UInt8} {a n : Nat} {ps : List (Nat × Nat)} (k : Nat) (M : Met) (ha : a ≤ d.length) :
    partsS sq d ((a, n) :: ps) 0 k M = (d.take a ++ (partsS sq d ((a, n) :: ps) a (k + a) M).1, (partsS sq d ((a, n) :: ps) a (k + a) M).2) := by
  have e : (d.take a).length = a := by rw [List.length_take]; omega
  simp only [partsS, List.drop_zero, Nat.sub_zero, Nat.sub_self, List.take_zero, List.nil_append, List.length_nil, Nat.add_zero, e, List.append_assoc]
theorem decide_self (n : Nat) : (!decide (n = n)) = false := by simp
/-- data read as they were written -/
theorem data_get {F : List UInt8} {r : Rc.RR} {k : Nat} {M : Met} (hd : Rc.dataB r.ty r.data = true)
    (hh : Has F k ((partsS (r.ty != 33) r.data ((Rc.partsN r.ty r.data).getD []) 0 k M).1 ++ r.data.drop (partsS (r.ty != 33) r.data ((Rc.partsN r.ty r.data).getD []) 0 k M).2.2)) (hi : Inv F k M) :
    rdData F r.ty ((partsS (r.ty != 33) r.data ((Rc.partsN r.ty r.data).getD []) 0 k M).1 ++ r.data.drop (partsS (r.ty != 33) r.data ((Rc.partsN r.ty r.data).getD []) 0 k M).2.2).length k false = (r.data, k + ((partsS (r.ty != 33) r.data ((Rc.partsN r.ty r.data).getD []) 0 k M).1 ++ r.data.drop (partsS (r.ty != 33) r.data ((Rc.partsN r.ty r.data).getD []) 0 k M).2.2).length, false) ∧
    Inv F (k + ((partsS (r.ty != 33) r.data ((Rc.partsN r.ty r.data).getD []) 0 k M).1 ++ r.data.drop (partsS (r.ty != 33) r.data ((Rc.partsN r.ty r.data).getD []) 0 k M).2.2).length) (partsS (r.ty != 33) r.data ((Rc.partsN r.ty r.data).getD []) 0 k M).2.1 := by
  rw [Rc.partsN_some hd] at hh ⊢
  simp only [Option.getD_some] at hh ⊢
  obtain ⟨rn, ty, cl, tl, d⟩ := r
  simp only at hd hh ⊢
  have hlk : ∀ {bs : List UInt8}, Has F k bs → lackB F.length k false (bs.length : Nat) = false := fun h => lack_in h.le
  generalize hsq : (ty != 33) = sq at *
  cases hs : Rc.shape ty with
  | none =>
    have hp : Rc.placesP ty d = ([], true) := by unfold Rc.placesP; rw [hs]
    rw [hp] at hh ⊢
    simp only [partsS, List.nil_append, List.drop_zero] at hh ⊢
    refine ⟨?_, hi.mono (by omega)⟩
    unfold rdData rdDataIn
    rw [hs, hlk hh]
    simp only
    rw [rdBytes_has hh rfl]
    simp
  | some q =>
    obtain ⟨a, m, b⟩ := q
    have hty : ¬ ty = 1 ∧ ¬ ty = 28 ∧ ¬ ty = 16 := by
      unfold Rc.shape at hs
      refine ⟨fun h => ?_, fun h => ?_, fun h => ?_⟩ <;> (subst h; simp at hs)
    have hp2 : (Rc.placesP ty d).2 = true := by
      unfold Rc.dataB at hd
      split at hd
      · cases hd
      · rw [if_neg hty.1, if_neg hty.2.1, if_neg hty.2.2] at hd
        exact hd
    have hm : m = 1 ∨ m = 2 := by
      unfold Rc.shape at hs
      repeat' split at hs
      all_goals first | (simp only [Option.some.injEq, Prod.mk.injEq] at hs; omega) | cases hs
    unfold Rc.placesP at hp2 hh ⊢
    rw [hs] at hp2 hh ⊢
    simp only at hp2 hh ⊢
    by_cases hda : d.length < a
    · rw [if_pos hda] at hp2; cases hp2
    · rw [if_neg hda] at hp2 hh ⊢
      cases hn : Rc.names d a m with
      | none => rw [hn] at hp2; cases hp2
      | some z =>
        obtain ⟨l, e⟩ := z
        rw [hn] at hp2 hh
        simp only [decide_eq_true_eq] at hp2 hh ⊢
        obtain ⟨hr, hlen⟩ := names_runs (by omega) hn
        have hle := hr.le
        cases l with
        | nil => simp at hlen; omega
        | cons z ps =>
          obtain ⟨a', n⟩ := z
          obtain rfl : a' = a := hr.1
          rw [partsS_first k M (by omega)] at hh ⊢
          have ea : (d.take a').length = a' := by rw [List.length_take]; omega
          rw [List.append_assoc] at hh
          have hlk2 := hlk hh
          obtain ⟨h1, h2⟩ := Has.append.1 hh
          rw [ea] at h2
          obtain ⟨h3, h4⟩ := Has.append.1 h2
          obtain ⟨n1, n2, n3⟩ := names_get (d.take a') hr (by have := h3.le; omega) h3 (hi.mono (by omega))
          rw [n3] at h4 hlk2 ⊢
          rw [n3] at hh
          have e4 : (d.drop e).length = b := by rw [List.length_drop]; exact hp2
          have hb1 := rdBytes_has h1 ea
          have hb2 := rdBytes_has h4 e4
          simp only [List.length_append, ea] at hlk2 ⊢
          refine ⟨?_, n2.mono (by omega)⟩
          unfold rdData rdDataIn rdParts
          rw [hs]
          rw [show k + (a' + (partsS sq d ((a', n) :: ps) a' (k + a') M).1.length + (d.drop e).length) = k + a' + (partsS sq d ((a', n) :: ps) a' (k + a') M).1.length + b by omega]
          rw [show a' + ((partsS sq d ((a', n) :: ps) a' (k + a') M).1.length + (d.drop e).length) = a' + (partsS sq d ((a', n) :: ps) a' (k + a') M).1.length + (d.drop e).length by omega] at hlk2
          rw [hlk2]
          simp only [hb1]
          rw [← hlen, n1]
          simp only [hb2]
          have e5 : d.take a' ++ (d.drop a').take (e - a') ++ d.drop e = d := by
            rw [List.append_assoc]
            have : d.drop e = (d.drop a').drop (e - a') := by rw [List.drop_drop]; congr 1; omega
            rw [this, List.take_append_drop, List.take_append_drop]
          rw [e5]
          rw [show k + a' + (partsS sq d ((a', n) :: ps) a' (k + a') M).1.length + b = k + (a' + (partsS sq d ((a', n) :: ps) a' (k + a') M).1.length + (d.drop e).length) by omega]
          simp
theorem checkB_parts {r : Rc.RR} (h : checkB r = true) : Nm.valid r.name = true ∧ (1 ≤ r.ty ∧ r.ty ≤ 65535) ∧ r.ty ≠ 41 ∧ (0 ≤ r.cl ∧ r.cl ≤ 65535) ∧ (0 ≤ r.ttl ∧ r.ttl ≤ 2147483647) ∧ Rc.dataB r.ty r.data = true := by
  unfold checkB at h
  simp only [Bool.and_eq_true, decide_eq_true_eq, bne_iff_ne] at h
  obtain ⟨⟨⟨⟨⟨h1, h2⟩, h3⟩, h4⟩, h5⟩, h6⟩ := h
  exact ⟨h1, h2, h3, h4, h5, h6⟩
/-- what a record without checks is read as: name, numbers and data -/
theorem rec_get {F : List UInt8} {r : Rc.RR} {k : Nat} {M : Met} (hv : Nm.valid r.name = true) (ht : 0 ≤ r.ty ∧ r.ty ≤ 65535) (hc : 0 ≤ r.cl ∧ r.cl ≤ 65535) (hl : 0 ≤ r.ttl ∧ r.ttl ≤ 2147483647) (hd : Rc.dataB r.ty r.data = true)
    (hF : F.length ≤ 65535) (hh : Has F k (recS r k M).1) (hi : Inv F k M) :
    rdRec F k false = (r, k + (recS r k M).1.length, false) ∧ Inv F (k + (recS r k M).1.length) (recS r k M).2 := by
  obtain ⟨v1, v2, v3⟩ := Nm.labs_valid hv
  unfold recS at hh ⊢
  simp only at hh ⊢
  generalize hA : nameS true (Nm.labs r.name) k M = A at *
  obtain ⟨h1, h2⟩ := Has.append.1 hh
  obtain ⟨h3, h4⟩ := Has.append.1 h1
  obtain ⟨h5, h6⟩ := Has.append.1 h3
  obtain ⟨h7, h8⟩ := Has.append.1 h5
  obtain ⟨h9, h10⟩ := Has.append.1 h7
  rw [← hA] at h9
  obtain ⟨a1, a2⟩ := nameS_get v2 hi h9
  rw [hA] at a1 a2
  have e1 := rdName_at a1 (by rw [← v1]; exact v3)
  rw [← v1] at e1
  have e2 := rdTwo_two h10 ht.1 ht.2
  simp only [List.length_append, two2_len, four_len] at h8 h6 h4 h2 hh ⊢
  rw [show k + (A.1.length + 2) = k + A.1.length + 2 by omega] at h8
  have e3 := rdTwo_two h8 hc.1 hc.2
  rw [show k + (A.1.length + 2 + 2) = k + A.1.length + 2 + 2 by omega] at h6
  obtain ⟨e4, e5⟩ := rdTwo_four h6 hl.1 (by omega)
  rw [show k + (A.1.length + 2 + 2 + 4) = k + A.1.length + 2 + 2 + 2 + 2 by omega] at h4
  rw [show k + (A.1.length + 2 + 2 + 4 + 2) = k + A.1.length + 2 + 2 + 2 + 2 + 2 by omega] at h2
  rw [show k + (A.1.length + 2 + 2 + 4) + 2 = k + A.1.length + 2 + 2 + 2 + 2 + 2 by omega] at h2 ⊢
  have hlen := h2.le
  have e6 := rdTwo_two h4 (by omega) (by rw [← List.length_append]; omega)
  obtain ⟨d1, d2⟩ := data_get (M := A.2) hd h2 (a2.mono (by omega))
  rw [List.length_append] at d1 d2
  have et : (r.ttl / 65536 * 65536 + r.ttl % 65536) = r.ttl := by omega
  refine ⟨?_, d2.mono (by omega)⟩
  unfold rdRec
  simp only [e1, e2, e3, e4, e5, e6, Int.toNat_natCast, d1, et]
  rw [if_neg (by omega)]
  congr 2
  omega
/-! ### lists of records, and questions -/
def secS : List Rc.RR → Nat → Met → List UInt8 × Met
  | [], _, M => ([], M)
  | r :: rs, k, M => ((recS r k M).1 ++ (secS rs (k + (recS r k M).1.length) (recS r k M).2).1, (secS rs (k + (recS r k M).1.length) (recS r k M).2).2)
theorem foldP_S : ∀ (l : List Rc.RR) (st : WSt), l.foldl (fun st r => putN r st) st = (st.1 ++ (secS l st.1.length st.2).1, (secS l st.1.length st.2).2)
  | [], st => by simp [secS]
  | r :: rs, st => by
    rw [List.foldl_cons, putN_S, foldP_S rs]
    simp only [secS, List.length_append, List.append_assoc]
theorem secS_append : ∀ (a b : List Rc.RR) (k : Nat) (M : Met), secS (a ++ b) k M = ((secS a k M).1 ++ (secS b (k + (secS a k M).1.length) (secS a k M).2).1, (secS b (k + (secS a k M).1.length) (secS a k M).2).2)
  | [], b, k, M => by simp [secS]
  | r :: rs, b, k, M => by
    rw [List.cons_append, secS, secS_append rs b]
    simp only [secS, List.length_append, List.append_assoc, Nat.add_assoc]
/-- a section read as it was written -/
theorem sec_get {F : List UInt8} (hF : F.length ≤ 65535) : ∀ (rs : List Rc.RR) (j : Nat) (l o : List Rc.RR) (k : Nat) (M : Met), (∀ r ∈ rs, checkB r = true) → l.length + rs.length ≤ 64 → Has F k (secS rs k M).1 → Inv F k M →
    rdSec F (rs.length + j) l o k false = rdSec F j (l ++ rs) o (k + (secS rs k M).1.length) false ∧ Inv F (k + (secS rs k M).1.length) (secS rs k M).2
  | [], j, l, o, k, M, hc, hl, hh, hi => by simpa [secS] using hi
  | r :: rs, j, l, o, k, M, hc, hl, hh, hi => by
    have hcr := hc r (List.mem_cons_self ..)
    obtain ⟨c1, c2, c3, c4, c5, c6⟩ := checkB_parts hcr
    rw [secS] at hh ⊢
    simp only at hh ⊢
    obtain ⟨h1, h2⟩ := Has.append.1 hh
    obtain ⟨r1, r2⟩ := rec_get c1 ⟨by omega, c2.2⟩ c4 c5 c6 hF h1 hi
    simp only [List.length_cons] at hl
    obtain ⟨s1, s2⟩ := sec_get hF rs j (l ++ [r]) o _ _ (fun x hx => hc x (List.mem_cons_of_mem _ hx)) (by simp; omega) h2 r2
    rw [List.length_append, ← Nat.add_assoc]
    refine ⟨?_, s2⟩
    rw [List.length_cons, show rs.length + 1 + j = rs.length + j + 1 by omega, rdSec, r1]
    simp only [Bool.false_eq_true, if_false]
    rw [if_neg c3, hcr, decide_eq_false (show ¬ 64 < l.length + 1 by omega)]
    rw [show (!true || false) = false from rfl, s1, List.append_assoc]
    rfl
def qS (q : Qn) (k : Nat) (M : Met) : List UInt8 × Met := ((nameS true (Nm.labs q.name) k M).1 ++ two2 q.ty ++ two2 q.cl, (nameS true (Nm.labs q.name) k M).2)
theorem qW_S (q : Qn) (st : WSt) : qW st q = (st.1 ++ (qS q st.1.length st.2).1, (qS q st.1.length st.2).2) := by
  unfold qW qS
  rw [nameW_S]
  simp only [List.append_assoc]
def qsS : List Qn → Nat → Met → List UInt8 × Met
  | [], _, M => ([], M)
  | q :: qs, k, M => ((qS q k M).1 ++ (qsS qs (k + (qS q k M).1.length) (qS q k M).2).1, (qsS qs (k + (qS q k M).1.length) (qS q k M).2).2)
theorem foldQ_S : ∀ (l : List Qn) (st : WSt), l.foldl qW st = (st.1 ++ (qsS l st.1.length st.2).1, (qsS l st.1.length st.2).2)
  | [], st => by simp [qsS]
  | r :: rs, st => by
    rw [List.foldl_cons, qW_S, foldQ_S rs]
    simp only [qsS, List.length_append, List.append_assoc]
theorem qOk_parts {q : Qn} (h : qOk q = true) : Nm.valid q.name = true ∧ (0 ≤ q.ty ∧ q.ty ≤ 65535) ∧ 0 ≤ q.cl ∧ q.cl ≤ 65535 := by
  unfold qOk withinN at h
  simp only [Bool.and_eq_true, decide_eq_true_eq] at h
  obtain ⟨⟨h1, h2⟩, h3⟩ := h
  exact ⟨h1, h2, h3⟩
theorem q_get {F : List UInt8} {q : Qn} {k : Nat} {M : Met} (hq : qOk q = true) (hh : Has F k (qS q k M).1) (hi : Inv F k M) :
    toQn (rdQ F k false).1 = q ∧ (rdQ F k false).2 = (k + (qS q k M).1.length, false) ∧ Inv F (k + (qS q k M).1.length) (qS q k M).2 := by
  obtain ⟨hv, ht, hc⟩ := qOk_parts hq
  obtain ⟨v1, v2, v3⟩ := Nm.labs_valid hv
  unfold qS at hh ⊢
  simp only at hh ⊢
  obtain ⟨h1, h2⟩ := Has.append.1 hh
  obtain ⟨h3, h4⟩ := Has.append.1 h1
  obtain ⟨a1, a2⟩ := nameS_get v2 hi h3
  have e1 := rdName_at a1 (by rw [← v1]; exact v3)
  rw [← v1] at e1
  have e2 := rdTwo_two h4 ht.1 ht.2
  simp only [List.length_append, two2_len] at h2 ⊢
  rw [← Nat.add_assoc] at h2
  have e3 := rdTwo_two h2 hc.1 hc.2
  refine ⟨?_, ?_, a2.mono (by omega)⟩
  · unfold rdQ toQn
    simp only [e1, e2, e3]
  · unfold rdQ
    simp only [e1, e2, e3]
    simp only [Nat.add_assoc]
theorem qs_get {F : List UInt8} : ∀ (qs : List Qn) (l : List Qn) (k : Nat) (M : Met), (∀ q ∈ qs, qOk q = true) → Has F k (qsS qs k M).1 → Inv F k M →
    rdQs F qs.length l k false = (l ++ qs, k + (qsS qs k M).1.length, false) ∧ Inv F (k + (qsS qs k M).1.length) (qsS qs k M).2
  | [], l, k, M, hc, hh, hi => by simpa [qsS, rdQs] using hi
  | q :: qs, l, k, M, hc, hh, hi => by
    rw [qsS] at hh ⊢
    simp only at hh ⊢
    obtain ⟨h1, h2⟩ := Has.append.1 hh
    obtain ⟨r1, r2, r3⟩ := q_get (hc q (List.mem_cons_self ..)) h1 hi
    obtain ⟨s1, s2⟩ := qs_get qs (l ++ [q]) _ _ (fun x hx => hc x (List.mem_cons_of_mem _ hx)) h2 r3
    rw [List.length_append, ← Nat.add_assoc]
    refine ⟨?_, s2⟩
    rw [List.length_cons, rdQs, r1, r2, s1, List.append_assoc]
    rfl

/-! ### the first numbers -/
def bN (b : Bool) : Nat := if b then 1 else 0
theorem bN_le (b : Bool) : bN b ≤ 1 := by cases b <;> decide
/-- a message's second number -/
def flgN (m : Msg) : Nat := bN m.resp * 32768 + m.op.toNat * 2048 + bN m.auth * 1024 + bN m.cut * 512 + bN m.des * 256 + bN m.avail * 128 + m.code.toNat
def hdM (m : Msg) : Msg := ⟨m.id, m.resp, m.op, m.auth, m.cut, m.des, m.avail, m.code, [], [], [], [], false, 0⟩
theorem bit_of {x : Nat} {b : Bool} (hx : x < 9223372036854775808) (h : x % 2 = bN b) : (bits .and .i64 (x : Int) 1 == 1) = b := by
  have e : bits .and .i64 (x : Int) 1 = ((x &&& 1 : Nat) : Int) := bits_and x 1 hx (by decide)
  rw [e, Nat.and_one_is_mod, h]
  cases b <;> rfl
theorem and15 {x : Nat} (hx : x < 9223372036854775808) : bits .and .i64 (x : Int) 15 = ((x % 16 : Nat) : Int) := by
  have e : bits .and .i64 (x : Int) 15 = ((x &&& 15 : Nat) : Int) := bits_and x 15 hx (by decide)
  rw [e, show (15 : Nat) = 2 ^ 4 - 1 from rfl, Nat.and_two_pow_sub_one_eq_mod]
theorem flg_facts (m : Msg) (ho : 0 ≤ m.op ∧ m.op ≤ 15) (hc : 0 ≤ m.code ∧ m.code ≤ 15) : flgN m < 65536 ∧ headM m.id (flgN m : Int) = hdM m ∧ flgN m / 16 % 8 = 0 := by
  have b1 := bN_le m.resp
  have b2 := bN_le m.auth
  have b3 := bN_le m.cut
  have b4 := bN_le m.des
  have b5 := bN_le m.avail
  obtain ⟨o, ho2⟩ : ∃ o : Nat, m.op = (o : Int) := ⟨m.op.toNat, by omega⟩
  obtain ⟨c, hc2⟩ : ∃ c : Nat, m.code = (c : Int) := ⟨m.code.toNat, by omega⟩
  have hf : flgN m = bN m.resp * 32768 + o * 2048 + bN m.auth * 1024 + bN m.cut * 512 + bN m.des * 256 + bN m.avail * 128 + c := by unfold flgN; rw [ho2, hc2]; rfl
  generalize flgN m = f at *
  have hlt : f < 65536 := by omega
  refine ⟨hlt, ?_, by omega⟩
  unfold headM hdM
  have d1 : ((f : Int) / 32768 == 1) = m.resp := by
    have : (f : Int) / 32768 = (bN m.resp : Int) := by omega
    rw [this]
    cases m.resp <;> rfl
  have e1 : ∀ n : Nat, (f : Int) / (n : Int) = ((f / n : Nat) : Int) := fun n => by exact_mod_cast rfl
  have d2 : bits .and .i64 ((f : Int) / 2048) 15 = m.op := by
    have := and15 (x := f / 2048) (by omega)
    rw [show (f : Int) / 2048 = ((f / 2048 : Nat) : Int) from e1 2048, this]
    omega
  have d3 : (bits .and .i64 ((f : Int) / 1024) 1 == 1) = m.auth := by
    rw [show (f : Int) / 1024 = ((f / 1024 : Nat) : Int) from e1 1024]
    exact bit_of (by omega) (by omega)
  have d4 : (bits .and .i64 ((f : Int) / 512) 1 == 1) = m.cut := by
    rw [show (f : Int) / 512 = ((f / 512 : Nat) : Int) from e1 512]
    exact bit_of (by omega) (by omega)
  have d5 : (bits .and .i64 ((f : Int) / 256) 1 == 1) = m.des := by
    rw [show (f : Int) / 256 = ((f / 256 : Nat) : Int) from e1 256]
    exact bit_of (by omega) (by omega)
  have d6 : (bits .and .i64 ((f : Int) / 128) 1 == 1) = m.avail := by
    rw [show (f : Int) / 128 = ((f / 128 : Nat) : Int) from e1 128]
    exact bit_of (by omega) (by omega)
  have d7 : bits .and .i64 (f : Int) 15 = m.code := by
    rw [and15 (by omega)]
    omega
  rw [d1, d2, d3, d4, d5, d6, d7]
theorem flags_flg (m : Msg) (ho : 0 ≤ m.op ∧ m.op ≤ 15) (hc : 0 ≤ m.code ∧ m.code ≤ 15) : flagsN m = (flgN m : Int) := by
  obtain ⟨h1, h2, h3⟩ := flg_facts m ho hc
  have h4 := flags_head m.id (flgN m) h1
  rw [h2, h3] at h4
  simp only [Nat.zero_mul, Nat.sub_zero] at h4
  exact h4
/-! ### a whole message -/
theorem checkM_parts {m : Msg} (h : checkM m = true) : ((0 ≤ m.id ∧ m.id ≤ 65535) ∧ (0 ≤ m.op ∧ m.op ≤ 15) ∧ (0 ≤ m.code ∧ m.code ≤ 15) ∧ (0 ≤ m.size ∧ m.size ≤ 65535) ∧ (m.edns = false → m.size = 0)) ∧ (m.qs.length ≤ 4 ∧ m.an.length ≤ 64 ∧ m.sv.length ≤ 64 ∧ m.ad.length ≤ 64) ∧ (∀ q ∈ m.qs, qOk q = true) ∧ (∀ x ∈ allR m, checkB x.2 = true) := by
  unfold checkM headOk cntOk withinN at h
  simp only [Bool.and_eq_true, decide_eq_true_eq, Bool.or_eq_true, beq_iff_eq, List.all_eq_true] at h
  obtain ⟨⟨⟨⟨⟨⟨⟨h1, h2⟩, h3⟩, h4⟩, h5⟩, h6, h7⟩, h8⟩, h9⟩ := h
  refine ⟨⟨h1, h2, h3, h4, fun he => ?_⟩, ⟨h6, by omega, by omega, by omega⟩, h8, h9⟩
  rcases h5 with h5 | h5
  · rw [he] at h5; cases h5
  · exact h5
theorem mem_allR {m : Msg} {r : Rc.RR} : (∃ s, (s, r) ∈ allR m) ↔ r ∈ m.an ∨ r ∈ m.sv ∨ r ∈ m.ad := by
  unfold allR baseS baseS baseS baseS
  simp only [List.nil_append, List.mem_append, List.mem_map, secL]
  constructor
  · rintro ⟨s, (⟨x, hx, he⟩ | ⟨x, hx, he⟩) | ⟨x, hx, he⟩⟩
    · cases he; exact .inl hx
    · cases he; exact .inr (.inl hx)
    · cases he; exact .inr (.inr hx)
  · rintro (h | h | h)
    · exact ⟨0, .inl (.inl ⟨r, h, rfl⟩)⟩
    · exact ⟨1, .inl (.inr ⟨r, h, rfl⟩)⟩
    · exact ⟨2, .inr ⟨r, h, rfl⟩⟩
theorem allR_fold (m : Msg) (st : WSt) : (allR m).foldl (fun st x => putN x.2 st) st = (m.an ++ m.sv ++ m.ad).foldl (fun st r => putN r st) st := by
  have e : ∀ (l : List Rc.RR) (s : Nat) (st : WSt), (l.map fun r => (s, r)).foldl (fun st x => putN x.2 st) st = l.foldl (fun st r => putN r st) st := fun l s st => by rw [List.foldl_map]
  unfold allR baseS baseS baseS baseS
  simp only [List.nil_append, List.foldl_append, e, secL]
/-- a record of EDNS -/
def optR (z : Int) : Rc.RR := ⟨[0], 41, z, 0, []⟩
def optB (m : Msg) : List UInt8 := if m.edns then [0] ++ two2 41 ++ two2 m.size ++ four 0 ++ two2 0 else []
theorem endW_S (m : Msg) (b : List UInt8) : endW m b = b ++ optB m := by
  unfold endW optB
  cases m.edns <;> simp
theorem labs_root : Nm.labs [0] = [] := by decide +kernel
theorem valid_root0 : Nm.valid [0] = true := by decide +kernel
theorem opt_rec (z : Int) (k : Nat) (M : Met) : recS (optR z) k M = ([0] ++ two2 41 ++ two2 z ++ four 0 ++ two2 0, M) := by
  have h1 : Rc.partsN 41 [] = some [] := by decide +kernel
  unfold recS optR
  simp only [labs_root, nameS, h1, Option.getD_some, partsS, List.drop_nil, List.append_nil]
  rfl
theorem rdSec_opt {F : List UInt8} {z : Int} {k : Nat} {M : Met} (hz : 0 ≤ z ∧ z ≤ 65535) (hF : F.length ≤ 65535) (l : List Rc.RR) (hh : Has F k ([0] ++ two2 41 ++ two2 z ++ four 0 ++ two2 0)) (hi : Inv F k M) :
    rdSec F 1 l [] k false = (l, [optR z], k + 11, false) := by
  have h1 : Has F k (recS (optR z) k M).1 := by rw [opt_rec]; exact hh
  obtain ⟨r1, _⟩ := rec_get (r := optR z) (k := k) (M := M) valid_root0 ⟨by show (0 : Int) ≤ 41; decide, by show (41 : Int) ≤ _; decide⟩ hz ⟨by show (0 : Int) ≤ 0; decide, by show (0 : Int) ≤ _; decide⟩ (by show Rc.dataB 41 [] = true; decide +kernel) hF h1 hi
  rw [opt_rec] at r1
  rw [rdSec, r1]
  simp only [Bool.false_eq_true, if_false]
  rw [if_pos (show (optR z).ty = 41 from rfl)]
  rfl
/-- the bytes of a message that may be -/
def bytesM (m : Msg) : List UInt8 :=
  let q := qsS m.qs 12 []
  let s := secS (m.an ++ m.sv ++ m.ad) (12 + q.1.length) q.2
  hdrB m ++ q.1 ++ s.1 ++ optB m
theorem endW_bytes (m : Msg) : endW m (bodyW m).1 = bytesM m := by
  unfold bytesM bodyW
  rw [endW_S, allR_fold, foldQ_S, foldP_S]
  simp only [List.length_append, hdrB_len]
theorem encN_ok {m : Msg} {b : List UInt8} (h : encN m = (b, 0)) : checkM m = true ∧ b = bytesM m ∧ b.length ≤ 4096 := by
  unfold encN outN at h
  cases hc : checkM m with
  | false => rw [hc] at h; simp at h
  | true =>
    rw [hc, if_pos rfl, endW_bytes] at h
    split at h
    · simp at h
    · rename_i hl
      simp only [Prod.mk.injEq, and_true] at h
      subst h
      simp only [Bool.false_or, decide_eq_true_eq] at hl
      exact ⟨rfl, rfl, by omega⟩
theorem n2_has {F : List UInt8} {k : Nat} {n : Int} (h : Has F k (two2 n)) (h0 : 0 ≤ n) (h1 : n ≤ 65535) : (n2 F k : Int) = n := by
  have e1 := byte_at h
  have e2 := byte_at (Has.cons.1 h).2
  have a1 := byteOf_nat n 256
  have a2 := byteOf_nat n 1
  unfold n2
  rw [e1, e2]
  omega
theorem flag_bit (b : Bool) : flagN b 0 = (bN b : Int) := by cases b <;> rfl
/-- what was written is read as it was -/
theorem dec_enc {m : Msg} {b : List UInt8} (h : encN m = (b, 0)) : decN b = (m, true, 0) := by
  obtain ⟨hc, hb, hl⟩ := encN_ok h
  clear h
  obtain ⟨⟨hid, hop, hco, hsz, hed⟩, ⟨l1, l2, l3, l4⟩, hq, hr⟩ := checkM_parts hc
  have hcr : ∀ r, r ∈ m.an ∨ r ∈ m.sv ∨ r ∈ m.ad → checkB r = true := fun r hx => by
    obtain ⟨s, hs⟩ := mem_allR.2 hx
    exact hr _ hs
  have hfull : Has b 0 b := ⟨by simp, by simp⟩
  have hh := hfull
  rw [show Has b 0 b = Has b 0 (bytesM m) by rw [← hb]] at hh
  unfold bytesM at hh
  simp only [secS_append] at hh
  generalize hQ : qsS m.qs 12 [] = Q at *
  generalize hA : secS m.an (12 + Q.1.length) Q.2 = A at *
  simp only [List.length_append] at hh
  generalize hS : secS m.sv (12 + Q.1.length + A.1.length) A.2 = S at *
  generalize hD : secS m.ad (12 + Q.1.length + (A.1.length + S.1.length)) S.2 = D at *
  obtain ⟨h1, h2⟩ := Has.append.1 hh
  obtain ⟨h3, h4⟩ := Has.append.1 h1
  obtain ⟨h5, h6⟩ := Has.append.1 h3
  obtain ⟨h7, h8⟩ := Has.append.1 h4
  obtain ⟨h9, h10⟩ := Has.append.1 h7
  simp only [List.length_append, hdrB_len, Nat.zero_add] at h2 h4 h6 h8 h9 h10
  have hlen : b.length = 12 + Q.1.length + A.1.length + S.1.length + D.1.length + (optB m).length := by
    have e : b.length = (bytesM m).length := by rw [← hb]
    rw [e]
    unfold bytesM
    simp only [secS_append, hQ, hA, hS, List.length_append, hdrB_len]
    rw [hD]
    omega
  -- the first numbers
  have hf := flags_flg m hop hco
  obtain ⟨f1, f2, f3⟩ := flg_facts m hop hco
  have hH : Has b 0 (two2 m.id ++ (two2 (flagsN m) ++ (two2 (m.qs.length : Int) ++ (two2 (m.an.length : Int) ++ (two2 (m.sv.length : Int) ++ (two2 ((m.ad.length : Int) + flagN m.edns 0) ++ [])))))) := h5
  obtain ⟨g0, hH⟩ := Has.append.1 hH
  obtain ⟨g1, hH⟩ := Has.append.1 hH
  obtain ⟨g2, hH⟩ := Has.append.1 hH
  obtain ⟨g3, hH⟩ := Has.append.1 hH
  obtain ⟨g4, hH⟩ := Has.append.1 hH
  obtain ⟨g5, _⟩ := Has.append.1 hH
  simp only [two2_len, Nat.zero_add, Nat.reduceAdd] at g0 g1 g2 g3 g4 g5
  have bE := bN_le m.edns
  have e0 := n2_has g0 hid.1 hid.2
  have e2 := n2_has g1 (by rw [hf]; omega) (by rw [hf]; omega)
  have e4 := n2_has g2 (by omega) (by omega)
  have e6 := n2_has g3 (by omega) (by omega)
  have e8 := n2_has g4 (by omega) (by omega)
  have e10 := n2_has g5 (by rw [flag_bit]; omega) (by rw [flag_bit]; omega)
  rw [hf] at e2
  rw [flag_bit] at e10
  have e2n : n2 b 2 = flgN m := by exact_mod_cast e2
  have e4n : n2 b 4 = m.qs.length := by exact_mod_cast e4
  have e6n : n2 b 6 = m.an.length := by exact_mod_cast e6
  have e8n : n2 b 8 = m.sv.length := by exact_mod_cast e8
  have e10n : n2 b 10 = m.ad.length + bN m.edns := by exact_mod_cast e10
  have hm112 : (bits .and .i64 ((flgN m : Nat) : Int) 112 != 0) = false := by
    have := (chk_facts (flgN m) f1).2.1
    have e : bits .and .i64 ((flgN m : Nat) : Int) 112 = ((flgN m &&& 112 : Nat) : Int) := bits_and _ 112 (by omega) (by decide)
    rw [e, this, f3]
    rfl
  -- what stands behind
  have hF : b.length ≤ 65535 := by omega
  rw [← hQ] at h6
  obtain ⟨q1, q2⟩ := qs_get m.qs [] 12 [] hq h6 (Inv.nil _ _)
  rw [hQ] at q1 q2
  rw [← hA] at h9
  obtain ⟨s1, s2⟩ := sec_get hF m.an 0 [] [] (12 + Q.1.length) Q.2 (fun r hx => hcr r (.inl hx)) (by simpa using l2) h9 q2
  rw [hA] at s1 s2
  rw [← Nat.add_assoc] at h8
  rw [← hS] at h10
  obtain ⟨t1, t2⟩ := sec_get hF m.sv 0 [] [] (12 + Q.1.length + A.1.length) A.2 (fun r hx => hcr r (.inr (.inl hx))) (by simpa using l3) h10 s2
  rw [hS] at t1 t2
  rw [← Nat.add_assoc] at hD
  rw [← hD] at h8
  obtain ⟨u1, u2⟩ := sec_get hF m.ad (bN m.edns) [] [] (12 + Q.1.length + A.1.length + S.1.length) S.2 (fun r hx => hcr r (.inr (.inr hx))) (by simpa using l4) h8 t2
  rw [hD] at u1 u2
  simp only [Nat.add_zero, List.nil_append] at s1 t1 u1 q1
  rw [show 12 + Q.1.length + (A.1.length + S.1.length + D.1.length) = 12 + Q.1.length + A.1.length + S.1.length + D.1.length by omega] at h2
  unfold decN dcX
  rw [if_neg (by omega), e0, e2n, e4n, e6n, e8n, e10n, hm112, decide_eq_false (show ¬ 4096 < b.length by omega), f2]
  unfold rdBody
  rw [decide_eq_false (show ¬ 4 < m.qs.length by omega)]
  simp only [Bool.or_self, Bool.false_eq_true, if_false]
  obtain ⟨mid, mre, mop, mau, mcu, mde, mav, mco, mqs, man, msv, mad, med, msi⟩ := m
  simp only at *
  cases med with
  | false =>
    have hz : msi = 0 := hed rfl
    subst hz
    have e : optB ⟨mid, mre, mop, mau, mcu, mde, mav, mco, mqs, man, msv, mad, false, 0⟩ = [] := rfl
    rw [e] at hlen
    simp only [bN, Bool.false_eq_true, if_false, Nat.add_zero] at u1 ⊢
    simp only [bdD, bdS, bdA, bdQ, q1, s1, rdSec, t1, u1]
    have hlen2 : b.length = 12 + Q.1.length + A.1.length + S.1.length + D.1.length := by simpa using hlen
    simp [bdB, optF, hdM, bdM, hlen2]
  | true =>
    have e : optB ⟨mid, mre, mop, mau, mcu, mde, mav, mco, mqs, man, msv, mad, true, msi⟩ = [0] ++ two2 41 ++ two2 msi ++ four 0 ++ two2 0 := rfl
    rw [e] at hlen h2
    have ho := rdSec_opt hsz hF mad h2 u2
    simp only [bN, if_true] at u1 ⊢
    have el : ([0] ++ two2 41 ++ two2 msi ++ four 0 ++ two2 0).length = 11 := rfl
    rw [el] at hlen
    have s0 : ∀ (l o : List Rc.RR) (k : Nat) (b' : Bool), rdSec b 0 l o k b' = (l, o, k, b') := fun _ _ _ _ => rfl
    simp only [bdD, bdS, bdA, bdQ, q1, s1, s0, t1, u1, ho]
    simp [bdB, optF, hdM, bdM, hlen, optR]
end Go.Proofs.Ythfhmbooeemaaaa

/- Message: bytes that were cut off; what is read may be. Lists alone. -/
namespace Go.Proofs.Ythfhmbooeemaaaa
open Go.RowKit
set_option maxRecDepth 100000
set_option linter.unusedVariables false

/-! ### bytes that were cut off -/
theorem take_getD {zs : List UInt8} {K k : Nat} (h : k < K) : (zs.take K).getD k 0 = zs.getD k 0 := by
  simp only [List.getD_eq_getElem?_getD, List.getElem?_take, if_pos h]
theorem take_seg {zs : List UInt8} {K k n : Nat} (h : k + n ≤ K) : ((zs.take K).drop k).take n = (zs.drop k).take n := by
  rw [List.drop_take, List.take_take, Nat.min_eq_left (by omega)]
theorem take_len {zs : List UInt8} {K : Nat} (h : K ≤ zs.length) : (zs.take K).length = K := by rw [List.length_take]; omega
theorem getF_cut {zs : List UInt8} {K : Nat} (hK : K ≤ zs.length) : ∀ (f f' k bg : Nat) (e : Int) (out : List UInt8) (r : List UInt8 × Int), f ≤ f' → getF (zs.take K) f k bg e out = some r → getF zs f' k bg e out = some r
  | 0, _, _, _, _, _, _, _, h => by cases h
  | f + 1, 0, _, _, _, _, _, hf, _ => by omega
  | f + 1, f' + 1, k, bg, e, out, r, hf, h => by
    rw [getF, take_len hK] at h
    rw [getF]
    by_cases hk : k < K
    · rw [if_pos hk, take_getD hk] at h
      rw [if_pos (by omega)]
      by_cases h0 : (zs.getD k 0).toNat = 0
      · rw [if_pos h0] at h ⊢
        exact h
      · rw [if_neg h0] at h ⊢
        by_cases h63 : (zs.getD k 0).toNat ≤ 63
        · rw [if_pos h63] at h ⊢
          by_cases hc : K < k + 1 + (zs.getD k 0).toNat ∨ 255 < out.length
          · rw [if_pos hc] at h; cases h
          · rw [if_neg hc, take_seg (by omega)] at h
            rw [if_neg (by omega)]
            exact getF_cut hK f f' _ _ _ _ _ (by omega) h
        · rw [if_neg h63] at h ⊢
          by_cases hc : (zs.getD k 0).toNat < 192 ∨ K ≤ k + 1
          · rw [if_pos hc] at h; cases h
          · rw [if_neg hc, take_getD (by omega)] at h
            rw [if_neg (by omega)]
            by_cases hb : bg ≤ ((zs.getD k 0).toNat - 192) * 256 + (zs.getD (k + 1) 0).toNat
            · rw [if_pos hb] at h; cases h
            · rw [if_neg hb] at h ⊢
              exact getF_cut hK f f' _ _ _ _ _ (by omega) h
    · rw [if_neg hk] at h; cases h
theorem getN_cut {zs : List UInt8} {K k : Nat} (hK : K ≤ zs.length) (h : (getN (zs.take K) k).2.2 = 0) : getN (zs.take K) k = getN zs k := by
  unfold getN at *
  rw [take_len hK] at *
  cases hg : getF (zs.take K) (k * (K + 1) + (K - k) + 1) k k (-1) [] with
  | none => rw [hg] at h; simp [getR] at h
  | some r =>
    have hm : k * (K + 1) ≤ k * (zs.length + 1) := Nat.mul_le_mul_left _ (by omega)
    rw [getF_cut hK _ (k * (zs.length + 1) + (zs.length - k) + 1) _ _ _ _ _ (by omega) hg]
section
variable {zs : List UInt8} {K : Nat}
theorem name_cut (hK : K ≤ zs.length) {k : Nat} {bad : Bool} (h : (rdName (zs.take K) k bad).2.2 = false) : rdName (zs.take K) k bad = rdName zs k bad ∧ bad = false := by
  unfold rdName at *
  cases bad with
  | true => simp at h
  | false =>
    by_cases hg : (getN (zs.take K) k).2.2 = 0
    · have e := getN_cut hK hg
      rw [← e]
      exact ⟨rfl, rfl⟩
    · simp [hg] at h
theorem lack_cut (hK : K ≤ zs.length) {k : Nat} {bad : Bool} {n : Int} (h : lackB (zs.take K).length k bad n = false) : lackB zs.length k bad n = false ∧ bad = false ∧ 0 ≤ n ∧ (k : Int) + n ≤ K := by
  obtain ⟨h1, h2, h3⟩ := lack_n h
  rw [take_len hK] at h3
  subst h1
  refine ⟨?_, rfl, h2, h3⟩
  unfold lackB
  simp
  omega
theorem two_cut (hK : K ≤ zs.length) {k : Nat} {bad : Bool} (h : (rdTwo (zs.take K) k bad).2.2 = false) : rdTwo (zs.take K) k bad = rdTwo zs k bad ∧ bad = false := by
  unfold rdTwo at *
  cases hl : lackB (zs.take K).length k bad 2 with
  | true => rw [hl] at h; simp at h
  | false =>
    obtain ⟨h1, h2, _, h3⟩ := lack_cut hK hl
    rw [h1, take_getD (by omega), take_getD (by omega)]
    exact ⟨rfl, h2⟩
theorem bytes_cut (hK : K ≤ zs.length) {k : Nat} {bad : Bool} {n : Int} (h : (rdBytes (zs.take K) k bad n).2.2 = false) : rdBytes (zs.take K) k bad n = rdBytes zs k bad n ∧ bad = false := by
  unfold rdBytes at *
  cases hl : lackB (zs.take K).length k bad n with
  | true => rw [hl] at h; simp at h
  | false =>
    obtain ⟨h1, h2, h0, h3⟩ := lack_cut hK hl
    rw [h1, take_seg (by omega)]
    exact ⟨rfl, h2⟩
theorem names_cut (hK : K ≤ zs.length) : ∀ (i : Nat) (out : List UInt8) (k : Nat) (bad : Bool), (rdNames (zs.take K) i out k bad).2.2 = false → rdNames (zs.take K) i out k bad = rdNames zs i out k bad ∧ bad = false
  | 0, _, _, _, h => ⟨rfl, h⟩
  | i + 1, out, k, bad, h => by
    rw [rdNames] at h ⊢
    obtain ⟨h1, h2⟩ := names_cut hK i _ _ _ h
    obtain ⟨h3, h4⟩ := name_cut hK h2
    rw [h1, h3]
    exact ⟨rfl, h4⟩
theorem data_cut (hK : K ≤ zs.length) {t : Int} {n k : Nat} {bad : Bool} (h : (rdData (zs.take K) t n k bad).2.2 = false) : rdData (zs.take K) t n k bad = rdData zs t n k bad ∧ bad = false := by
  unfold rdData at *
  cases hl : lackB (zs.take K).length k bad n with
  | true => rw [hl] at h; simp at h
  | false =>
    obtain ⟨h1, h2, h0, h3⟩ := lack_cut hK hl
    rw [hl] at h
    simp only [Bool.false_eq_true, if_false, Bool.or_eq_false_iff] at h
    have e : rdDataIn (zs.take K) t n k = rdDataIn zs t n k := by
      have h5 := h.1
      unfold rdDataIn at *
      cases hs : Rc.shape t with
      | none =>
        rw [hs] at h5
        simp only at h5 ⊢
        exact (bytes_cut hK h5).1
      | some q =>
        obtain ⟨a, m, b⟩ := q
        rw [hs] at h5
        simp only at h5 ⊢
        unfold rdParts at *
        simp only at h5
        obtain ⟨b1, b2⟩ := bytes_cut hK h5
        obtain ⟨c1, c2⟩ := names_cut hK _ _ _ _ b2
        obtain ⟨d1, d2⟩ := bytes_cut hK c2
        rw [b1, c1, d1]
    rw [h1, e]
    exact ⟨rfl, h2⟩
theorem rec_cut (hK : K ≤ zs.length) {k : Nat} {bad : Bool} (h : (rdRec (zs.take K) k bad).2.2 = false) : rdRec (zs.take K) k bad = rdRec zs k bad ∧ bad = false := by
  unfold rdRec at *
  simp only at h ⊢
  obtain ⟨g1, g2⟩ := data_cut hK h
  obtain ⟨f1, f2⟩ := two_cut hK g2
  obtain ⟨e1, e2⟩ := two_cut hK f2
  obtain ⟨d1, d2⟩ := two_cut hK e2
  obtain ⟨c1, c2⟩ := two_cut hK d2
  obtain ⟨b1, b2⟩ := two_cut hK c2
  obtain ⟨a1, a2⟩ := name_cut hK b2
  rw [g1, f1, e1, d1, c1, b1, a1]
  exact ⟨rfl, a2⟩
theorem sec_cut (hK : K ≤ zs.length) : ∀ (i : Nat) (l o : List Rc.RR) (k : Nat) (bad : Bool), (rdSec (zs.take K) i l o k bad).2.2.2 = false → rdSec (zs.take K) i l o k bad = rdSec zs i l o k bad ∧ bad = false
  | 0, _, _, _, _, h => ⟨rfl, h⟩
  | i + 1, l, o, k, bad, h => by
    rw [rdSec] at h ⊢
    rw [rdSec]
    cases hb : (rdRec (zs.take K) k bad).2.2 with
    | true => rw [hb] at h; simp at h
    | false =>
      obtain ⟨r1, r2⟩ := rec_cut hK hb
      rw [r1] at h hb ⊢
      rw [hb] at h ⊢
      simp only [Bool.false_eq_true, if_false] at h ⊢
      split at h
      · rename_i ht
        rw [if_pos ht, if_pos ht]
        exact ⟨(sec_cut hK i _ _ _ _ h).1, r2⟩
      · rename_i ht
        rw [if_neg ht, if_neg ht]
        exact ⟨(sec_cut hK i _ _ _ _ h).1, r2⟩
theorem q_cut (hK : K ≤ zs.length) {k : Nat} {bad : Bool} (h : (rdQ (zs.take K) k bad).2.2 = false) : rdQ (zs.take K) k bad = rdQ zs k bad ∧ bad = false := by
  unfold rdQ at *
  simp only at h ⊢
  obtain ⟨c1, c2⟩ := two_cut hK h
  obtain ⟨b1, b2⟩ := two_cut hK c2
  obtain ⟨a1, a2⟩ := name_cut hK b2
  rw [c1, b1, a1]
  exact ⟨rfl, a2⟩
theorem qs_cut (hK : K ≤ zs.length) : ∀ (i : Nat) (l : List Qn) (k : Nat) (bad : Bool), (rdQs (zs.take K) i l k bad).2.2 = false → rdQs (zs.take K) i l k bad = rdQs zs i l k bad ∧ bad = false
  | 0, _, _, _, h => ⟨rfl, h⟩
  | i + 1, l, k, bad, h => by
    rw [rdQs] at h ⊢
    obtain ⟨h1, h2⟩ := qs_cut hK i _ _ _ h
    obtain ⟨h3, h4⟩ := q_cut hK h2
    rw [h1, h3]
    exact ⟨rfl, h4⟩
end
theorem optF_bad (o : List Rc.RR) (b : Bool) (h : (optF o b).2.2 = false) : b = false := by
  refine snoc_rec (P := fun o => (optF o b).2.2 = false → b = false) (fun h => h) (fun l x ih h => ih ?_) o h
  rw [optF_snoc] at h
  simp only [Bool.or_eq_false_iff] at h
  exact h.1
/-- what a message read without fault was -/
theorem dec_ok {zs : List UInt8} {m : Msg} {hd : Bool} (h : decN zs = (m, hd, 0)) : hd = true ∧ 12 ≤ zs.length ∧ zs.length ≤ 4096 ∧ n2 zs 4 ≤ 4 ∧ (dcX zs).2.2 = false ∧ m = (dcX zs).1 ∧
    bdB zs.length (bdA zs (n2 zs 4) (n2 zs 6) 12) (bdS zs (n2 zs 4) (n2 zs 6) (n2 zs 8) 12) (bdD zs (n2 zs 4) (n2 zs 6) (n2 zs 8) (n2 zs 10) 12) = false := by
  unfold decN at h
  split at h
  · simp at h
  · rename_i hl
    split at h
    · simp at h
    · rename_i hb
      simp only [Prod.mk.injEq] at h
      have hb2 : (dcX zs).2.2 = false := by simpa using hb
      have hb3 := hb2
      unfold dcX rdBody at hb3
      split at hb3
      · simp at hb3
      · rename_i hc
        simp only [Bool.or_eq_true, decide_eq_true_eq, not_or] at hc
        simp only at hb3
        exact ⟨h.2.1.symm, by omega, by omega, by omega, hb2, h.1.symm, optF_bad _ _ hb3⟩
theorem bdB_parts {len : Nat} {A S D : List Rc.RR × List Rc.RR × Nat × Bool} (h : bdB len A S D = false) : D.2.2.2 = false ∧ A.2.1.length = 0 ∧ S.2.1.length = 0 ∧ D.2.1.length ≤ 1 ∧ D.2.2.1 = len := by
  unfold bdB at h
  simp only [Bool.or_eq_false_iff, decide_eq_false_iff_not, Bool.not_eq_false', decide_eq_true_eq] at h
  obtain ⟨⟨⟨h1, h2⟩, h3⟩, h4⟩ := h
  exact ⟨h1, by omega, by omega, by omega, h4⟩
/-- cut off, a message is none, but its head -/
theorem dec_cut {zs : List UInt8} {m : Msg} {hd : Bool} (h : decN zs = (m, hd, 0)) {K : Nat} (hK : K < zs.length) : (decN (zs.take K)).2 = (decide (12 ≤ K), 2) := by
  obtain ⟨_, h12, h4096, h4, hx, _, hbd⟩ := dec_ok h
  by_cases hk : K < 12
  · unfold decN
    rw [take_len (by omega), if_pos hk, decide_eq_false (by omega)]
  · have hn : ∀ j, j + 1 < 12 → n2 (zs.take K) j = n2 zs j := fun j hj => by
      unfold n2
      rw [take_getD (by omega), take_getD (by omega)]
    have hl := take_len (zs := zs) (K := K) (by omega)
    rw [decide_eq_true (by omega)]
    cases hr : decN (zs.take K) with
    | mk m' p =>
      obtain ⟨hd', e'⟩ := p
      by_cases he : e' = 0
      · subst he
        exfalso
        obtain ⟨_, _, _, _, _, _, hbd2⟩ := dec_ok hr
        rw [hn 4 (by omega), hn 6 (by omega), hn 8 (by omega), hn 10 (by omega), hl] at hbd2
        obtain ⟨a1, _, _, _, a5⟩ := bdB_parts hbd2
        obtain ⟨b1, _, _, _, b5⟩ := bdB_parts hbd
        obtain ⟨s1, s2⟩ := sec_cut (by omega) _ _ _ _ _ a1
        obtain ⟨t1, t2⟩ := sec_cut (by omega) _ _ _ _ _ s2
        obtain ⟨u1, u2⟩ := sec_cut (by omega) _ _ _ _ _ t2
        obtain ⟨q1, _⟩ := qs_cut (by omega) _ _ _ _ u2
        have eQ : bdQ (zs.take K) (n2 zs 4) 12 = bdQ zs (n2 zs 4) 12 := q1
        have eA : bdA (zs.take K) (n2 zs 4) (n2 zs 6) 12 = bdA zs (n2 zs 4) (n2 zs 6) 12 := u1.trans (by rw [eQ])
        have eS : bdS (zs.take K) (n2 zs 4) (n2 zs 6) (n2 zs 8) 12 = bdS zs (n2 zs 4) (n2 zs 6) (n2 zs 8) 12 := t1.trans (by rw [eA])
        have eD : bdD (zs.take K) (n2 zs 4) (n2 zs 6) (n2 zs 8) (n2 zs 10) 12 = bdD zs (n2 zs 4) (n2 zs 6) (n2 zs 8) (n2 zs 10) 12 := s1.trans (by rw [eS])
        rw [eD] at a5
        omega
      · have := hr
        unfold decN at this
        rw [hl, if_neg hk] at this
        split at this
        · simp only [Prod.mk.injEq] at this
          rw [← this.2.1, ← this.2.2]
        · simp only [Prod.mk.injEq] at this
          exact absurd this.2.2.symm he
/-! ### what is read may be -/
theorem good_snoc {ls : List (List UInt8)} {l : List UInt8} (h : Nm.GoodL ls) (h1 : 1 ≤ l.length) (h2 : l.length ≤ 63) : Nm.GoodL (ls ++ [l]) := Nm.good_append.2 ⟨h, Nm.good_cons.2 ⟨⟨h1, h2⟩, Nm.good_nil⟩⟩
theorem getF_valid (zs : List UInt8) : ∀ (f k bg : Nat) (e : Int) (ls : List (List UInt8)) (n : List UInt8) (e2 : Int), Nm.GoodL ls → getF zs f k bg e (Nm.pre ls) = some (n, e2) → Nm.valid n = true
  | 0, _, _, _, _, _, _, _, h => by cases h
  | f + 1, k, bg, e, ls, n, e2, hg, h => by
    rw [getF] at h
    by_cases hk : k < zs.length
    · rw [if_pos hk] at h
      by_cases h0 : (zs.getD k 0).toNat = 0
      · rw [if_pos h0] at h
        by_cases hl : 255 < (Nm.pre ls).length + 1
        · rw [if_pos hl] at h; cases h
        · rw [if_neg hl] at h
          simp only [Option.some.injEq, Prod.mk.injEq] at h
          rw [← h.1]
          exact Nm.valid_wire (ls := ls) hg (by simp [Nm.wire]; omega)
      · rw [if_neg h0] at h
        by_cases h63 : (zs.getD k 0).toNat ≤ 63
        · rw [if_pos h63] at h
          by_cases hc : zs.length < k + 1 + (zs.getD k 0).toNat ∨ 255 < (Nm.pre ls).length
          · rw [if_pos hc] at h; cases h
          · rw [if_neg hc] at h
            have hl : ((zs.drop (k + 1)).take (zs.getD k 0).toNat).length = (zs.getD k 0).toNat := by rw [List.length_take, List.length_drop]; omega
            have e1 : (zs.drop k).take (1 + (zs.getD k 0).toNat) = zs.getD k 0 :: (zs.drop (k + 1)).take (zs.getD k 0).toNat := by
              rw [List.take_add, List.drop_drop, List.take_one, List.head?_drop, List.getElem?_eq_getElem hk, List.getD_eq_getElem?_getD, List.getElem?_eq_getElem hk]
              rfl
            have e2 : UInt8.ofNat ((zs.drop (k + 1)).take (zs.getD k 0).toNat).length = zs.getD k 0 := by rw [hl]; simp
            have e3 : Nm.pre ls ++ (zs.drop k).take (1 + (zs.getD k 0).toNat) = Nm.pre (ls ++ [(zs.drop (k + 1)).take (zs.getD k 0).toNat]) := by
              rw [Nm.pre_append, e1]
              simp only [Nm.pre, e2, List.append_nil]
            rw [e3] at h
            exact getF_valid zs f _ _ _ _ _ _ (good_snoc hg (by omega) (by omega)) h
        · rw [if_neg h63] at h
          split at h
          · cases h
          · split at h
            · cases h
            · exact getF_valid zs f _ _ _ _ _ _ hg h
    · rw [if_neg hk] at h; cases h
theorem rdName_ok {zs : List UInt8} {k : Nat} {bad : Bool} (h : (rdName zs k bad).2.2 = false) : Nm.valid (rdName zs k bad).1 = true ∧ bad = false := by
  unfold rdName at *
  cases bad with
  | true => simp at h
  | false =>
    by_cases hg : (getN zs k).2.2 = 0
    · simp only [hg, Bool.false_eq_true, if_false, if_true]
      refine ⟨?_, trivial⟩
      unfold getN at *
      cases hr : getF zs (k * (zs.length + 1) + (zs.length - k) + 1) k k (-1) [] with
      | none => rw [hr] at hg; simp [getR] at hg
      | some p => exact getF_valid zs _ _ _ _ [] _ _ Nm.good_nil hr
    · simp [hg] at h
theorem rdTwo_ok {zs : List UInt8} {k : Nat} {bad : Bool} (h : (rdTwo zs k bad).2.2 = false) : bad = false ∧ 0 ≤ (rdTwo zs k bad).1 ∧ (rdTwo zs k bad).1 ≤ 65535 := by
  obtain ⟨n, h1, h2⟩ := rdTwo_nat zs k bad
  refine ⟨?_, by omega, by omega⟩
  unfold rdTwo at h
  cases hl : lackB zs.length k bad 2 with
  | true => rw [hl] at h; simp at h
  | false => exact (lack_n hl).1
theorem q_ok {zs : List UInt8} {k : Nat} {bad : Bool} (h : (rdQ zs k bad).2.2 = false) : qOk (toQn (rdQ zs k bad).1) = true ∧ bad = false := by
  unfold rdQ toQn at *
  simp only at h ⊢
  obtain ⟨c1, c2⟩ := rdTwo_ok h
  obtain ⟨b1, b2⟩ := rdTwo_ok c1
  obtain ⟨a1, a2⟩ := rdName_ok b1
  unfold qOk withinN
  simp only [a1, Bool.true_and, Bool.and_eq_true, decide_eq_true_eq]
  exact ⟨⟨b2, c2⟩, a2⟩
theorem qs_ok (zs : List UInt8) : ∀ (i : Nat) (l : List Qn) (k : Nat) (bad : Bool), (rdQs zs i l k bad).2.2 = false → bad = false ∧ (rdQs zs i l k bad).1.length = l.length + i ∧ ∀ q ∈ (rdQs zs i l k bad).1, q ∈ l ∨ qOk q = true
  | 0, l, k, bad, h => ⟨h, rfl, fun q hq => .inl hq⟩
  | i + 1, l, k, bad, h => by
    rw [rdQs] at h ⊢
    obtain ⟨h1, h2, h3⟩ := qs_ok zs i _ _ _ h
    obtain ⟨h4, h5⟩ := q_ok h1
    refine ⟨h5, by rw [h2]; simp; omega, fun q hq => ?_⟩
    rcases h3 q hq with h6 | h6
    · rcases List.mem_append.1 h6 with h7 | h7
      · exact .inl h7
      · rw [List.mem_singleton.1 h7]; exact .inr h4
    · exact .inr h6
theorem rdData_ok {zs : List UInt8} {t : Int} {n k : Nat} {bad : Bool} (h : (rdData zs t n k bad).2.2 = false) : bad = false := by
  unfold rdData at h
  cases hl : lackB zs.length k bad n with
  | true => rw [hl] at h; simp at h
  | false => exact (lack_n hl).1
theorem rec_ok {zs : List UInt8} {k : Nat} {bad : Bool} (h : (rdRec zs k bad).2.2 = false) : bad = false ∧ 0 ≤ (rdRec zs k bad).1.cl ∧ (rdRec zs k bad).1.cl ≤ 65535 := by
  unfold rdRec at *
  simp only at h ⊢
  have g := rdData_ok h
  obtain ⟨f1, _⟩ := rdTwo_ok g
  obtain ⟨e1, _⟩ := rdTwo_ok f1
  obtain ⟨d1, _⟩ := rdTwo_ok e1
  obtain ⟨c1, c2⟩ := rdTwo_ok d1
  obtain ⟨b1, _⟩ := rdTwo_ok c1
  exact ⟨(rdName_ok b1).2, c2⟩
theorem sec_ok (zs : List UInt8) : ∀ (i : Nat) (l o : List Rc.RR) (k : Nat) (bad : Bool), (rdSec zs i l o k bad).2.2.2 = false →
    bad = false ∧ (l.length ≤ 64 → (rdSec zs i l o k bad).1.length ≤ 64) ∧ (∀ r ∈ (rdSec zs i l o k bad).1, r ∈ l ∨ checkB r = true) ∧ (∀ r ∈ (rdSec zs i l o k bad).2.1, r ∈ o ∨ (0 ≤ r.cl ∧ r.cl ≤ 65535))
  | 0, l, o, k, bad, h => ⟨h, fun hl => hl, fun r hr => .inl hr, fun r hr => .inl hr⟩
  | i + 1, l, o, k, bad, h => by
    rw [rdSec] at h ⊢
    cases hb : (rdRec zs k bad).2.2 with
    | true => rw [hb] at h; simp at h
    | false =>
      obtain ⟨r1, r2⟩ := rec_ok hb
      rw [hb] at h
      simp only [Bool.false_eq_true, if_false] at h ⊢
      by_cases ht : (rdRec zs k bad).1.ty = 41
      · rw [if_pos ht] at h ⊢
        obtain ⟨_, s2, s3, s4⟩ := sec_ok zs i _ _ _ _ h
        refine ⟨r1, s2, s3, fun r hr => ?_⟩
        rcases s4 r hr with h6 | h6
        · rcases List.mem_append.1 h6 with h7 | h7
          · exact .inl h7
          · rw [List.mem_singleton.1 h7]; exact .inr r2
        · exact .inr h6
      · rw [if_neg ht] at h ⊢
        obtain ⟨s1, s2, s3, s4⟩ := sec_ok zs i _ _ _ _ h
        simp only [Bool.or_eq_false_iff, Bool.not_eq_false', decide_eq_false_iff_not] at s1
        refine ⟨r1, fun _ => s2 (by simp; omega), fun r hr => ?_, s4⟩
        rcases s3 r hr with h6 | h6
        · rcases List.mem_append.1 h6 with h7 | h7
          · exact .inl h7
          · rw [List.mem_singleton.1 h7]; exact .inr s1.1
        · exact .inr h6
theorem optF_one (o : List Rc.RR) (b : Bool) (hl : o.length ≤ 1) (hc : ∀ r ∈ o, 0 ≤ r.cl ∧ r.cl ≤ 65535) : (0 ≤ (optF o b).2.1 ∧ (optF o b).2.1 ≤ 65535) ∧ ((optF o b).1 = true ∨ (optF o b).2.1 = 0) := by
  match o, hl with
  | [], _ => exact ⟨⟨Int.le_refl _, by show (0 : Int) ≤ _; decide⟩, .inr rfl⟩
  | [r], _ => exact ⟨hc r (List.mem_singleton.2 rfl), .inl rfl⟩
theorem dcX_body {zs : List UInt8} (h : (dcX zs).2.2 = false) (h4 : n2 zs 4 ≤ 4) : (dcX zs).1 = bdM (headM (n2 zs 0) (n2 zs 2)) (bdQ zs (n2 zs 4) 12).1 (bdA zs (n2 zs 4) (n2 zs 6) 12).1 (bdS zs (n2 zs 4) (n2 zs 6) (n2 zs 8) 12).1 (bdD zs (n2 zs 4) (n2 zs 6) (n2 zs 8) (n2 zs 10) 12).1
    (optF (bdD zs (n2 zs 4) (n2 zs 6) (n2 zs 8) (n2 zs 10) 12).2.1 (bdB zs.length (bdA zs (n2 zs 4) (n2 zs 6) 12) (bdS zs (n2 zs 4) (n2 zs 6) (n2 zs 8) 12) (bdD zs (n2 zs 4) (n2 zs 6) (n2 zs 8) (n2 zs 10) 12))).1
    (optF (bdD zs (n2 zs 4) (n2 zs 6) (n2 zs 8) (n2 zs 10) 12).2.1 (bdB zs.length (bdA zs (n2 zs 4) (n2 zs 6) 12) (bdS zs (n2 zs 4) (n2 zs 6) (n2 zs 8) 12) (bdD zs (n2 zs 4) (n2 zs 6) (n2 zs 8) (n2 zs 10) 12))).2.1 := by
  unfold dcX rdBody at *
  split at h
  · simp at h
  · rename_i hc
    rw [if_neg hc]
theorem dec_may {zs : List UInt8} {m : Msg} {hd : Bool} (h : decN zs = (m, hd, 0)) : checkM m = true := by
  obtain ⟨_, h12, h4096, h4, hx, hm, hbd⟩ := dec_ok h
  obtain ⟨b1, b2, b3, b4, _⟩ := bdB_parts hbd
  obtain ⟨s1, s2, s3, s4⟩ := sec_ok zs _ _ _ _ _ b1
  obtain ⟨t1, t2, t3, _⟩ := sec_ok zs _ _ _ _ _ s1
  obtain ⟨u1, u2, u3, _⟩ := sec_ok zs _ _ _ _ _ t1
  obtain ⟨_, q1, q2⟩ := qs_ok zs _ _ _ _ u1
  rw [dcX_body hx h4] at hm
  obtain ⟨o1, o2⟩ := optF_one _ (bdB zs.length (bdA zs (n2 zs 4) (n2 zs 6) 12) (bdS zs (n2 zs 4) (n2 zs 6) (n2 zs 8) 12) (bdD zs (n2 zs 4) (n2 zs 6) (n2 zs 8) (n2 zs 10) 12)) b4 (fun r hr => (s4 r hr).resolve_left (fun h => by cases h))
  have c0 := n2_le zs 0
  have c2 := n2_le zs 2
  have w1 : withinN (n2 zs 0 : Int) 65535 = true := by unfold withinN; simp; omega
  have a1 := and15 (x := n2 zs 2 / 2048) (by omega)
  have a2 := and15 (x := n2 zs 2) (by omega)
  have w2 : withinN (bits .and .i64 (((n2 zs 2 : Nat) : Int) / 2048) 15) 15 = true := by
    rw [show ((n2 zs 2 : Nat) : Int) / 2048 = ((n2 zs 2 / 2048 : Nat) : Int) by exact_mod_cast rfl, a1]
    unfold withinN
    simp
    omega
  have w3 : withinN (bits .and .i64 ((n2 zs 2 : Nat) : Int) 15) 15 = true := by
    rw [a2]
    unfold withinN
    simp
    omega
  rw [hm]
  unfold checkM headOk cntOk
  simp only [bdM, headM, w1, w2, w3, Bool.true_and, Bool.and_eq_true, List.all_eq_true, Bool.or_eq_true, beq_iff_eq]
  refine ⟨⟨⟨⟨by unfold withinN; simp; omega, o2⟩, decide_eq_true (show (bdQ zs (n2 zs 4) 12).1.length ≤ 4 from Nat.le_trans (Nat.le_of_eq q1) (by simp only [List.length_nil]; omega)), ?_⟩, fun q hq => (q2 q hq).resolve_left (fun h => by cases h)⟩, ?_⟩
  · exact decide_eq_true (Nat.max_le.2 ⟨Nat.max_le.2 ⟨u2 (Nat.zero_le _), t2 (Nat.zero_le _)⟩, s2 (Nat.zero_le _)⟩)
  · rintro ⟨s, r⟩ hx
    simp only
    rcases mem_allR.1 ⟨s, hx⟩ with h | h | h
    · exact (u3 r h).resolve_left (fun h => by cases h)
    · exact (t3 r h).resolve_left (fun h => by cases h)
    · exact (s3 r h).resolve_left (fun h => by cases h)
/-- a struct loaded whole, behind a guard too -/
theorem wpList_load_rowG {P : Program} {ops : Array Oper} {rest : List Oper} {o : Oper} {a : Act} {w : World} {Q : Exit → Act → World → Prop} (hgd : Region.wanted o (yielded ops a.tmps) = true) (ty : TypeId) (x : Operand) (ho : o.op = .load ty x)
    (g : Nat) (hx : a.eval x = .pointer (some ⟨g, 0, none⟩)) (t : TypeId) (cs : Array Value) (fr : Nat × Nat) (d : TypeDesc) (hg : w.heap[g]? = some (.cells cs t fr))
    (hu : P.underlying ty = some d) (hd : (match d with | .struct _ | .array _ _ => true | _ => false) = true) (hi : (P.info? ty).map (·.size) = some cs.size)
    (h : wpList P ops Q rest (a.put o.dst (.agg cs)) w) : wpList P ops Q (o :: rest) a w :=
  wpList_step fun K hK => by
    rw [if_pos hgd]
    exact wp_load_row ty x ho g hx t cs fr d hg hu hd hi (hK _ _ h)
end Go.Proofs.Ythfhmbooeemaaaa

/- Message: put's contract: a record written. For every record that may be. -/
namespace Go.Proofs.Ythfhmbooeemaaaa
open Go.RowKit Go.Lib Go.Maps Go.Sq
set_option maxRecDepth 100000
set_option linter.unusedVariables false

attribute [local go_sem] Oper.semAt_some

/-- a name of data written -/
def partStep (sq : Bool) (d : List UInt8) (s : WSt × Nat) (p : Nat × Nat) : WSt × Nat := (nameW sq (Nm.labs ((d.drop p.1).take p.2)) (s.1.1 ++ (d.drop s.2).take (p.1 - s.2)) s.1.2, p.1 + p.2)
def putF (sq : Bool) (d : List UInt8) (st : WSt) (pre : List (Nat × Nat)) : WSt × Nat := pre.foldl (partStep sq d) (st, 0)
theorem putParts_F (sq : Bool) (d : List UInt8) : ∀ (ps : List (Nat × Nat)) (s : WSt × Nat), putParts sq d ps s.2 s.1 = ps.foldl (partStep sq d) s
  | [], s => rfl
  | (k, n) :: ps, s => by
    rw [putParts, List.foldl_cons, ← putParts_F sq d ps]
    rfl
theorem putF_snoc (sq : Bool) (d : List UInt8) (st : WSt) (pre : List (Nat × Nat)) (p : Nat × Nat) : putF sq d st (pre ++ [p]) = partStep sq d (putF sq d st pre) p := by simp [putF]
theorem putF_run (sq : Bool) (d : List UInt8) (st : WSt) (pre : List (Nat × Nat)) : (putF sq d st pre).2 = (Rc.runF d pre).2 := by
  refine snoc_rec (P := fun pre => (putF sq d st pre).2 = (Rc.runF d pre).2) rfl (fun l x _ => ?_) pre
  rw [putF_snoc, Rc.runF_snoc]
  rfl
/-- names in data are names -/
theorem parts_valid {r : Rc.RR} (h : checkB r = true) : ∀ p ∈ (Rc.partsN r.ty r.data).getD [], Nm.valid ((r.data.drop p.1).take p.2) = true ∧ p.1 + p.2 ≤ r.data.length := by
  obtain ⟨_, _, _, _, _, hd⟩ := checkB_parts h
  have key : ∀ (ps : List (Nat × Nat)) (fr e : Nat), Runs r.data fr ps e → ∀ p ∈ ps, Nm.valid ((r.data.drop p.1).take p.2) = true ∧ p.1 + p.2 ≤ r.data.length := by
    intro ps
    induction ps with
    | nil => intro _ _ _ p hp; cases hp
    | cons q ps ih =>
      obtain ⟨a, n⟩ := q
      intro fr e hr p hp
      obtain ⟨_, h2, h3, h4⟩ := hr
      rcases List.mem_cons.1 hp with rfl | hp
      · exact ⟨h2, h3⟩
      · exact ih _ _ h4 p hp
  rw [Rc.partsN_some hd]
  simp only [Option.getD_some]
  unfold Rc.placesP
  cases hs : Rc.shape r.ty with
  | none => intro p hp; cases hp
  | some q =>
    obtain ⟨a, m, b⟩ := q
    simp only
    split
    · intro p hp; cases hp
    · cases hn : Rc.names r.data a m with
      | none => intro p hp; cases hp
      | some z =>
        obtain ⟨l, e⟩ := z
        simp only
        exact key l a e (names_runs (by omega) hn).1
theorem data_len {r : Rc.RR} (h : checkB r = true) : r.data.length ≤ 1000 := by
  obtain ⟨_, _, _, _, _, hd⟩ := checkB_parts h
  unfold Rc.dataB at hd
  split at hd
  · cases hd
  · omega
theorem putF_st (sq : Bool) (d : List UInt8) (st : WSt) (hs : StOk st) (pre : List (Nat × Nat)) : (∀ p ∈ pre, Nm.valid ((d.drop p.1).take p.2) = true) → StOk (putF sq d st pre).1 ∧ (putF sq d st pre).1.1.length ≤ st.1.length + (d.length + 255) * pre.length := by
  refine snoc_rec (P := fun pre => (∀ p ∈ pre, Nm.valid ((d.drop p.1).take p.2) = true) → StOk (putF sq d st pre).1 ∧ (putF sq d st pre).1.1.length ≤ st.1.length + (d.length + 255) * pre.length) (fun _ => ⟨hs, by simp [putF]⟩) (fun l x ih hv => ?_) pre
  obtain ⟨i1, i2⟩ := ih fun p hp => hv p (List.mem_append_left _ hp)
  rw [putF_snoc]
  unfold partStep
  have hv2 := hv x (by simp)
  have hso : StOk ((putF sq d st l).1.1 ++ (d.drop (putF sq d st l).2).take (x.1 - (putF sq d st l).2), (putF sq d st l).1.2) := ⟨i1.1, by have := i1.2; simp only [List.length_append]; omega⟩
  obtain ⟨n1, n2⟩ := nameW_st sq hv2 hso
  refine ⟨n1, Nat.le_trans n2 ?_⟩
  have : ((d.drop (putF sq d st l).2).take (x.1 - (putF sq d st l).2)).length ≤ d.length := by rw [List.length_take, List.length_drop]; omega
  simp only [List.length_append, List.length_singleton, Nat.mul_add, Nat.mul_one]
  omega
theorem nameW_ge (sq : Bool) (ls : List (List UInt8)) (b : List UInt8) (M : Met) : b.length ≤ (nameW sq ls b M).1.length := by rw [nameW_S]; simp
theorem putF_ge (sq : Bool) (d : List UInt8) (st : WSt) (pre : List (Nat × Nat)) : st.1.length ≤ (putF sq d st pre).1.1.length := by
  refine snoc_rec (P := fun pre => st.1.length ≤ (putF sq d st pre).1.1.length) (Nat.le_refl _) (fun l x ih => ?_) pre
  rw [putF_snoc]
  refine Nat.le_trans ih (Nat.le_trans ?_ (nameW_ge _ _ _ _))
  simp
theorem parts_len (t : Int) (d : List UInt8) : ((Rc.partsN t d).getD []).length ≤ 2 := by
  cases h : Rc.partsN t d with
  | none => simp
  | some l => exact (Rc.partsN_chain h).2
theorem putHead_st {r : Rc.RR} (h : checkB r = true) {st : WSt} (hs : StOk st) : StOk (putHead r st ++ two2 0, (nameW true (Nm.labs r.name) st.1 st.2).2) ∧ (putHead r st).length ≤ st.1.length + 263 := by
  obtain ⟨hv, _⟩ := checkB_parts h
  obtain ⟨⟨h1, h2⟩, h3⟩ := nameW_st true hv hs
  unfold putHead
  refine ⟨⟨h1, ?_⟩, ?_⟩
  · simp only [List.length_append, two2_len, four_len]; omega
  · simp only [List.length_append, two2_len, four_len]; omega
theorem putBody_F (r : Rc.RR) (st : WSt) : putBody r st = putF (r.ty != 33) r.data (putHead r st ++ two2 0, (nameW true (Nm.labs r.name) st.1 st.2).2) ((Rc.partsN r.ty r.data).getD []) := putParts_F _ _ _ (_, 0)
theorem putN_st {r : Rc.RR} (h : checkB r = true) (st : WSt) (hs : StOk st) : StOk (putN r st) ∧ (putN r st).1.length ≤ st.1.length + 5000 := by
  obtain ⟨h1, h2⟩ := putHead_st h hs
  obtain ⟨b1, b2⟩ := putF_st (r.ty != 33) r.data _ h1 _ (fun p hp => (parts_valid h p hp).1)
  have hl := data_len h
  have hp := parts_len r.ty r.data
  unfold putN
  rw [putBody_F]
  have hm : (r.data.length + 255) * ((Rc.partsN r.ty r.data).getD []).length ≤ 1255 * 2 := Nat.mul_le_mul (by omega) hp
  simp only [List.length_append, two2_len] at b2
  have hd : (r.data.drop (putF (r.ty != 33) r.data (putHead r st ++ two2 0, (nameW true (Nm.labs r.name) st.1 st.2).2) ((Rc.partsN r.ty r.data).getD [])).2).length ≤ 1000 := by rw [List.length_drop]; omega
  refine ⟨⟨b1.1, ?_⟩, ?_⟩
  · have := b1.2
    simp only [setTwo_len, List.length_append]
    omega
  · simp only [setTwo_len, List.length_append]
    omega
theorem may_S {m : Msg} (h : checkM m = true) : MsgS m := by
  obtain ⟨_, ⟨h1, h2, h3, h4⟩, hq, hr⟩ := checkM_parts h
  refine ⟨by omega, by omega, by omega, by omega, fun x hx => ?_, fun x hx => ?_⟩
  · have := valid_len (qOk_parts (hq x hx)).1
    unfold maxLen
    omega
  · have h5 := hr x hx
    have := valid_len (checkB_parts h5).1
    have := data_len h5
    unfold RROk maxLen
    omega
end Go.Proofs.Ythfhmbooeemaaaa

/- Message: put's walk: a record written. For every record that may be. -/
namespace Go.Proofs.Ythfhmbooeemaaaa
open Go.RowKit Go.Lib Go.Maps Go.Sq
set_option maxRecDepth 100000
set_option linter.unusedVariables false

attribute [local go_sem] Oper.semAt_some

/-- a block behind a world is stored into -/
theorem KW.set_new {bm : Nat} {A W : World} (h : KW bm A W) {N T : Nat} {cs : Array Value} {fr : Nat × Nat} (hN : W.heap[N]? = some (.cells cs T fr)) (hA : A.heap.size ≤ N) (v : Value) : KW bm A (W.setCell ⟨N, 0, none⟩ v) := by
  refine ⟨Nat.le_trans h.1 (by simp), fun k o hk h1 h2 => ?_⟩
  have hlt := (Array.getElem?_eq_some_iff.1 hk).1
  exact (heap_set_other hN (by omega)).trans (h.2 k o hk h1 h2)
theorem keepsFrom_KW {bm B : Nat} {W W' : World} (h : KW bm W W') (hB : bm < B) : KeepsFrom B W W' := ⟨h.1, fun j o hj hjo hoc => h.2 j o hjo (fun cs T fr e => by rw [e] at hoc; cases hoc) (fun _ => by omega)⟩
/-- a box is stored into that neither the writer nor its map is -/
theorem WS.set_box {g bm base : Nat} {w0 : World} {most : Int} {b : List UInt8} {M : Met} {bad : Bool} {w : World} {N T : Nat} {cs : Array Value} {fr : Nat × Nat} (h : WS g bm base w0 most b M bad w) (hN : w.heap[N]? = some (.cells cs T fr)) (hT : NotW T) (hb : base ≤ N) (hw0 : w0.heap.size ≤ N) (v : Value) :
    WS g bm base w0 most b M bad (w.setCell ⟨N, 0, none⟩ v) := by
  obtain ⟨⟨⟨x, hrow, hown⟩, hmap⟩, hbw, hkw⟩ := h
  have hne : ∀ k cs' T' fr', w.heap[k]? = some (.cells cs' T' fr') → ¬ NotW T' → k ≠ N := fun k cs' T' fr' hk hT' e => by
    subst e
    rw [hN] at hk
    cases hk
    exact hT' hT
  refine ⟨⟨⟨x, (heap_set_other hN (hne _ _ _ _ hrow (fun h => h.2 rfl))).trans hrow, World.ownsRow.setCellOther hown hN (fun e => hT.1 e) 0 v⟩, hmap.setCell (a := ⟨N, 0, none⟩) (fun e => ?_) _⟩, hbw.setCell (p := ⟨N, 0, none⟩) hb v, ?_⟩
  · obtain ⟨es, cl, h1, _⟩ := hmap
    have : bm = N := e
    rw [this, hN] at h1
    cases h1
  · exact KW.set_new hkw hN hw0 v
theorem run_eql_nilFuncPut (f : Fn) (l1 l2 : Array Value) (w : World) : (binOp .eql 108 (.func f l1 l2) .nilFunc).run Try.prog w = .ok (.bool false) w := by
  have h : ∀ d : Nat, (Op.equalIn (d + 1) 108 (.func f l1 l2) .nilFunc).run Try.prog w = .ok false w := fun d => by
    simp [Op.equalIn, run_underlying Try.underlying108]
  simp only [binOp]
  simp [Op.equal, Op.maxDepth, h 9999]
set_option maxHeartbeats 8000000 in
theorem put_any (r : Rc.RR) (hr : checkB r = true) (g bm base : Nat) (w0 w : World) (most : Int) (st : WSt) (c : WCtx g bm base w0) (h : WS g bm base w0 most st.1 st.2 false w) (hs : StOk st) (hl : st.1.length ≤ 2000000) :
    Calls Try.prog 40 #[.pointer (some ⟨g, 0, none⟩), rrV r] w (WEnd bm (WS g bm base w0 most (putN r st).1 (putN r st).2 false) w) := by
  have mixed : Try.prog.follows .mixedOrders = true := by kernel_rfl
  obtain ⟨hv, _⟩ := checkB_parts hr
  obtain ⟨F, hF⟩ : ∃ F, F = putN r st := ⟨_, rfl⟩
  rw [← hF]
  obtain ⟨X, hX⟩ : ∃ X, (w.alloc (.cells #[.pointer (some ⟨g, 0, none⟩)] 76)).alloc (.cells (rrC r) 45) = X := ⟨_, rfl⟩
  have hb : Below w.heap.size w X := by rw [← hX]; exact ((Below.refl _ w).alloc (Nat.le_refl _) _).alloc (by simp) _
  have g1 : X.heap[w.heap.size]? = some (.cells #[.pointer (some ⟨g, 0, none⟩)] 76 (0, 0)) := by rw [← hX]; exact heap_old (heap_alloc_new _ _) _
  have g2 : X.heap[w.heap.size + 1]? = some (.cells (rrC r) 45 (0, 0)) := by rw [← hX]; exact heap_new1 _ _ _
  have hXs : X.heap.size = w.heap.size + 2 := by rw [← hX]; simp
  have hpw : ∀ W, KW bm X W → W.cell? ⟨w.heap.size, 0, none⟩ = some (.pointer (some ⟨g, 0, none⟩)) := fun W h => row_cell (h.row g1 ⟨by decide, by decide⟩) 0 _ rfl
  have hrw : ∀ W, KW bm X W → W.heap[w.heap.size + 1]? = some (.cells (rrC r) 45 (0, 0)) := fun W h => h.row g2 ⟨by decide, by decide⟩
  have p0 := hpw X (.refl _ _)
  have r0 := row_cell g2 0 _ rfl
  have hws := h.below c hb
  have hn1 := WName_val c hws r.name true hv hs (by omega)
  obtain ⟨hhs, hhl⟩ := putHead_st hr hs
  have HHS0 := Go.Lib.hid hs
  have HBX0 := Go.Lib.hid hb
  have HN1 := Go.Lib.hid hn1
  have HPW := Go.Lib.hid hpw
  have HRW := Go.Lib.hid hrw
  have HWS := Go.Lib.hid hws
  have HF := Go.Lib.hid hF
  have HHS := Go.Lib.hid hhs
  clear hn1 hpw hrw hws hF hhs
  clear h hs g1 g2
  obtain ⟨rn, rt, rc, rl, rd⟩ := r
  simp only [rrC, rrV] at *
  refine (callsIn_wide (n := 6)).1 ?_
  refine callsIn_of_wp_marks Try.func40 rfl trivial ?_ rfl
  simp only [Try.ntmps40, List.size_toArray, List.length_cons, List.length_nil, Nat.reduceAdd, Nat.reduceSub, Array.replicate_succ, Array.replicate_zero, List.push_toArray, List.append_toArray, List.nil_append, List.cons_append]
  gi_wp2_with fail
  refine ⟨trivial, (callsIn_wide.2 HN1.out).mono ?_⟩
  rintro e w1 ⟨⟨v1, rfl⟩, h1, k1⟩
  obtain ⟨hn2, hn3⟩ := nameW_st true hv HHS0.out
  generalize hA : nameW true (Nm.labs rn) st.1 st.2 = A at *
  have p1 := HPW.out _ k1
  have x1 := row_cell (HRW.out _ k1) 1 _ rfl
  have hc := WTwo_any c h1 rt (by omega)
  have HC1 := Go.Lib.hid hc
  have K1 := Go.Lib.hid k1
  have HA := Go.Lib.hid hA
  clear hc k1 hA
  clear h1 p0 r0 hX
  gi_wp2_with fail
  refine ⟨trivial, (callsIn_wide.2 HC1.out).mono ?_⟩
  rintro e w2 ⟨⟨v2, rfl⟩, h2, k2⟩
  have kk2 := K1.out.trans k2
  have p2 := HPW.out _ kk2
  have x2 := row_cell (HRW.out _ kk2) 2 _ rfl
  have hc := WTwo_any c h2 rc (by simp only [List.length_append, two2_len]; omega)
  have HC2 := Go.Lib.hid hc
  have K2 := Go.Lib.hid kk2
  clear hc kk2
  clear h2 p1 x1 k2
  gi_wp2_with fail
  refine ⟨trivial, (callsIn_wide.2 HC2.out).mono ?_⟩
  rintro e w3 ⟨⟨v3, rfl⟩, h3, k3⟩
  have kk3 := K2.out.trans k3
  have p3 := HPW.out _ kk3
  have x3 := row_cell (HRW.out _ kk3) 3 _ rfl
  have hc := WFour_any c h3 rl (by simp only [List.length_append, two2_len]; omega)
  have HC3 := Go.Lib.hid hc
  have K3 := Go.Lib.hid kk3
  clear hc kk3
  clear h3 p2 x2 k3
  gi_wp2_with fail
  refine ⟨trivial, (callsIn_wide.2 HC3.out).mono ?_⟩
  rintro e w4 ⟨⟨v4, rfl⟩, h4, k4⟩
  have kk4 := K3.out.trans k4
  have p4 := HPW.out _ kk4
  obtain ⟨H, hH⟩ : ∃ H, H = putHead ⟨rn, rt, rc, rl, rd⟩ st := ⟨_, rfl⟩
  have hHe : A.1 ++ two2 rt ++ two2 rc ++ four rl = H := by rw [hH, ← HA.out]; rfl
  rw [hHe] at h4
  rw [← hH] at hhl
  have hlen := WLen_any h4
  have hc := WTwo_any c h4 0 (by omega)
  have HLEN := Go.Lib.hid hlen
  have HC4 := Go.Lib.hid hc
  have K4 := Go.Lib.hid kk4
  have HH := Go.Lib.hid hH
  clear hlen hc kk4 hH
  clear h4 p3 x3 k4 hHe hn3
  gi_wp2_with fail
  refine ⟨trivial, (callsIn_wide.2 HLEN.out).mono ?_⟩
  rintro e _ ⟨rfl, rfl⟩
  gi_wp2_with fail
  refine ⟨trivial, (callsIn_wide.2 HC4.out).mono ?_⟩
  rintro e w5 ⟨⟨v5, rfl⟩, h5, k5⟩
  have kk5 := K4.out.trans k5
  have hr5 := HRW.out _ kk5
  have b5 : Below w5.heap.size w5 (w5.alloc (.cells #[.int .i64 0] 3)) := (Below.refl _ _).alloc (Nat.le_refl _) _
  have hr5a := (b5.block _ (Array.getElem?_eq_some_iff.1 hr5).1).trans hr5
  have z1 := row_cell hr5a 1 _ rfl
  have z4 := row_cell hr5a 4 _ rfl
  have hnm := fun w => Names_any rt (mk rd) w
  have K5 := Go.Lib.hid kk5
  have H5 := Go.Lib.hid h5
  have B5 := Go.Lib.hid b5
  have HNM := Go.Lib.hid hnm
  clear kk5 h5 b5 hnm
  clear p4 k5 hr5 hr5a
  gi_upto_region 8 with fail
  gi_cut [32] from 8 (fun v32 wx => v32 = .func (.func 79) #[] #[.pointer (some ⟨w5.heap.size + 1, 0, none⟩), .pointer (some ⟨w5.heap.size + 1 + 1, 0, none⟩)] ∧ wx = ((w5.alloc (.cells #[.int .i64 0] 3)).alloc (.cells #[.int .i64 rt] 3)).alloc (.cells #[.string (mk rd)] 9))
  case first =>
    gi_wp2_with fail
    refine ⟨trivial, (callsIn_wide.2 (HNM.out _)).mono ?_⟩
    rintro e w6 ⟨rfl, hw6⟩
    have hsz : (w5.alloc (.cells #[.int .i64 0] 3)).heap.size = w5.heap.size + 1 := World.size_alloc _ _
    rw [hsz]
    gi_wp2_with fail
    gi_meet
    case rel => exact ⟨rfl, rfl⟩
  case rest =>
  obtain ⟨rfl, hw6⟩ := hcut
  clear z1 z4
  have hsz2 : wc.heap.size = w5.heap.size + 3 := by rw [hw6]; simp
  have hb6 : Below w5.heap.size w5 wc := by rw [hw6]; exact (((Below.refl _ w5).alloc (Nat.le_refl _) _).alloc (by simp) _).alloc (by simp; omega) _
  have x3 : wc.heap[w5.heap.size]? = some (.cells #[.int .i64 0] 3 (0, 0)) := by rw [hw6]; exact heap_old (heap_old (heap_alloc_new _ _) _) _
  have x4 : wc.heap[w5.heap.size + 1]? = some (.cells #[.int .i64 rt] 3 (0, 0)) := by
    rw [hw6]
    have := heap_alloc_new (w5.alloc (.cells #[.int .i64 0] 3)) (.cells #[.int .i64 rt] 3)
    rw [World.size_alloc] at this
    exact heap_old this _
  have x5 : wc.heap[w5.heap.size + 1 + 1]? = some (.cells #[.string (mk rd)] 9 (0, 0)) := by
    rw [hw6]
    have := heap_alloc_new ((w5.alloc (.cells #[.int .i64 0] 3)).alloc (.cells #[.int .i64 rt] 3)) (.cells #[.string (mk rd)] 9)
    rw [World.size_alloc, World.size_alloc] at this
    exact this
  have hdl := data_len (r := ⟨rn, rt, rc, rl, rd⟩) hr
  simp only at hdl
  have hseq := names_seq 5 (by omega) _ _ rt (mk rd) (by rw [size_mk]; unfold maxLen; omega) wc (by rw [hsz2]; omega) (by rw [hsz2]; omega) (row_cell x4 0 _ rfl) (row_cell x5 0 _ rfl)
  rw [bl_mk] at hseq
  have hpv := parts_valid hr
  have hpl := parts_len rt rd
  have hch : Rc.Chain rd 0 ((Rc.partsN rt rd).getD []) := by
    cases h : Rc.partsN rt rd with
    | none => exact Nat.zero_le _
    | some l => exact (Rc.partsN_chain h).1
  have hbody := putBody_F ⟨rn, rt, rc, rl, rd⟩ st
  simp only at hpv hbody
  generalize hL : (Rc.partsN rt rd).getD [] = L at *
  have hS0 := HHS.out
  rw [HA.out] at hbody
  obtain ⟨S0, hS⟩ : ∃ S0 : WSt, S0 = (putHead ⟨rn, rt, rc, rl, rd⟩ st ++ two2 0, A.2) := ⟨_, rfl⟩
  rw [← hS] at hbody hS0
  have hws0 := H5.out.below c hb6
  have hS1 : S0.1 = H ++ two2 0 ∧ S0.2 = A.2 := by rw [hS, HH.out]; exact ⟨rfl, rfl⟩
  rw [← hS1.1, ← hS1.2] at hws0
  have hSl : S0.1.length ≤ 2000265 := by rw [hS1.1, List.length_append, two2_len]; omega
  have hbm : bm < wc.heap.size := by
    obtain ⟨es, cl, h1, _⟩ := hws0.1.map
    exact (Array.getElem?_eq_some_iff.1 h1).1
  have hbase : w0.heap.size ≤ wc.heap.size := hws0.2.1.size
  have hkw0 := K5.out
  have hww5 : w.heap.size + 2 ≤ w5.heap.size := by have := hkw0.1; omega
  have hsqe : ∃ sq, sq = (rt != 33) := ⟨_, rfl⟩
  obtain ⟨sq, hsq⟩ := hsqe
  rw [← hsq] at hbody
  have h0 : (WS g bm base w0 most (putF sq rd S0 []).1.1 (putF sq rd S0 []).1.2 false wc ∧ KW bm w5 wc) ∧ wc.heap[w5.heap.size]? = some (.cells #[.int .i64 ((putF sq rd S0 []).2 : Int)] 3 (0, 0)) := ⟨⟨hws0, KW.of_below hb6⟩, x3⟩
  have hcb := c.hb
  have h50 : w0.heap.size ≤ w5.heap.size := H5.out.2.1.size
  have HSEQ := Go.Lib.hid hseq
  have H0 := Go.Lib.hid h0
  have HB6 := Go.Lib.hid hb6
  have HSZ := Go.Lib.hid hsz2
  have HPV := Go.Lib.hid hpv
  have HPL := Go.Lib.hid hpl
  have HCH := Go.Lib.hid hch
  have HBODY := Go.Lib.hid hbody
  have HS0 := Go.Lib.hid hS0
  have HS1 := Go.Lib.hid hS1
  have HSL := Go.Lib.hid hSl
  have HBM := Go.Lib.hid hbm
  have HBASE := Go.Lib.hid hbase
  have HK0 := Go.Lib.hid hkw0
  have HSQ := Go.Lib.hid hsq
  have HL := Go.Lib.hid hL
  have HS := Go.Lib.hid hS
  have HDL := Go.Lib.hid hdl
  clear hseq h0 hb6 hsz2 hpv hpl hch hbody hS0 hS1 hSl hbm hbase hkw0 hsq hL hS hdl
  clear hw6 x3 x4 x5 hws0 HHS hr
  gi_wp2_with fail
  refine wpIn_rangeFunc_ok rfl (by omega) (gf := 79) (lb := #[.pointer (some ⟨w5.heap.size + 1, 0, none⟩), .pointer (some ⟨w5.heap.size + 1 + 1, 0, none⟩)]) rfl trivial (enters_of Try.func79 (by kernel_rfl) rfl)
    HSEQ.out KpT.trans (fun W l o o' _ h1 h2 _ => KpT.put W l o o' h1 h2) (Below.refl _ _) (fun _ => rfl)
    (fun pre W => (WS g bm base w0 most (putF sq rd S0 pre).1.1 (putF sq rd S0 pre).1.2 false W ∧ KW bm w5 W) ∧ W.heap[w5.heap.size]? = some (.cells #[.int .i64 ((putF sq rd S0 pre).2 : Int)] 3 (0, 0))) (fun _ _ _ => False)
    (OwnFrom.and (OwnFrom.and (ownFrom_WS (fun pre : List (Nat × Nat) => (putF sq rd S0 pre).1) c HBM.out (Nat.le_trans hcb HBASE.out) HBASE.out) (ownFrom_KW (by rw [HSZ.out]; omega))) (ownFrom_heap2 _ _ (fun pre : List (Nat × Nat) => #[.int .i64 ((putF sq rd S0 pre).2 : Int)]) _ _))
    (fun _ _ _ _ _ h _ _ => h) H0.out
    (fun x a' _ => a' = { tmps := #[.pointer (some ⟨g, 0, none⟩), .agg #[.string (mk rn), .int .i64 rt, .int .i64 rc, .int .i64 rl, .string (mk rd)], .pointer (some ⟨w.heap.size, 0, none⟩), .pointer (some ⟨w.heap.size + 1, 0, none⟩), .int .i64 (H.length : Int), .pointer (some ⟨w5.heap.size, 0, none⟩), .int .i64 (x.1 : Int), .int .i64 (x.2 : Int), u8, u9, u10, u11, u12, u13, u14, u15, u16, u17, u18, u19, u20, u21, u22, u23, u24, u25, u26, u27, u28, u29, u30, u31, .func (.func 79) #[] #[.pointer (some ⟨w5.heap.size + 1, 0, none⟩), .pointer (some ⟨w5.heap.size + 1 + 1, 0, none⟩)], .int .i64 (x.1 : Int), .int .i64 (x.2 : Int), u35, u36, u37, u38, u39, u40, u41, u42, u43, u44, u45, u46, u47, u48, u49, u50, u51, u52, u53, u54, u55, u56, u57, u58, u59, u60, u61, u62, u63, u64, u65, u66, u67, u68, u69, u70, u71, u72], defers := [] }) (fun _ _ _ _ _ _ hs _ _ => hs) ?assign ?body ?done ?stop
  case assign =>
    intro l pre x W K hi hok hK
    have HK := Go.Lib.hid hK
    have HI := Go.Lib.hid hi
    clear hK hi
    unfold encPair
    gi_wp2
    exact HK.out _ _ (KeepsFrom.refl _ _) (KpT.refl _) HI.out rfl
  case body =>
    rintro lp pre ⟨xa, xn⟩ a' W ⟨⟨hws, hkw⟩, hbox⟩ hok rfl
    have hmem : (xa, xn) ∈ L := hok.subset (by simp)
    obtain ⟨hv1, hv2⟩ := HPV.out _ hmem
    have hnx := Rc.runF_next (d := rd) (l := pre) (p := (xa, xn)) (by
      obtain ⟨m, hm⟩ := hok
      have := HCH.out
      rw [← hm] at this
      exact Rc.chain_prefix _ _ _ this)
    rw [← putF_run sq rd S0] at hnx
    obtain ⟨n1, n2, n3⟩ := hnx
    have hst := putF_st sq rd S0 HS0.out pre (fun p hp => (HPV.out p (hok.subset (by simp [hp]))).1)
    have hpre2 : pre.length ≤ 2 := by have := hok.length_le; have := HPL.out; simp at *; omega
    have hstep := putF_snoc sq rd S0 pre (xa, xn)
    have hdl := HDL.out
    have hsl := HSL.out
    have hm : (rd.length + 255) * pre.length ≤ 1255 * 2 := Nat.mul_le_mul (by omega) hpre2
    generalize putF sq rd S0 pre = T at *
    obtain ⟨⟨b, M⟩, fr⟩ := T
    simp only at hws hbox n1 n2 n3 hv1 hv2 hst
    obtain ⟨hso, hbl⟩ := hst
    unfold partStep at hstep
    simp only at hstep
    have hxs : (mk rd).extract fr xa = mk ((rd.drop fr).take (xa - fr)) := by
      have := bl_extract (mk rd) fr xa
      rw [bl_mk] at this
      rw [← this, mk_bl]
    have hxn : (mk rd).extract xa (xa + xn) = mk ((rd.drop xa).take xn) := by
      have := bl_extract (mk rd) xa (xa + xn)
      rw [show xa + xn - xa = xn by omega, bl_mk] at this
      rw [← this, mk_bl]
    have hl1 : ((rd.drop fr).take (xa - fr)).length = xa - fr := by rw [List.length_take, List.length_drop]; omega
    have hl2 : ((rd.drop xa).take xn).length = xn := by rw [List.length_take, List.length_drop]; omega
    have hsz := size_mk rd
    have hcv := fun W => run_conv_bytes (mk ((rd.drop fr).take (xa - fr))) (by rw [size_mk, hl1]; unfold maxLen; omega) W
    rw [bl_mk] at hcv
    rw [size_mk] at hcv
    generalize (rd.drop fr).take (xa - fr) = D1 at *
    generalize (rd.drop xa).take xn = D2 at *
    have hso1 : StOk (b ++ D1, M) := ⟨hso.1, by have := hso.2; simp only [List.length_append] at this ⊢; omega⟩
    have p0 := HPW.out _ (HK0.out.trans hkw)
    have hr0 := HRW.out _ (HK0.out.trans hkw)
    have l1 := (Array.getElem?_eq_some_iff.1 hr0).1
    have l2 := (Array.getElem?_eq_some_iff.1 hbox).1
    have c2 := BelowC.cell (W := W) p0 (show w.heap.size < W.heap.size by omega)
    have c4 := BelowC.cell (W := W) (row_cell hr0 4 _ rfl) l1
    have c1 := BelowC.cell (W := W) (row_cell hr0 1 _ rfl) l1
    have c5 := BelowC.cell (W := W) (row_cell hbox 0 _ rfl) l2
    have i1 : (fr : Int) ≤ (xa : Int) := by omega
    have i2 : (xa : Int) ≤ (rd.length : Int) := by omega
    have i3 : fr ≤ xa := n1
    have i4 : xa ≤ (mk rd).size := by rw [hsz]; omega
    have hne : Nonempty (Subtype (Below W.heap.size W)) := ⟨⟨W, Below.refl _ _⟩⟩
    obtain ⟨cap, W2, hrun, hcap, hcm, hrow2, hb2, hszc⟩ := hcv W.drew
    have hbW : Below W.heap.size W W2 := ((Below.refl W.heap.size W).drew).trans hb2
    have hx : Byts W2 (.slice (some ⟨W.drew.heap.size, 0, none⟩) D1.length cap) D1 := hrow2.slc (n := D1.length) (by simp) hcap hcm
    have hcl := WBytes_any c (hws.below c hbW) _ D1 hx (by omega)
    have hkb := hkw.trans (KW.of_below hbW)
    have hD1 : D1.length ≤ 1000 := by omega
    have hbx2 := (hbW.block _ l2).trans hbox
    have HCL := Go.Lib.hid hcl
    have HKB := Go.Lib.hid hkb
    have HBX2 := Go.Lib.hid hbx2
    have HSTEP := Go.Lib.hid hstep
    have HBW := Go.Lib.hid hbW
    have HSO := Go.Lib.hid hso
    have HL1 := Go.Lib.hid hl1
    have HL2 := Go.Lib.hid hl2
    clear hcl hkb hbx2 hstep hbW hso hl1 hl2
    clear hws hkw hbox hr0 hrow2 hb2 hszc hx hcap hcm
    gi_wp2_with fail
    refine Go.Mix.wpIn_region_mixT (Es := [6]) 7 (Below W.heap.size W) mixed (by kernel_rfl) (Below.refl _ _).drew ?_
    iterate 6 (refine Go.Mix.mixT_step rfl (fun K hK => ?_); have HKK := Go.Lib.hid hK; clear hK; go_simp; refine HKK.out _ _ ?_; clear HKK K)
    refine Go.Mix.mixT_eff rfl (fun K hK => ?_)
    have HKK := Go.Lib.hid hK
    clear hK
    go_simp
    refine HKK.out _ _ HBW.out ?_
    clear HKK K c1 c2 c4 c5
    refine Go.Mix.mixT_last rfl (fun K hK => ?_)
    have HKK := Go.Lib.hid hK
    clear hK
    go_simp
    refine HCL.out.mono ?_
    rintro e W3 ⟨⟨v3, rfl⟩, h3, k3⟩
    have kk3 := HKB.out.trans k3
    have hbx3 := (KW.of_below (bm := bm) HBW.out).trans k3
    have hbz : W3.heap[w5.heap.size]? = some (.cells #[.int .i64 (fr : Int)] 3 (0, 0)) := k3.row HBX2.out ⟨by decide, by decide⟩
    have p0 := HPW.out _ (HK0.out.trans kk3)
    have hr0 := HRW.out _ (HK0.out.trans kk3)
    have l1 := (Array.getElem?_eq_some_iff.1 hr0).1
    have l2 := (Array.getElem?_eq_some_iff.1 hbz).1
    have c2 := BelowC.cell (W := W3) p0 (show w.heap.size < W3.heap.size by omega)
    have c4 := BelowC.cell (W := W3) (row_cell hr0 4 _ rfl) l1
    have c1 := BelowC.cell (W := W3) (row_cell hr0 1 _ rfl) l1
    have q1 : IntKind.i64.wrap ((xa : Int) + (xn : Int)) = (xa : Int) + (xn : Int) := wrapi (by omega) (by omega)
    have q2 : ((xa : Int) + (xn : Int)).toNat = xa + xn := by omega
    have q3 : (xa : Int) ≤ (xa : Int) + (xn : Int) := by omega
    have q4 : (xa : Int) + (xn : Int) ≤ (rd.length : Int) := by omega
    have q5 : (0 : Int) ≤ (xa : Int) + (xn : Int) := by omega
    have q6 : xa + xn ≤ rd.length := by omega
    have hnm2 := WName_val c (h3.below c (Below.refl _ _).drew) D2 sq hv1 hso1 (by simp only [List.length_append]; omega)
    have hne3 : Nonempty (Subtype (Below W3.heap.size W3)) := ⟨⟨W3, Below.refl _ _⟩⟩
    have hsqb : (rt != 33) = sq := HSQ.out.symm
    have HNM2 := Go.Lib.hid hnm2
    have KK3 := Go.Lib.hid kk3
    have HBX3 := Go.Lib.hid hbx3
    have HBZ := Go.Lib.hid hbz
    clear hnm2 kk3 hbx3 hbz
    clear hr0 h3 k3
    go_simp
    refine HKK.out _ _ ?_
    clear HKK K hrun p0
    gi_wp2_with fail
    refine Go.Mix.wpIn_region_mixT (Es := []) 11 (Below W3.heap.size W3) mixed (by kernel_rfl) (Below.refl _ _).drew ?_
    iterate 11 (refine Go.Mix.mixT_step rfl (fun K hK => ?_); have HKK := Go.Lib.hid hK; clear hK; go_simp; refine HKK.out _ _ ?_; clear HKK K)
    refine Go.Mix.mixT_last rfl (fun K hK => ?_)
    have HKK := Go.Lib.hid hK
    clear hK
    go_simp
    refine HNM2.out.mono ?_
    rintro e W4 ⟨⟨v4, rfl⟩, h4, k4⟩
    have hbz4 : W4.heap[w5.heap.size]? = some (.cells #[.int .i64 (fr : Int)] 3 (0, 0)) := k4.row HBZ.out ⟨by decide, by decide⟩
    have kk4 := (KW.drew (HBX3.out : KW bm W W3)).trans k4
    have kw4 := (KW.drew KK3.out).trans k4
    have e5 : W4.cell? ⟨w5.heap.size, 0, none⟩ = some (.int .i64 (fr : Int)) := row_cell hbz4 0 _ rfl
    have f5 : W4.frozen? ⟨w5.heap.size, 0, none⟩ = false := row_frozen hbz4 0
    have hlt4 := (Array.getElem?_eq_some_iff.1 hbz4).1
    have H4 := Go.Lib.hid h4
    have KK4 := Go.Lib.hid kk4
    have KW4 := Go.Lib.hid kw4
    have HBZ4 := Go.Lib.hid hbz4
    clear h4 kk4 kw4 hbz4
    clear k4
    go_simp
    refine HKK.out _ _ ?_
    clear HKK K c1 c2 c4
    gi_wp2_with fail
    refine ⟨(keepsFrom_KW KK4.out HBM.out).trans ((KeepsOthers.setCell _ _ _).from _), (show KpT IsPlace W W4 from fun j cs T fr hT hjo => KK4.out.kpt j cs T fr (by rw [show T = 124 from hT]; exact ⟨by decide, by decide⟩) hjo).set (a := ⟨w5.heap.size, 0, none⟩) HBZ4.out (by decide) _, ⟨?_, KW.set_new KW4.out HBZ4.out (Nat.le_refl _) _⟩, ?_⟩
    · rw [HSTEP.out]
      exact WS.set_box H4.out HBZ4.out ⟨by decide, by decide⟩ (by have := c.hb; omega) (by omega) _
    · rw [HSTEP.out]
      have := heap_set (i := 0) (v := .int .i64 ((xa : Int) + (xn : Int))) HBZ4.out
      exact this
  case done =>
    rintro D ys W hD rfl ⟨⟨hws, hkw⟩, hbox⟩ hK
    have hst := putF_st sq rd S0 HS0.out ys (fun p hp => (HPV.out p hp).1)
    have hge := putF_ge sq rd S0 ys
    rw [HS1.out.1, List.length_append, two2_len] at hge
    have hpl := HPL.out
    have hbo := HBODY.out
    have hdl := HDL.out
    have hsl := HSL.out
    have hm : (rd.length + 255) * ys.length ≤ 1255 * 2 := Nat.mul_le_mul (by omega) hpl
    have hfr := (Rc.runF_fold (d := rd) (l := ys) HCH.out).2.2
    rw [← putF_run sq rd S0] at hfr
    have hF2 := HF.out
    unfold putN at hF2
    rw [hbo] at hF2
    generalize putF sq rd S0 ys = T at *
    obtain ⟨⟨b, M⟩, fr⟩ := T
    simp only at hws hbox hst hfr hF2 hge
    rw [← HH.out] at hF2
    obtain ⟨hso, hbl⟩ := hst
    have hsz := size_mk rd
    have hxs : (mk rd).extract fr (mk rd).size = mk (rd.drop fr) := by
      have := bl_extract (mk rd) fr (mk rd).size
      rw [bl_mk, hsz, List.take_of_length_le (by rw [List.length_drop]; exact Nat.le_refl _)] at this
      rw [hsz, ← this, mk_bl]
    rw [hsz] at hxs
    have hl1 : (rd.drop fr).length ≤ 1000 := by rw [List.length_drop]; omega
    have hcv := fun W => run_conv_bytes (mk (rd.drop fr)) (by rw [size_mk]; unfold maxLen; omega) W
    rw [bl_mk] at hcv
    rw [size_mk] at hcv
    generalize rd.drop fr = D1 at *
    have hkk := HK0.out.trans hkw
    have p0 := HPW.out _ hkk
    have hr0 := HRW.out _ hkk
    have l1 := (Array.getElem?_eq_some_iff.1 hr0).1
    have l2 := (Array.getElem?_eq_some_iff.1 hbox).1
    have c2 := BelowC.cell (W := W) p0 (show w.heap.size < W.heap.size by omega)
    have c4 := BelowC.cell (W := W) (row_cell hr0 4 _ rfl) l1
    have c5 := BelowC.cell (W := W) (row_cell hbox 0 _ rfl) l2
    have i2 : (fr : Int) ≤ (rd.length : Int) := by omega
    have i1 : fr ≤ rd.length := hfr
    have hne : Nonempty (Subtype (Below W.heap.size W)) := ⟨⟨W, Below.refl _ _⟩⟩
    obtain ⟨cap, W2, hrun, hcap, hcm, hrow2, hb2, hszc⟩ := hcv W.drew
    have hbW : Below W.heap.size W W2 := ((Below.refl W.heap.size W).drew).trans hb2
    have hx : Byts W2 (.slice (some ⟨W.drew.heap.size, 0, none⟩) D1.length cap) D1 := hrow2.slc (n := D1.length) (by simp) hcap hcm
    have hcl := WBytes_any c (hws.below c hbW) _ D1 hx (by omega)
    have hKD := (hbW.block _ (Array.getElem?_eq_some_iff.1 hK).1).trans hK
    have hDm : D ≠ bm := by have := HBM.out; omega
    have hkb := hkk.trans (KW.of_below hbW)
    have hDw : w5.heap.size ≤ D := Nat.le_trans HB6.out.size hD
    have HCL := Go.Lib.hid hcl
    have HKB := Go.Lib.hid hkb
    have HKD := Go.Lib.hid hKD
    have HBW := Go.Lib.hid hbW
    have HF2 := Go.Lib.hid hF2
    have HDM := Go.Lib.hid hDm
    have HDW := Go.Lib.hid hDw
    clear hcl hkb hKD hbW hF2 hDm hDw
    clear hws hkw hbox hr0 hrow2 hb2 hszc hx hcap hcm hK hkk HF hso hbo
    gi_wp2_with fail
    refine wpIn_wide.2 ?_
    refine Go.Mix.wp_region_mixT (Es := [5]) 6 (Below W.heap.size W) mixed (by kernel_rfl) (Below.refl _ _).drew ?_
    iterate 5 (refine Go.Mix.mixT_step rfl (fun K hK => ?_); have HKK := Go.Lib.hid hK; clear hK; go_simp; refine HKK.out _ _ ?_; clear HKK K)
    refine Go.Mix.mixT_eff rfl (fun K hK => ?_)
    have HKK := Go.Lib.hid hK
    clear hK
    go_simp
    refine HKK.out _ _ HBW.out ?_
    clear HKK K c2 c4 c5
    refine Go.Mix.mixT_last rfl (fun K hK => ?_)
    have HKK := Go.Lib.hid hK
    clear hK
    go_simp
    refine HCL.out.mono ?_
    rintro e W3 ⟨⟨v3, rfl⟩, h3, k3⟩
    have kk3 := HKB.out.trans k3
    have hKD3 := k3.2 _ _ HKD.out (fun cs T fr e => by cases e) (fun _ => HDM.out)
    have p3 := HPW.out _ kk3
    have c3 := BelowC.cell (W := W3) p3 (show w.heap.size < W3.heap.size by have := (Array.getElem?_eq_some_iff.1 hKD3).1; have := HDW.out; omega)
    have hlen := fun (W' : World) (hw : Below W3.heap.size W3 W') => WLen_any (h3.below c hw)
    have hB : (b ++ D1).length ≤ 3000000 := by rw [List.length_append]; omega
    have hHB : H.length + 2 ≤ (b ++ D1).length := by rw [List.length_append]; omega
    generalize hBB : b ++ D1 = B at *
    have q1 : IntKind.i64.wrap ((B.length : Int) - (H.length : Int)) = (B.length : Int) - (H.length : Int) := wrapi (by omega) (by omega)
    have q2 : IntKind.i64.wrap ((B.length : Int) - (H.length : Int) - 2) = (B.length : Int) - (H.length : Int) - 2 := wrapi (by omega) (by omega)
    have hset := fun (W' : World) (hw : Below W3.heap.size W3 W') => WSet_any c (h3.below c hw) H.length ((B.length : Int) - (H.length : Int) - 2) hHB (by omega)
    have hne3 : Nonempty (Subtype (Below W3.heap.size W3)) := ⟨⟨W3, Below.refl _ _⟩⟩
    have HLEN2 := Go.Lib.hid hlen
    have HSET := Go.Lib.hid hset
    have KK3 := Go.Lib.hid kk3
    have HKD3 := Go.Lib.hid hKD3
    have HBL := Go.Lib.hid hB
    have HHB := Go.Lib.hid hHB
    have HBB := Go.Lib.hid hBB
    clear hlen hset kk3 hKD3 hB hHB hBB
    clear h3 k3 p3 hrun
    go_simp
    refine HKK.out _ _ ?_
    clear HKK K
    gi_wp2_with fail
    refine wpIn_wide.2 ?_
    refine Go.Mix.wp_region_mixT (Es := [3]) 7 (Below W3.heap.size W3) mixed (by kernel_rfl) (Below.refl _ _).drew ?_
    iterate 3 (refine Go.Mix.mixT_step rfl (fun K hK => ?_); have HKK := Go.Lib.hid hK; clear hK; go_simp; refine HKK.out _ _ ?_; clear HKK K)
    refine Go.Mix.mixT_eff rfl (fun K hK => ?_)
    have HKK := Go.Lib.hid hK
    clear hK
    go_simp
    refine (HLEN2.out _ (Below.refl _ _).drew).mono ?_
    rintro e _ ⟨rfl, rfl⟩
    go_simp
    refine HKK.out _ _ (Below.refl _ _).drew ?_
    clear HKK K
    iterate 3 (refine Go.Mix.mixT_step rfl (fun K hK => ?_); have HKK := Go.Lib.hid hK; clear hK; go_simp; refine HKK.out _ _ ?_; clear HKK K)
    refine Go.Mix.mixT_last rfl (fun K hK => ?_)
    have HKK := Go.Lib.hid hK
    clear hK
    go_simp
    refine (HSET.out _ (Below.refl _ _).drew).mono ?_
    rintro e W5 ⟨⟨v5, rfl⟩, h5, k5⟩
    have kk5 := (KW.drew KK3.out).trans k5
    have hKD5 := k5.2 _ _ (show W3.drew.heap[D]? = _ from HKD3.out) (fun cs T fr e => by cases e) (fun _ => HDM.out)
    have H5W := Go.Lib.hid h5
    have KK5 := Go.Lib.hid kk5
    have HKD5 := Go.Lib.hid hKD5
    clear h5 kk5 hKD5
    clear k5
    go_simp
    refine HKK.out _ _ ?_
    clear HKK K c3
    gi_wp2_with fail
    refine ⟨by simp, .inl ⟨_, _, rfl, run_takeDeferred HKD5.out, ?_⟩⟩
    refine ⟨_, results_none rfl _ _ _, ⟨_, rfl⟩, ?_, ?_⟩
    · rw [HF2.out]
      exact (ownFrom_WS (β := Unit) (B := D) (fun _ => (setTwo B H.length ((B.length : Int) - (H.length : Int) - 2), M)) c (by have := HBM.out; omega) (by have := c.hb; have := HBASE.out; omega) (by have := HBASE.out; omega)).putObj (s := ()) _ H5W.out (Nat.le_refl _) HKD5.out rfl
    · have hkx : KW bm w W5 := (KW.of_below HBX0.out).trans KK5.out
      exact (ownFrom_KW (β := Unit) (B := D) (by have := HDW.out; omega)).putObj (s := ()) _ hkx (Nat.le_refl _) HKD5.out rfl
  case stop => exact fun _ _ _ _ _ _ h _ => h.elim
theorem put_ok {r : Rc.RR} (h : checkB r = true) : PutOk r := ⟨putN_st h, fun g bm base w0 w most st c hw hs hl => put_any r h g bm base w0 w most st c hw hs hl⟩
/-- Encode, whatever the message -/
theorem Encode_all (m : Msg) (q a s d : Value) (w : World) (hm : MsgL w m q a s d) (hs : MsgS m) : Calls Try.prog 16 #[MV m q a s d] w (EncEnd w (encN m)) :=
  Encode_any m q a s d w hm hs fun h x hx => put_ok ((checkM_parts h).2.2.2 x hx)
end Go.Proofs.Ythfhmbooeemaaaa

