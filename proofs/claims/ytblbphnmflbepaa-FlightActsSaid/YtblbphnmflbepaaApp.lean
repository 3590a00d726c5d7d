/- 'append' to a slice of the call's own, from whatever slice: as a law for a walk, and for a region whose order is open. Conditions: the lengths' sum is within what Go's growslice bears. -/
import Derived.Test.YtblbphnmflbepaaKit
import Derived.Laws.AppendOwnNone
namespace Go.Proofs.Ytblbphnmflbepaa
open Go.RowKit

/-- a slice type, its element type, cells and bytes -/
def EI (P : Program) (t e sz bytes : Nat) : Prop :=
  ∃ i z, P.underlying t = some (.slice e) ∧ P.info? e = some i ∧ i.zero = some z ∧ i.size = sz ∧ i.bytes = bytes ∧ z.cells.size = sz ∧ 0 < sz

theorem ei_of {P : Program} {t e : Nat} {z : Value} {sz bytes : Nat} (ht : P.underlying t = some (.slice e)) (h : (P.info? e).map (fun i => (i.zero, i.size, i.bytes)) = some (some z, sz, bytes))
    (hz : z.cells.size = sz) (hs : 0 < sz) : EI P t e sz bytes := by
  obtain ⟨i, h0, h1, h2, h3⟩ := info_parts h
  exact ⟨i, z, ht, h0, h1, h2, h3, hz, hs⟩

theorem run_app {P : Program} {t e sz bytes : Nat} (ei : EI P t e sz bytes) (w : World) (ty base : Nat) {v src : Value} {n m : Nat} {xs news : List Value} (hown : w.ownsRow base e sz v n xs)
    (hsrc : SlC w sz src m news) (h1 : ∀ u ∈ news, u.oneCell' = true) (h63 : n + m ≤ maxLen) (hbytes : (n + m) * bytes ≤ 140737488355328) (hbase : base ≤ w.heap.size) :
    ∃ v' w', (Builtin.append_ #[t, t] ty #[v, src]).run P w = .ok v' w' ∧ w'.ownsRow base e sz v' (n + m) (xs ++ news) ∧ w.grownBy w' v.ownBlock := by
  obtain ⟨i, z, ht, hi, hz, hsz, hby, hzs, hpos⟩ := ei
  obtain ⟨hl, a, cap, rfl, hm, hcm, hz0, hc⟩ := hsrc
  cases a with
  | none =>
    rcases hc with rfl | ⟨b, off, hno, _⟩
    · have hn : news = [] := List.eq_nil_of_length_eq_zero (by simpa using hl)
      subst hn
      obtain rfl := hz0 rfl
      have hrun := run_append_owned_none (P := P) (w := w) base t ty e i sz ht hi v n xs hown
      exact ⟨v, w, hrun, by simpa using hown, ⟨rfl, rfl, rfl, Nat.le_refl _, fun _ _ _ => rfl⟩⟩
    · cases hno
  | some x =>
    have hnews : ∀ j u, news[j]? = some u → w.cell? (x.add j) = some u := by
      intro j u hu
      have hj : j < news.length := (List.getElem?_eq_some_iff.1 hu).1
      rcases hc with rfl | ⟨b, off, hx, _, hcell⟩
      · simp at hl
        rw [hl] at hj
        simp at hj
      · simp only [Option.some.injEq] at hx
        subst hx
        rw [Addr.add_lit, hcell j (by omega)]
        exact hu
    obtain ⟨v', w', hr, h2, h3, _⟩ := run_append_own (P := P) w base t ty e i z sz bytes ht hi hz hsz hby hzs hpos v n xs hown x m cap news hl hnews h1 h63 hbytes hbase
    exact ⟨v', w', hr, h2, h3⟩

theorem wp_app {P : Program} {t e sz bytes : Nat} (ei : EI P t e sz bytes) {w : World} {o : Oper} {a : Act} {K : Act → World → Prop} {Q : Exit → Act → World → Prop} (s x : Operand)
    (ho : o.op = .call { callee := .builtin .append, args := #[s, x], argTypes := #[t, t] }) (base : Nat) {v src : Value} {n m : Nat} {xs news : List Value} (hs : a.eval s = v) (hx : a.eval x = src)
    (hown : w.ownsRow base e sz v n xs) (hsrc : SlC w sz src m news) (h1 : ∀ u ∈ news, u.oneCell' = true) (h63 : n + m ≤ maxLen) (hbytes : (n + m) * bytes ≤ 140737488355328) (hbase : base ≤ w.heap.size)
    (h : ∀ v' w', w'.ownsRow base e sz v' (n + m) (xs ++ news) → w.grownBy w' v.ownBlock → K (a.put o.dst v') w') : o.wp P a w K Q := by
  obtain ⟨v', w', hr, h2, h3⟩ := run_app ei w o.type base hown hsrc h1 h63 hbytes hbase
  unfold Oper.wp execOp
  simp only [ho, resolve, invoke, builtin, Sem.run_bind, Sem.run_pure, Result.andThen_ok, List.map_toArray, List.map_cons, List.map_nil, hs, hx, hr]
  exact h v' w' h2 h3

theorem wpList_app {P : Program} {t e sz bytes : Nat} (ei : EI P t e sz bytes) {w : World} {ops : Array Oper} {rest : List Oper} {o : Oper} {a : Act} {Q : Exit → Act → World → Prop} (s x : Operand)
    (hgd : Region.wanted o (yielded ops a.tmps) = true)
    (ho : o.op = .call { callee := .builtin .append, args := #[s, x], argTypes := #[t, t] }) (base : Nat) {v src : Value} {n m : Nat} {xs news : List Value} (hs : a.eval s = v) (hx : a.eval x = src)
    (hown : w.ownsRow base e sz v n xs) (hsrc : SlC w sz src m news) (h1 : ∀ u ∈ news, u.oneCell' = true) (h63 : n + m ≤ maxLen) (hbytes : (n + m) * bytes ≤ 140737488355328) (hbase : base ≤ w.heap.size)
    (h : ∀ v' w', w'.ownsRow base e sz v' (n + m) (xs ++ news) → w.grownBy w' v.ownBlock → wpList P ops Q rest (a.put o.dst v') w') : wpList P ops Q (o :: rest) a w :=
  wpList_step fun K hK => by
    rw [if_pos hgd]
    exact wp_app ei s x ho base hs hx hown hsrc h1 h63 hbytes hbase fun v' w' h2 h3 => hK _ _ (h v' w' h2 h3)

theorem mix_app {P : Program} {t e sz bytes : Nat} (ei : EI P t e sz bytes) {w : World} {ops : Array Oper} {rest : List Oper} {o : Oper} {a : Act} {Es : List Nat} {C : World → Prop} {Q : Act → World → Prop} {k : Nat} (s x : Operand)
    (hk : Es.contains k = true) (hgd : Region.wanted o (yielded ops a.tmps) = true)
    (ho : o.op = .call { callee := .builtin .append, args := #[s, x], argTypes := #[t, t] }) (base : Nat) {v src : Value} {n m : Nat} {xs news : List Value} (hs : a.eval s = v) (hx : a.eval x = src)
    (hown : w.ownsRow base e sz v n xs) (hsrc : SlC w sz src m news) (h1 : ∀ u ∈ news, u.oneCell' = true) (h63 : n + m ≤ maxLen) (hbytes : (n + m) * bytes ≤ 140737488355328) (hbase : base ≤ w.heap.size)
    (h : ∀ v' w', w'.ownsRow base e sz v' (n + m) (xs ++ news) → w.grownBy w' v.ownBlock → C w' ∧ Go.Mix.MixG P ops (fun k => Es.contains k) C Q (k + 1) rest (a.put o.dst v') w') :
    Go.Mix.MixG P ops (fun k => Es.contains k) C Q k (o :: rest) a w :=
  Go.Mix.mix_eff hk fun K hK => by
    rw [if_pos hgd]
    exact wp_app ei s x ho base hs hx hown hsrc h1 h63 hbytes hbase fun v' w' h2 h3 => hK _ _ (h v' w' h2 h3).1 (h v' w' h2 h3).2

theorem one_ints (k : IntKind) (l : List Int) : ∀ u ∈ (l.map fun n => Value.int k n), u.oneCell' = true := by
  intro u hu
  obtain ⟨n, _, rfl⟩ := List.mem_map.1 hu
  rfl
theorem one_byts (l : List UInt8) : ∀ u ∈ (l.map fun n => Value.int .u8 n.toNat), u.oneCell' = true := by
  intro u hu
  obtain ⟨n, _, rfl⟩ := List.mem_map.1 hu
  rfl
theorem one_strs (l : List (List UInt8)) : ∀ u ∈ (l.map fun n => Value.string (mk n)), u.oneCell' = true := by
  intro u hu
  obtain ⟨n, _, rfl⟩ := List.mem_map.1 hu
  rfl

/-- an empty slice that was built just now, or nil -/
theorem owns_empty (w : World) (base e sz : Nat) (hb : base ≤ w.heap.size) : (w.alloc (.cells #[] e)).ownsRow base e sz (.slice (some ⟨w.heap.size, 0, none⟩) 0 0) 0 [] :=
  World.ownsRow_made w #[] 0 hb (Nat.zero_le _) (by simp)

/-- Below, behind an append to a slice of the call's own -/
theorem below_app {B : Nat} {w0 w w' : World} {base e sz n : Nat} {v : Value} {xs : List Value} (hb : Below B w0 w) (hown : w.ownsRow base e sz v n xs) (hg : w.grownBy w' v.ownBlock) (hB : B ≤ base) (hs : B ≤ w.heap.size) : Below B w0 w' :=
  hb.grown hg hs fun k e => by have := (hown.lt k e).1; omega
end Go.Proofs.Ytblbphnmflbepaa
