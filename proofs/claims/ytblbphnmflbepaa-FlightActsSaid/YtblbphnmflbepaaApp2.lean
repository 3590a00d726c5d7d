/- 'append' of one row to a slice of the call's own: where the new slice lies (where the old one lay, or in new memory). Conditions: the lengths' sum is within what Go's growslice bears. -/
import Derived.Test.YtblbphnmflbepaaApp
import Derived.Test.YtblbphnmflbepaaOrdT
import Derived.Test.YtblbphnmflbepaaSeq
import Derived.ArgAppend
namespace Go.Proofs.Ytblbphnmflbepaa
open Go.RowKit

/-- where it lay, or in new memory -/
def SameOrNew (N : Nat) (v v' : Value) : Prop := v'.ownBlock = v.ownBlock ∨ ∃ g, v'.ownBlock = some g ∧ N ≤ g
theorem new_block {w : World} {base e sz n : Nat} {v : Value} {xs : List Value} (h : w.ownsRow base e sz v n xs) (hn : 0 < n) : ∃ g, v.ownBlock = some g ∧ base ≤ g := by
  rcases h.2 with ⟨rfl, h0⟩ | ⟨g, cap, cur, rfl, hb, _⟩
  · omega
  · exact ⟨g, rfl, hb⟩

theorem run_app2 {P : Program} {t e sz bytes : Nat} (ei : EI P t e sz bytes) (w : World) (ty base : Nat) {v : Value} {n m c : Nat} {a : Addr} {xs news : List Value} (hown : w.ownsRow base e sz v n xs)
    (hl : news.length = m * sz) (hc : ∀ j u, news[j]? = some u → w.cell? (a.add j) = some u) (h1 : ∀ u ∈ news, u.oneCell' = true) (hm : 0 < m) (h63 : n + m ≤ maxLen) (hbytes : (n + m) * bytes ≤ 140737488355328) (hbase : base ≤ w.heap.size) :
    ∃ v' w', (Builtin.append_ #[t, t] ty #[v, .slice (some a) m c]).run P w = .ok v' w' ∧ w'.ownsRow base e sz v' (n + m) (xs ++ news) ∧ w.grownBy w' v.ownBlock ∧ SameOrNew w.heap.size v v' := by
  obtain ⟨i, z, ht, hi, hz, hsz, hby, hzs, hpos⟩ := ei
  obtain ⟨v', w', hrun, ho, hg, _⟩ := run_append_own (P := P) w base t ty e i z sz bytes ht hi hz hsz hby hzs hpos v n xs hown a m c news hl hc h1 h63 hbytes hbase
  refine ⟨v', w', hrun, ho, hg, ?_⟩
  rcases hown.2 with ⟨rfl, rfl⟩ | ⟨g, cap, cur, rfl, hbg, hgh, hnc, hcm, hcs, htake⟩
  · have hx : xs = [] := List.eq_nil_of_length_eq_zero (by simpa using hown.1)
    subst hx
    obtain ⟨v2, w2, hrun2, ho2, _⟩ := run_append_own (P := P) w w.heap.size t ty e i z sz bytes ht hi hz hsz hby hzs hpos _ 0 [] (World.ownsRow_nil _ _ _ _) a m c news hl hc h1 h63 hbytes (Nat.le_refl _)
    have he := hrun.symm.trans hrun2
    simp only [Result.ok.injEq] at he
    obtain ⟨rfl, rfl⟩ := he
    obtain ⟨g, hg1, hg2⟩ := new_block ho2 (by omega)
    exact .inr ⟨g, hg1, hg2⟩
  · by_cases hroom : n + m ≤ cap
    · have hfit : n * i.size + news.length ≤ cur.size := by rw [hsz, hl, hcs, ← Nat.add_mul]; exact Nat.mul_le_mul_right _ hroom
      have hr := run_append_room (P := P) w t ty e i ht hi g n cap cur hgh a m c news (by rw [hsz]; exact hl) hc h1 hroom hfit
      have he := hrun.symm.trans hr
      simp only [Result.ok.injEq] at he
      obtain ⟨rfl, _⟩ := he
      exact .inl rfl
    · have holds : ∀ j u, xs[j]? = some u → w.cell? ((⟨g, 0, none⟩ : Addr).add j) = some u := hown.cells (g := g) rfl
      obtain ⟨v2, w2, hrun2, ho2, _⟩ := run_append_arg_grows (P := P) (w := w) t ty e i z sz bytes ht hi hz hsz hby hzs hpos ⟨g, 0, none⟩ n cap xs hown.1 holds a m c news hl hc (by omega) h63 hbytes
      have he := hrun.symm.trans hrun2
      simp only [Result.ok.injEq] at he
      obtain ⟨rfl, rfl⟩ := he
      obtain ⟨g2, hg1, hg2⟩ := new_block ho2 (by omega)
      exact .inr ⟨g2, hg1, hg2⟩

/-- one element, of a slice that was built just now, appended in a region whose order is open -/
theorem mixT_app1 {P : Program} {t e sz bytes : Nat} (ei : EI P t e sz bytes) {w : World} {ops : Array Oper} {rest : List Oper} {o : Oper} {a : Act} {Es : List Nat} {C : World → Prop} {Q : Act → World → Prop} {k tl : Nat} (s x : Operand)
    (hk : (Es.contains k && !(k == tl)) = true) (hgd : Region.wanted o (yielded ops a.tmps) = true)
    (ho : o.op = .call { callee := .builtin .append, args := #[s, x], argTypes := #[t, t] }) (base : Nat) {v : Value} {n c : Nat} {ad : Addr} {xs news : List Value} (hs : a.eval s = v) (hx : a.eval x = .slice (some ad) 1 c)
    (hown : w.ownsRow base e sz v n xs) (hl : news.length = sz) (hc : ∀ j u, news[j]? = some u → w.cell? (ad.add j) = some u) (h1 : ∀ u ∈ news, u.oneCell' = true) (h63 : n + 1 ≤ maxLen) (hbytes : (n + 1) * bytes ≤ 140737488355328) (hbase : base ≤ w.heap.size)
    (h : ∀ v' w', w'.ownsRow base e sz v' (n + 1) (xs ++ news) → w.grownBy w' v.ownBlock → SameOrNew w.heap.size v v' → C w' ∧ Go.Mix.MixT P ops (fun k => Es.contains k) C Q tl (k + 1) rest (a.put o.dst v') w') :
    Go.Mix.MixT P ops (fun k => Es.contains k) C Q tl k (o :: rest) a w :=
  Go.Mix.mixT_eff hk fun K hK => by
    rw [if_pos hgd]
    obtain ⟨v', w', hrun, ho1, hg1, hn1⟩ := run_app2 (c := c) ei w o.type base hown (by rw [Nat.one_mul]; exact hl) hc h1 (by omega) h63 hbytes hbase
    unfold Oper.wp execOp
    simp only [ho, resolve, invoke, builtin, Sem.run_bind, Sem.run_pure, Result.andThen_ok, List.map_toArray, List.map_cons, List.map_nil, hs, hx, hrun]
    exact hK _ _ (h v' w' ho1 hg1 hn1).1 (h v' w' ho1 hg1 hn1).2
end Go.Proofs.Ytblbphnmflbepaa

