/- Merged texts of the seat, in their order: TrLd. -/
import Derived.Test.YtkpcmnckdappnaaGreatG9
/- Tree: the plain law of TreeLeads. -/
namespace Go.Proofs.YtkpcmnckdappnaaGreat
open Go.Lib Go.Sort Go.RowKit
set_option maxRecDepth 100000
set_option linter.unusedVariables false

theorem leads_all : ∀ k, k < 4 → ∀ a, a < 12 → ∀ b, b < 9 → goodG (zonesZ k) (askN12.getD a []) (askT9.getD b 0) 6 [0] = true := by decide +kernel
theorem goodG_auth {T : List Zp} {n zone : List UInt8} {t : Int} {f : Nat} (h : goodG T n t (f + 1) zone = true) (ha : (serveP T zone n t).auth = true) : bestP T n = (zone, true) ∧ ((lookP T n t).1 = 2 ∨ ((serveP T zone n t).an.length ≤ (lookP T n t).2.length ∧ (serveP T zone n t).an = (lookP T n t).2.take (serveP T zone n t).an.length ∧
    ((serveP T zone n t).code = (lookP T n t).1 ∨ (serveP T zone n t).code = 0))) := by
  unfold goodG at h
  simp only [ha, if_true, Bool.and_eq_true, Bool.or_eq_true, decide_eq_true_eq] at h
  obtain ⟨h1, h2, h3⟩ := h
  refine ⟨?_, h3⟩
  rw [← h1, ← h2]
theorem goodG_ref {T : List Zp} {n zone : List UInt8} {t : Int} {f : Nat} (h : goodG T n t (f + 1) zone = true) (ha : (serveP T zone n t).auth = false) : (serveP T zone n t).code = 0 ∧ 0 < (serveP T zone n t).sv.length ∧ (serveP T zone n t).an.length = 0 ∧
    Nm.underN ((serveP T zone n t).sv.getD 0 rZ).name zone = true ∧ Nm.sameN ((serveP T zone n t).sv.getD 0 rZ).name zone = false ∧ Nm.underN n ((serveP T zone n t).sv.getD 0 rZ).name = true ∧ goodG T n t f (Nm.foldN ((serveP T zone n t).sv.getD 0 rZ).name) = true := by
  unfold goodG at h
  simp only [ha, Bool.false_eq_true, if_false, Bool.and_eq_true, decide_eq_true_eq, Bool.not_eq_true'] at h
  exact h
theorem goodG_0 {T : List Zp} {n zone : List UInt8} {t : Int} : goodG T n t 0 zone = false := rfl
theorem under_len {a b : List UInt8} (h : Nm.underN a b = true) : a.length ≤ 255 := by
  unfold Nm.underN at h
  simp only [Bool.and_eq_true] at h
  obtain ⟨ls, _, _, hl⟩ := Nm.valid_iff.1 h.1.1
  exact hl
theorem RRs_take {w : World} {a : Option Addr} {c k : Nat} {L : List Rc.RR} (h : RRs w (.slice a L.length c) L) (hk : k ≤ L.length) : RRs w (.slice a k c) (L.take k) := by
  have hlt : (L.take k).length = k := by rw [List.length_take]; omega
  have he : encR L = encR (L.take k) ++ encR (L.drop k) := by unfold encR; rw [← List.flatMap_append, List.take_append_drop]
  obtain ⟨hl, a', cap, hv, h1, h2, hz, hc⟩ := h
  simp only [Value.slice.injEq] at hv
  obtain ⟨rfl, _, rfl⟩ := hv
  have hel : (encR (L.take k)).length = (L.take k).length * 5 := encR_length _
  refine ⟨hel, a, c, by rw [hlt], by omega, h2, hz, ?_⟩
  rcases hc with hc | ⟨b, off, ha, hb, hc⟩
  · exact .inl (by omega)
  · by_cases h0 : (L.take k).length = 0
    · exact .inl h0
    · refine .inr ⟨b, off, ha, hb, fun j hj => ?_⟩
      rw [hc j (by omega), he, List.getElem?_append_left (by omega)]
end Go.Proofs.YtkpcmnckdappnaaGreat

