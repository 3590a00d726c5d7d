/- Three lists that grow side by side: records, keys, counts. -/
import Derived.Test.YtcamopppeanipaaMgH
import Derived.Test.YtcamopppeanipaaStr
namespace Go.Proofs.Ytcamopppeanipaa
open Go.RowKit
set_option linter.unusedVariables false

theorem size_one (c : UInt8) : (mk [c]).size = 1 := rfl
theorem cat_mk (a b : List UInt8) : mk a ++ mk b = mk (a ++ b) := by apply bl_inj; rw [bl_append, bl_mk, bl_mk, bl_mk]
theorem run_conv_new (w : World) (n : Nat) (cs : List Value) (l : List UInt8) (hn : cs.length = n) (h : cs = l.map fun b => .int .u8 b.toNat) (hm : n ≤ maxLen) :
    (convert 55 9 (.slice (some ⟨w.heap.size, 0, none⟩) n n)).run Try.prog (w.alloc (.cells cs.toArray 5)) = .ok (.string (mk l)) (w.alloc (.cells cs.toArray 5)) := by
  have hl : l.length = n := by rw [← hn, h]; simp
  refine run_conv_string ?_
  unfold Byts
  rw [hl, ← h]
  exact slc_new w 1 n _ cs (by rw [hn]; simp) hm
theorem infoI : (Try.prog.info? 3).map (fun i => (i.zero, i.size, i.bytes)) = some (some (.int .i64 0), 1, 8) := by kernel_rfl
theorem eiI : EI Try.prog 53 3 1 8 := ei_of Try.underlying53 infoI rfl (by decide)
theorem infoK : (Try.prog.info? 45).map (fun i => (i.zero, i.size, i.bytes)) = some (some (.agg #[.string ⟨#[]⟩, .int .i64 0]), 2, 24) := by kernel_rfl
theorem eiK : EI Try.prog 54 45 2 24 := ei_of Try.underlying54 infoK rfl (by decide)

def Tri (W : World) (B : Nat) (v5 v6 v7 : Value) (L : List Rc.RR) (K C : List Gr) : Prop :=
  W.ownsRow B 49 5 v5 L.length (encR L) ∧ W.ownsRow B 45 2 v6 K.length (encK K) ∧ W.ownsRow B 3 1 v7 C.length (encC C)
theorem Tri.nil (W : World) (B : Nat) : Tri W B (.slice none 0 0) (.slice none 0 0) (.slice none 0 0) [] [] [] := ⟨World.ownsRow_nil _ _ _ _, World.ownsRow_nil _ _ _ _, World.ownsRow_nil _ _ _ _⟩
theorem Tri.alloc {W : World} {B : Nat} {v5 v6 v7 : Value} {L : List Rc.RR} {K C : List Gr} (h : Tri W B v5 v6 v7 L K C) (o : Obj) : Tri (W.alloc o) B v5 v6 v7 L K C := ⟨h.1.alloc o, h.2.1.alloc o, h.2.2.alloc o⟩
theorem Tri.below {W W' : World} {B : Nat} {v5 v6 v7 : Value} {L : List Rc.RR} {K C : List Gr} (h : Tri W B v5 v6 v7 L K C) (hb : Below W.heap.size W W') : Tri W' B v5 v6 v7 L K C := ⟨owns_below h.1 hb, owns_below h.2.1 hb, owns_below h.2.2 hb⟩
theorem Tri.app5 {W W' : World} {B : Nat} {v5 v6 v7 v' : Value} {L : List Rc.RR} {K C : List Gr} {tmp : Obj} (h : Tri W B v5 v6 v7 L K C) (r : Rc.RR) (hown : W'.ownsRow B 49 5 v' (L.length + 1) (encR L ++ [.string (mk r.name), .int .i64 r.ty, .int .i64 r.cl, .int .i64 r.ttl, .string (mk r.data)])) (hg : (W.alloc tmp).grownBy W' v5.ownBlock) : Tri W' B v' v6 v7 (L ++ [r]) K C :=
  ⟨by rw [List.length_append, encR_snoc]; exact hown, (h.2.1.alloc tmp).kept hg (rows_apart h.2.1 h.1 (by decide)), (h.2.2.alloc tmp).kept hg (rows_apart h.2.2 h.1 (by decide))⟩
theorem Tri.app6 {W W' : World} {B : Nat} {v5 v6 v7 v' : Value} {L : List Rc.RR} {K C : List Gr} {tmp : Obj} (h : Tri W B v5 v6 v7 L K C) (g : Gr) (hown : W'.ownsRow B 45 2 v' (K.length + 1) (encK K ++ [.string (mk g.name), .int .i64 g.ty])) (hg : (W.alloc tmp).grownBy W' v6.ownBlock) : Tri W' B v5 v' v7 L (K ++ [g]) C :=
  ⟨(h.1.alloc tmp).kept hg (rows_apart h.1 h.2.1 (by decide)), by rw [List.length_append, encK_snoc]; exact hown, (h.2.2.alloc tmp).kept hg (rows_apart h.2.2 h.2.1 (by decide))⟩
theorem Tri.app7 {W W' : World} {B : Nat} {v5 v6 v7 v' : Value} {L : List Rc.RR} {K C : List Gr} {tmp : Obj} (h : Tri W B v5 v6 v7 L K C) (g : Gr) (hown : W'.ownsRow B 3 1 v' (C.length + 1) (encC C ++ [.int .i64 g.l.length])) (hg : (W.alloc tmp).grownBy W' v7.ownBlock) : Tri W' B v5 v6 v' L K (C ++ [g]) :=
  ⟨(h.1.alloc tmp).kept hg (rows_apart h.1 h.2.2 (by decide)), (h.2.1.alloc tmp).kept hg (rows_apart h.2.1 h.2.2 (by decide)), by rw [List.length_append, encC_snoc]; exact hown⟩
theorem Tri.put {W : World} {B b n c : Nat} {v5 v6 : Value} {L : List Rc.RR} {K C : List Gr} (h : Tri W B v5 v6 (.slice (some ⟨b, 0, none⟩) n c) L K C) (q : Nat) (g : Gr) (x : Int) (hx : x = g.l.length) : Tri (W.setCell ⟨b, q, none⟩ (.int .i64 x)) B v5 v6 (.slice (some ⟨b, 0, none⟩) n c) L K (C.set q g) := by
  subst hx
  have hn : n = C.length := ((SlC.of_owns h.2.2).cap).1
  subst hn
  obtain ⟨s1, s2⟩ := h.2.2.stored q (.int .i64 g.l.length)
  refine ⟨h.1.kept s2 (rows_apart h.1 h.2.2 (by decide)), h.2.1.kept s2 (rows_apart h.2.1 h.2.2 (by decide)), ?_⟩
  rw [List.length_set, encC_set]
  exact s1
theorem Tri.keys {W : World} {B : Nat} {v5 v6 v7 : Value} {L : List Rc.RR} {K K' C : List Gr} (h : Tri W B v5 v6 v7 L K C) (h1 : encK K' = encK K) (h2 : K'.length = K.length) : Tri W B v5 v6 v7 L K' C :=
  ⟨h.1, by rw [h1, h2]; exact h.2.1, h.2.2⟩
theorem list_le {gs : List Gr} {q : Nat} (h : q < gs.length) : (gs.getD q g0).l.length ≤ sumG gs := by
  have h1 := sumG_take h
  have h2 := sumG_take_le gs (q + 1)
  omega
theorem one_key (n : List UInt8) (t : Int) : ∀ u ∈ [Value.string (mk n), .int .i64 t], u.oneCell' = true := by
  intro u hu
  simp at hu
  rcases hu with rfl | rfl <;> rfl
theorem one_int (t : Int) : ∀ u ∈ [Value.int .i64 t], u.oneCell' = true := by
  intro u hu
  simp at hu
  subst hu
  rfl
/-- the count's cell -/
theorem Tri.c_at {W : World} {B n c : Nat} {a : Option Addr} {v5 v6 : Value} {L : List Rc.RR} {K C : List Gr} (h : Tri W B v5 v6 (.slice a n c) L K C) {q : Nat} (hq : q < C.length) :
    n = C.length ∧ ∃ b cur, a = some ⟨b, 0, none⟩ ∧ B ≤ b ∧ W.heap[b]? = some (.cells cur 3 (0, 0)) ∧ W.cell? ⟨b, q, none⟩ = some (.int .i64 (C.getD q g0).l.length) := by
  have hs := SlC.of_owns h.2.2
  obtain ⟨hm, b, off, ha, _, hc⟩ := SlC.at hs (by omega)
  obtain ⟨h1, h2⟩ := h.2.2
  rcases h2 with ⟨hv, h0⟩ | ⟨g, cap', cur, hv, hb, hg, _⟩
  · simp only [Value.slice.injEq] at hv
    omega
  · simp only [Value.slice.injEq] at hv
    obtain ⟨hv1, _, _⟩ := hv
    rw [hv1] at ha
    simp only [Option.some.injEq, Addr.mk.injEq] at ha
    obtain ⟨rfl, rfl, _⟩ := ha
    refine ⟨hm, g, cur, hv1, hb, hg, ?_⟩
    have := hc q (by omega)
    rw [Nat.zero_add] at this
    rw [this, encC_get C q hq]
theorem Tri.k_at {W : World} {B n c : Nat} {a : Option Addr} {v5 v7 : Value} {L : List Rc.RR} {K C : List Gr} (h : Tri W B v5 (.slice a n c) v7 L K C) {q : Nat} (hq : q < K.length) :
    n = K.length ∧ ∃ b, a = some ⟨b, 0, none⟩ ∧ b < W.heap.size ∧ W.cell? ⟨b, q * 2, none⟩ = some (.string (mk (K.getD q g0).name)) ∧ W.cell? ⟨b, q * 2 + 1, none⟩ = some (.int .i64 (K.getD q g0).ty) := by
  obtain ⟨hm, b, off, ha, hl, hc⟩ := SlC.at (SlC.of_owns h.2.1) (by omega)
  obtain ⟨h1, h2⟩ := h.2.1
  rcases h2 with ⟨hv, h0⟩ | ⟨g, cap', cur, hv, hb, hg, _⟩
  · simp only [Value.slice.injEq] at hv
    omega
  · simp only [Value.slice.injEq] at hv
    obtain ⟨hv1, _, _⟩ := hv
    rw [hv1] at ha
    simp only [Option.some.injEq, Addr.mk.injEq] at ha
    obtain ⟨rfl, rfl, _⟩ := ha
    obtain ⟨e0, e1⟩ := encK_get K q hq
    refine ⟨hm, g, hv1, hl, ?_, ?_⟩
    · have := hc (q * 2) (by omega); rw [Nat.zero_add] at this; rw [this, e0]
    · have := hc (q * 2 + 1) (by omega); rw [Nat.zero_add] at this; rw [this, e1]
end Go.Proofs.Ytcamopppeanipaa

