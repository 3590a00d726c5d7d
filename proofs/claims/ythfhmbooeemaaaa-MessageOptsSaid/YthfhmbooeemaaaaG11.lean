/- Merged texts of the seat, in their order: Opt. -/
import Derived.Test.YthfhmbooeemaaaaG8
import Derived.Lib.AppendStr
/- Message: EDNS: one message with it, its bytes, and bytes that were changed. And 'append' of a text's bytes, in a walk and in a region whose order is open. -/
namespace Go.Proofs.Ythfhmbooeemaaaa
open Go.RowKit Go.Lib
set_option maxRecDepth 100000
set_option linter.unusedVariables false

/-! ### EDNS -/
def oM (z : Int) : Msg := ⟨5, false, 0, false, false, true, false, 0, [⟨[1, 97, 0], 1, 1⟩], [], [], [], true, z⟩
/-- the first nineteen bytes, with the counts of records -/
def o19 (a s d : UInt8) : List UInt8 := [0, 5, 1, 0, 0, 1, 0, a, 0, s, 0, d, 1, 97, 0, 0, 1, 0, 1]
def oOpt (x y : UInt8) : List UInt8 := [0, 0, 41, x, y, 0, 0, 0, 0, 0, 0]
theorem oM_check (z : Int) (hz : 0 ≤ z ∧ z ≤ 65535) : checkM (oM z) = true := by
  unfold checkM headOk
  have hq : (oM z).qs.all qOk = true := by
    show [(⟨[1, 97, 0], 1, 1⟩ : Qn)].all qOk = true
    decide +kernel
  have hs : withinN (oM z).size 65535 = true := by unfold withinN oM; simp; omega
  rw [hq, hs]
  rfl
theorem oM_bytes (z : Int) : bytesM (oM z) = o19 0 0 1 ++ oOpt (byteOf z 256) (byteOf z 1) := by
  have hq : qsS [⟨[1, 97, 0], 1, 1⟩] 12 [] = ([1, 97, 0, 0, 1, 0, 1], [([1, 97, 0], 12)]) := by
    have h : Nm.labs [1, 97, 0] = [[97]] := by decide +kernel
    simp only [qsS, qS, h, nameS]
    rfl
  have hf : flagsN (oM z) = 256 := by
    show flagsN (oM 0) = 256
    decide +kernel
  unfold bytesM
  show hdrB (oM z) ++ (qsS [⟨[1, 97, 0], 1, 1⟩] 12 []).1 ++ [] ++ optB (oM z) = _
  rw [hq]
  unfold hdrB hdrV
  rw [hf]
  kernel_rfl
theorem oM_enc (z : Int) (hz : 0 ≤ z ∧ z ≤ 65535) : encN (oM z) = (o19 0 0 1 ++ oOpt (byteOf z 256) (byteOf z 1), 0) := by
  unfold encN
  rw [oM_check z hz, if_pos rfl, endW_bytes, oM_bytes]
  rfl
theorem dec0 (x y : UInt8) : (decN (o19 0 0 2 ++ oOpt x y ++ oOpt x y)).2 = (true, 2) := by kernel_rfl
theorem dec1 (x y : UInt8) : (decN (o19 1 0 0 ++ oOpt x y)).2 = (true, 2) := by kernel_rfl
theorem dec2 (x y : UInt8) : (decN (o19 0 1 0 ++ oOpt x y)).2 = (true, 2) := by kernel_rfl
theorem dec3 (x y : UInt8) : (decN (o19 0 0 1 ++ [1, 98] ++ oOpt x y)).2 = (true, 2) := by kernel_rfl
theorem dec4 (x y : UInt8) : decN (o19 0 0 1 ++ [0, 0, 41, x, y, 9, 9, 9, 9, 0, 4, 97, 98, 99, 100]) = (oM ((x.toNat * 256 + y.toNat : Nat) : Int), true, 0) := by kernel_rfl
theorem oM_S (z : Int) : MsgS (oM z) := by
  refine ⟨by show 1 ≤ _; decide, Nat.zero_le _, Nat.zero_le _, Nat.zero_le _, fun x hx => ?_, fun x hx => ?_⟩
  · obtain rfl := List.mem_singleton.1 hx
    show 3 ≤ maxLen
    decide
  · simp [oM, allR, baseS, secL] at hx

/-! ### a text's bytes appended -/
theorem strCells_mk (l : List UInt8) : strCells (mk l) = encB l := rfl
theorem u8_info : ∃ i, Try.prog.info? 5 = some i ∧ i.zero = some (.int .u8 0) ∧ i.size = 1 ∧ i.bytes = 1 := by
  obtain ⟨i, h0, h1, h2, h3⟩ := info_parts (P := Try.prog) (e := 5) (show (Try.prog.info? 5).map (fun i => (i.zero, i.size, i.bytes)) = some (some (.int .u8 0), 1, 1) by kernel_rfl)
  exact ⟨i, h0, h1, h2, h3⟩
theorem wp_app_str {w : World} {o : Oper} {a : Act} {K : Act → World → Prop} {Q : Exit → Act → World → Prop} (s x : Operand)
    (ho : o.op = .call { callee := .builtin .append, args := #[s, x], argTypes := #[22, 9] }) (base : Nat) {v : Value} {n : Nat} {xs : List Value} {l : List UInt8} (hs : a.eval s = v) (hx : a.eval x = .string (mk l))
    (hown : w.ownsRow base 5 1 v n xs) (hm : n + l.length ≤ 140737488355328) (hbase : base ≤ w.heap.size)
    (h : ∀ v' w', w'.ownsRow base 5 1 v' (n + l.length) (xs ++ encB l) → w.grownBy w' v.ownBlock → K (a.put o.dst v') w') : o.wp Try.prog a w K Q := by
  obtain ⟨i, h0, h1, h2, h3⟩ := u8_info
  have hsz := size_mk l
  obtain ⟨v', w', hr, g1, g2, _⟩ := run_append_own_string (P := Try.prog) (w := w) base 22 9 o.type 5 i Try.underlying22 Try.underlying9 h0 h1 h2 h3 v n xs hown (mk l) (by rw [hsz]; unfold maxLen; omega) (by rw [hsz]; omega) hbase
  rw [hsz, strCells_mk] at g1
  unfold Oper.wp execOp
  simp only [ho, resolve, invoke, builtin, Sem.run_bind, Sem.run_pure, Result.andThen_ok, List.map_toArray, List.map_cons, List.map_nil, hs, hx, hr]
  exact h v' w' g1 g2
theorem wpList_app_str {w : World} {ops : Array Oper} {rest : List Oper} {o : Oper} {a : Act} {Q : Exit → Act → World → Prop} (s x : Operand)
    (hgd : Region.wanted o (yielded ops a.tmps) = true)
    (ho : o.op = .call { callee := .builtin .append, args := #[s, x], argTypes := #[22, 9] }) (base : Nat) {v : Value} {n : Nat} {xs : List Value} (l : List UInt8) (hs : a.eval s = v) (hx : a.eval x = .string (mk l))
    (hown : w.ownsRow base 5 1 v n xs) (hm : n + l.length ≤ 140737488355328) (hbase : base ≤ w.heap.size)
    (h : ∀ v' w', w'.ownsRow base 5 1 v' (n + l.length) (xs ++ encB l) → w.grownBy w' v.ownBlock → wpList Try.prog ops Q rest (a.put o.dst v') w') : wpList Try.prog ops Q (o :: rest) a w :=
  wpList_step fun K hK => by
    rw [if_pos hgd]
    exact wp_app_str s x ho base hs hx hown hm hbase fun v' w' h2 h3 => hK _ _ (h v' w' h2 h3)
theorem mix_app_str {w : World} {ops : Array Oper} {rest : List Oper} {o : Oper} {a : Act} {Es : List Nat} {C : World → Prop} {Q : Act → World → Prop} {k : Nat} (s x : Operand)
    (hk : Es.contains k = true) (hgd : Region.wanted o (yielded ops a.tmps) = true)
    (ho : o.op = .call { callee := .builtin .append, args := #[s, x], argTypes := #[22, 9] }) (base : Nat) {v : Value} {n : Nat} {xs : List Value} (l : List UInt8) (hs : a.eval s = v) (hx : a.eval x = .string (mk l))
    (hown : w.ownsRow base 5 1 v n xs) (hm : n + l.length ≤ 140737488355328) (hbase : base ≤ w.heap.size)
    (h : ∀ v' w', w'.ownsRow base 5 1 v' (n + l.length) (xs ++ encB l) → w.grownBy w' v.ownBlock → C w' ∧ Go.Mix.MixG Try.prog ops (fun k => Es.contains k) C Q (k + 1) rest (a.put o.dst v') w') :
    Go.Mix.MixG Try.prog ops (fun k => Es.contains k) C Q k (o :: rest) a w :=
  Go.Mix.mix_eff hk fun K hK => by
    rw [if_pos hgd]
    exact wp_app_str s x ho base hs hx hown hm hbase fun v' w' h2 h3 => hK _ _ (h v' w' h2 h3).1 (h v' w' h2 h3).2
/-- the first of bytes -/
theorem Byts.front {w : World} {a : Option Addr} {n cap k : Nat} {l : List UInt8} (h : Byts w (.slice a n cap) l) (hk : k ≤ l.length) : Byts w (.slice a k cap) (l.take k) := by
  obtain ⟨h1, a', cap', e, h2, h3, h4, h5⟩ := h
  simp only [Value.slice.injEq] at e
  obtain ⟨rfl, rfl, rfl⟩ := e
  have hl : (l.take k).length = k := by rw [List.length_take]; omega
  refine ⟨by simp, a, cap, by rw [hl], by omega, h3, h4, ?_⟩
  rw [hl]
  by_cases h0 : k = 0
  · exact .inl h0
  · rcases h5 with h5 | ⟨b, off, rfl, h6, h7⟩
    · omega
    · refine .inr ⟨b, off, rfl, h6, fun j hj => ?_⟩
      rw [h7 j (by omega)]
      simp only [List.getElem?_map, List.getElem?_take]
      rw [if_pos (by omega)]
/-- the rest of bytes -/
theorem Byts.rest {w : World} {b off n cap k : Nat} {l : List UInt8} (h : Byts w (.slice (some ⟨b, off, none⟩) n cap) l) (hk : k < l.length) : Byts w (.slice (some ⟨b, off + k, none⟩) (n - k) (cap - k)) (l.drop k) := by
  obtain ⟨h1, a', cap', e, h2, h3, h4, h5⟩ := h
  simp only [Value.slice.injEq] at e
  obtain ⟨rfl, rfl, rfl⟩ := e
  have hl : (l.drop k).length = l.length - k := List.length_drop
  refine ⟨by simp, some ⟨b, off + k, none⟩, cap - k, by rw [hl], by omega, by omega, (fun h => by cases h), ?_⟩
  rw [hl]
  rcases h5 with h5 | ⟨b', off', e, h6, h7⟩
  · omega
  · simp only [Option.some.injEq, Addr.mk.injEq, and_true] at e
    obtain ⟨rfl, rfl⟩ := e
    refine .inr ⟨b, off + k, rfl, h6, fun j hj => ?_⟩
    have := h7 (k + j) (by omega)
    rw [show off + k + j = off + (k + j) by omega, this]
    simp only [List.getElem?_map, List.getElem?_drop]
/-- a byte stored into bytes of one's own -/
theorem stB {w : World} {base g n cap : Nat} {l : List UInt8} (h : w.ownsRow base 5 1 (.slice (some ⟨g, 0, none⟩) n cap) n (encB l)) (i : Nat) (x : UInt8) {v : Int} (hv : v = (x.toNat : Int)) : (w.setCell ⟨g, i, none⟩ (.int .u8 v)).ownsRow base 5 1 (.slice (some ⟨g, 0, none⟩) n cap) n (encB (l.set i x)) := by
  rw [encB_set, ← hv]
  exact (h.stored i (.int .u8 v)).1
theorem cellB {w : World} {base g n cap : Nat} {l : List UInt8} (h : w.ownsRow base 5 1 (.slice (some ⟨g, 0, none⟩) n cap) n (encB l)) (i : Nat) (hi : i < n) : w.cell? ⟨g, i, none⟩ = some (.int .u8 ((l.getD i 0).toNat : Int)) := by
  have h1 : l.length = n := by have := h.1; unfold encB at this; simpa using this
  rw [h.cellAt i (by omega)]
  unfold encB
  rw [List.getElem?_map, List.getElem?_eq_getElem (by omega), List.getD_eq_getElem?_getD, List.getElem?_eq_getElem (by omega)]
  rfl
end Go.Proofs.Ythfhmbooeemaaaa

