/- Merged texts of the seat, in their order: RdH, RdI, RdJ, RdK, WrA. -/
import Derived.Test.YthfhmbooeemaaaaG2
import Derived.Test.YthfhmbooeemaaaaG3
import Derived.Test.YthfhmbooeemaaaaG4
import Derived.Deep.Cut
import Derived.Maps.OwnSet
import Derived.Maps.OwnOps
/- Message: the reader: a section. -/
namespace Go.Proofs.Ythfhmbooeemaaaa
open Go.RowKit Go.Shelf
set_option maxRecDepth 100000
set_option linter.unusedVariables false

theorem rdData_len (zs : List UInt8) (t : Int) (n k : Nat) (bad : Bool) : (rdData zs t n k bad).1.length ≤ 2 * zs.length + 510 := by
  unfold rdData
  split
  · simp
  · show (rdDataIn zs t n k).1.length ≤ _
    unfold rdDataIn
    split
    · have := rdBytes_len zs k false n
      omega
    · rename_i a m b hs
      have h1 := (shape_le hs).2.1
      unfold rdParts
      rw [List.length_append]
      have h2 := rdBytes_len zs k false a
      have h3 := rdNames_len zs m (rdBytes zs k false a).1 (rdBytes zs k false a).2.1 (rdBytes zs k false a).2.2
      have h4 := rdBytes_len zs (rdNames zs m (rdBytes zs k false a).1 (rdBytes zs k false a).2.1 (rdBytes zs k false a).2.2).2.1 (rdNames zs m (rdBytes zs k false a).1 (rdBytes zs k false a).2.1 (rdBytes zs k false a).2.2).2.2 b
      omega
theorem rdRec_ok {zs : List UInt8} (hl : zs.length ≤ 1099511627776) (k : Nat) (bad : Bool) : RROk (rdRec zs k bad).1 := by
  rw [rdRec_eq]
  refine ⟨?_, ?_⟩
  · have := rdName_len zs k bad
    unfold maxLen
    show (rdName zs k bad).1.length ≤ _
    omega
  · refine Nat.le_trans (rdData_len _ _ _ _ _) ?_
    unfold maxLen
    omega
theorem World.ownsRow.keepsR {w w' : World} {base e sz n r : Nat} {v : Value} {xs : List Value} (h : w.ownsRow base e sz v n xs) (hk : KeepsR r w w') (hr : r < base) : w'.ownsRow base e sz v n xs := by
  refine ⟨h.1, ?_⟩
  rcases h.2 with h2 | ⟨g, cap, cur, h1, h2, h3, h4⟩
  · exact .inl h2
  · exact .inr ⟨g, cap, cur, h1, h2, hk.row h3 (by omega), h4⟩
theorem KeepsR.grown {c : Nat} {w w' : World} {row : Option Nat} {w0 : World} (h : KeepsR c w0 w) (hg : w.grownBy w' row) (hr : ∀ g, row = some g → w0.heap.size ≤ g) : KeepsR c w0 w' :=
  ⟨Nat.le_trans h.1 hg.size, fun k hk hc => (hg.block k (Nat.lt_of_lt_of_le hk h.1) (fun e => by have := hr k e.symm; omega)).trans (h.2 k hk hc)⟩
/-- a list of the call's own was put to -/
theorem RS.app {r gb off cap : Nat} {zs : List UInt8} {base : Nat} {w0 w w' : World} {k : Nat} {bad : Bool} (h : RS r gb off cap zs base w0 k bad w) (c : RCtx r gb off cap zs base w0) (hr : r < w0.heap.size) {v : Value} {e sz n : Nat} {xs : List Value} (hown : w.ownsRow w0.heap.size e sz v n xs) (hg : w.grownBy w' v.ownBlock) : RS r gb off cap zs base w0 k bad w' :=
  ⟨(hg.block r h.1.lt (fun e => by have := (hown.lt r e.symm).1; omega)).trans h.1, below_app h.2.1 hown hg c.hbw (h.size c), h.2.2.grown hg (fun g e => (hown.lt g e).1)⟩
/-- two lists of the call's own lie in different blocks -/
def Apart (v u : Value) : Prop := ∀ g, v.ownBlock = some g → u.ownBlock ≠ some g
theorem Apart.symm {v u : Value} (h : Apart v u) : Apart u v := fun g h1 h2 => h g h2 h1
theorem Apart.kept {v u : Value} (h : Apart v u) : u.ownBlock = none ∨ u.ownBlock ≠ v.ownBlock := by
  cases hu : u.ownBlock with
  | none => exact .inl rfl
  | some g => exact .inr fun e => h g e.symm hu
theorem Apart.put {w : World} {base e sz n N : Nat} {v v' u : Value} {xs : List Value} (h : Apart v u) (hu : w.ownsRow base e sz u n xs) (hN : w.heap.size ≤ N) (hs : SameOrNew N v v') : Apart v' u := fun g h1 h2 => by
  rcases hs with hs | ⟨g', hs, hg⟩
  · rw [hs] at h1; exact h g h1 h2
  · rw [hs] at h1
    cases h1
    have := (hu.lt g h2).2
    omega
/-- one element, of a slice that was built just now, appended -/
theorem wpList_app1 {P : Program} {t e sz bytes : Nat} (ei : EI P t e sz bytes) {w : World} {ops : Array Oper} {rest : List Oper} {o : Oper} {a : Act} {Q : Exit → Act → World → Prop} (s x : Operand)
    (hgd : Region.wanted o (yielded ops a.tmps) = true)
    (ho : o.op = .call { callee := .builtin .append, args := #[s, x], argTypes := #[t, t] }) (base : Nat) {v : Value} {n c : Nat} {ad : Addr} {xs news : List Value} (hs : a.eval s = v) (hx : a.eval x = .slice (some ad) 1 c)
    (hown : w.ownsRow base e sz v n xs) (hl : news.length = sz) (hc : ∀ j u, news[j]? = some u → w.cell? (ad.add j) = some u) (h1 : ∀ u ∈ news, u.oneCell' = true) (h63 : n + 1 ≤ maxLen) (hbytes : (n + 1) * bytes ≤ 140737488355328) (hbase : base ≤ w.heap.size)
    (h : ∀ v' w', w'.ownsRow base e sz v' (n + 1) (xs ++ news) → w.grownBy w' v.ownBlock → SameOrNew w.heap.size v v' → wpList P ops Q rest (a.put o.dst v') w') : wpList P ops Q (o :: rest) a w :=
  wpList_step fun K hK => by
    rw [if_pos hgd]
    obtain ⟨v', w', hrun, ho1, hg1, hn1⟩ := run_app2 (c := c) ei w o.type base hown (by rw [Nat.one_mul]; exact hl) hc h1 (by omega) h63 hbytes hbase
    unfold Oper.wp execOp
    simp only [ho, resolve, invoke, builtin, Sem.run_bind, Sem.run_pure, Result.andThen_ok, List.map_toArray, List.map_cons, List.map_nil, hs, hx, hrun]
    exact hK _ _ (h v' w' ho1 hg1 hn1)

/-- so many records: those of the section, those of EDNS, where it is then, and whether something was wrong -/
def rdSec (zs : List UInt8) : Nat → List Rc.RR → List Rc.RR → Nat → Bool → List Rc.RR × List Rc.RR × Nat × Bool
  | 0, l, o, k, bad => (l, o, k, bad)
  | i + 1, l, o, k, bad =>
    if (rdRec zs k bad).2.2 then ([], [], (rdRec zs k bad).2.1, true)
    else if (rdRec zs k bad).1.ty = 41 then rdSec zs i l (o ++ [(rdRec zs k bad).1]) (rdRec zs k bad).2.1 false
    else rdSec zs i (l ++ [(rdRec zs k bad).1]) o (rdRec zs k bad).2.1 (!checkB (rdRec zs k bad).1 || decide (64 < l.length + 1))
theorem rdSec_le (zs : List UInt8) : ∀ (i : Nat) (l o : List Rc.RR) (k : Nat) (bad : Bool), k ≤ zs.length → (rdSec zs i l o k bad).2.2.1 ≤ zs.length
  | 0, _, _, _, _, h => h
  | i + 1, l, o, k, bad, h => by
    rw [rdSec]
    split
    · exact rdRec_le h
    · split
      · exact rdSec_le zs i _ _ _ _ (rdRec_le h)
      · exact rdSec_le zs i _ _ _ _ (rdRec_le h)
section
variable {r gb off cap : Nat} {zs : List UInt8} {base : Nat} {w0 : World}
theorem record_rk (c : RCtx r gb off cap zs base w0) {k : Nat} {bad : Bool} {w : World} (h : RS r gb off cap zs base w0 k bad w) (hk : k ≤ zs.length) :
    Calls Try.prog 77 #[.pointer (some ⟨r, 0, none⟩)] w (CEnd (rrV (rdRec zs k bad).1) (RS r gb off cap zs base w0 (rdRec zs k bad).2.1 (rdRec zs k bad).2.2) r w) := by
  have c2 : RCtx r gb off cap zs base w := ⟨h.byts c, c.hgr, c.hl, c.hb, h.size c⟩
  have h2 : RS r gb off cap zs base w k bad w := RS.start h.1 c2
  refine (record_rs c2 h2 hk).mono ?_
  rintro e w' ⟨rfl, h1⟩
  exact ⟨rfl, h.join c h1.1 h1.2.1 h1.2.2, h1.2.2⟩
end
def SecEnd (r gb off cap : Nat) (zs : List UInt8) (base : Nat) (w0 : World) (F : List Rc.RR × List Rc.RR × Nat × Bool) (e : Ending) (w' : World) : Prop :=
  ∃ v u, e = .returned (.tuple #[v, u]) ∧ w'.ownsRow w0.heap.size 45 5 v F.1.length (encR F.1) ∧ w'.ownsRow w0.heap.size 45 5 u F.2.1.length (encR F.2.1) ∧ RS r gb off cap zs base w0 F.2.2.1 F.2.2.2 w'
set_option maxHeartbeats 4000000 in
theorem section_rs {r gb off cap : Nat} {zs : List UInt8} {base : Nat} {w0 : World} (c : RCtx r gb off cap zs base w0) {k : Nat} {bad : Bool} (h : RS r gb off cap zs base w0 k bad w0) (hk : k ≤ zs.length) (n : Nat) (hn : n ≤ 65535) :
    Calls Try.prog 62 #[.pointer (some ⟨r, 0, none⟩), .int .i64 n] w0 (SecEnd r gb off cap zs base w0 (rdSec zs n [] [] k bad)) := by
  have hlt := h.1.lt
  obtain ⟨F, hF⟩ : ∃ F, F = rdSec zs n [] [] k bad := ⟨_, rfl⟩
  rw [← hF]
  have CT := Go.Lib.hid c
  have HF := Go.Lib.hid hF
  have H0 := Go.Lib.hid h
  clear c hF h
  go_enter Try.func62, Try.ntmps62
  go_wp2_with fail
  go_loopw [4, 5, 8] (fun v u i wr => ∃ (j : Nat) (l o : List Rc.RR) (q : Nat) (bd : Bool), i = .int .i64 j ∧ j ≤ n ∧ q ≤ zs.length ∧ F = rdSec zs (n - j) l o q bd ∧ l.length ≤ j ∧ o.length ≤ j ∧ Apart v u ∧
    wr.ownsRow w0.heap.size 45 5 v l.length (encR l) ∧ wr.ownsRow w0.heap.size 45 5 u o.length (encR o) ∧ RS r gb off cap zs base w0 q bd wr) (fun _ _ i _ => n - (intOf i).toNat)
  case atStart => exact ⟨0, [], [], k, bad, rfl, Nat.zero_le _, hk, HF.out, Nat.zero_le _, Nat.zero_le _, (fun g h => by cases h), World.ownsRow_nil _ _ _ _, World.ownsRow_nil _ _ _ _, H0.out⟩
  case round =>
    obtain ⟨j, l, o, q, bd, rfl, hj, hq, hrest, hll, hol, hap, how, hou, hrs⟩ := hrel
    obtain ⟨a4, c4, rfl, _, _⟩ := (SlC.of_owns how).slice
    obtain ⟨a5, c5, rfl, _, _⟩ := (SlC.of_owns hou).slice
    by_cases hlt2 : j < n
    · have t1 : (j : Int) < (n : Int) := by omega
      have hrec := record_rk CT.out hrs hq
      have hqr := rdRec_le (bad := bd) hq
      have hok := rdRec_ok CT.out.hl q bd
      rw [show n - j = (n - (j + 1)) + 1 by omega, rdSec] at hrest
      generalize rdRec zs q bd = X at *
      obtain ⟨x, xk, xb⟩ := X
      simp only at hrec hqr hok hrest
      have q2 : IntKind.i64.wrap ((j : Int) + 1) = (j : Int) + 1 := wrapi (by omega) (by omega)
      have hchk := Check_any x
      have hchk2 := fun W => hchk W hok
      have hsz0 := hrs.2.1.size
      obtain ⟨xn, xt, xc, xl, xd⟩ := x
      have HREC := Go.Lib.hid hrec
      have HREST := Go.Lib.hid hrest
      have HRS := Go.Lib.hid hrs
      have HOW := Go.Lib.hid how
      have HOU := Go.Lib.hid hou
      have HAP := Go.Lib.hid hap
      have HCHK := Go.Lib.hid hchk2
      clear hrec hrest hrs how hou hap hchk2
      clear hok hchk
      go_wp2_with fail
      refine HREC.out.mono ?_; rintro e w1 ⟨rfl, h1, k1⟩
      have hsz1 := k1.1
      have ho1 := World.ownsRow.keepsR HOW.out k1 hlt
      have hu1 := World.ownsRow.keepsR HOU.out k1 hlt
      obtain ⟨X, hX⟩ : ∃ X, w1.alloc (.cells #[.string (mk xn), .int .i64 xt, .int .i64 xc, .int .i64 xl, .string (mk xd)] 45) = X := ⟨_, rfl⟩
      have hbX : Below w1.heap.size w1 X := by rw [← hX]; exact (Below.refl _ w1).alloc (Nat.le_refl _) _
      have hsX : X.heap.size = w1.heap.size + 1 := by rw [← hX]; simp
      have gX : X.heap[w1.heap.size]? = some (.cells #[.string (mk xn), .int .i64 xt, .int .i64 xc, .int .i64 xl, .string (mk xd)] 45 (0, 0)) := by rw [← hX]; exact heap_alloc_new _ _
      have hrX := h1.below CT.out hbX
      have ho2 := owns_below ho1 hbX
      have hu2 := owns_below hu1 hbX
      have r2 : X.cell? ⟨r, 2, none⟩ = some (.bool xb) := row_cell hrX.1 2 _ rfl
      have y0 : X.cell? ⟨w1.heap.size, 0, none⟩ = some (.string (mk xn)) := row_cell gX 0 _ rfl
      have y1 : X.cell? ⟨w1.heap.size, 1, none⟩ = some (.int .i64 xt) := row_cell gX 1 _ rfl
      have y2 : X.cell? ⟨w1.heap.size, 2, none⟩ = some (.int .i64 xc) := row_cell gX 2 _ rfl
      have y3 : X.cell? ⟨w1.heap.size, 3, none⟩ = some (.int .i64 xl) := row_cell gX 3 _ rfl
      have y4 : X.cell? ⟨w1.heap.size, 4, none⟩ = some (.string (mk xd)) := row_cell gX 4 _ rfl
      have hbase : w0.heap.size ≤ X.heap.size := by omega
      have H1 := Go.Lib.hid h1
      have K1 := Go.Lib.hid k1
      have HO1 := Go.Lib.hid ho1
      have HU1 := Go.Lib.hid hu1
      have HRX := Go.Lib.hid hrX
      have HO2 := Go.Lib.hid ho2
      have HU2 := Go.Lib.hid hu2
      have GX := Go.Lib.hid gX
      have HSX := Go.Lib.hid hsX
      have HBASE := Go.Lib.hid hbase
      have HSZ0 := Go.Lib.hid hsz0
      have HSZ1 := Go.Lib.hid hsz1
      have HBX := Go.Lib.hid hbX
      clear h1 k1 ho1 hu1 hrX ho2 hu2 gX hsX hbase hsz0 hsz1 hbX
      clear HREC HOW HOU HRS
      cases xb with
      | true =>
        have hF2 : Hid (F = ([], [], xk, true)) := Go.Lib.hid (by rw [HREST.out]; rfl)
        go_wp2_with fail
        go_ret2
        exact ⟨_, _, rfl, by rw [hF2.out]; exact World.ownsRow_nil _ _ _ _, by rw [hF2.out]; exact World.ownsRow_nil _ _ _ _, by rw [hF2.out]; exact HRX.out⟩
      | false =>
        by_cases ht : xt = 41
        · have hF2 := HREST.out
          rw [if_neg (by simp), if_pos ht] at hF2
          have HF2 := Go.Lib.hid hF2
          clear hF2
          have hbeq : (xt == 41) = true := by rw [ht]; rfl
          clear ht HREST
          go_wp2_with (at_builtin; refine wpList_app1 eiRR (.tmp 21) (.tmp 23) rfl rfl w0.heap.size rfl rfl (HU2.out.alloc _) (news := [.string (mk xn), .int .i64 xt, .int .i64 xc, .int .i64 xl, .string (mk xd)]) rfl ?a1 ?a2 ?a3 ?a4 ?a5 ?a6)
          case a1 => exact new_cells _ _ _
          case a2 => exact one_rr ⟨xn, xt, xc, xl, xd⟩
          case a3 => unfold maxLen; omega
          case a4 => omega
          case a5 => have := HBASE.out; simp; omega
          intro v1 W1 hown1 hg1 hsn1
          have hown2 : W1.ownsRow w0.heap.size 45 5 v1 (o ++ [(⟨xn, xt, xc, xl, xd⟩ : Rc.RR)]).length (encR (o ++ [(⟨xn, xt, xc, xl, xd⟩ : Rc.RR)])) := by rw [encR_snoc, List.length_append]; exact hown1
          have hol2 : (o ++ [(⟨xn, xt, xc, xl, xd⟩ : Rc.RR)]).length ≤ j + 1 := by rw [List.length_append]; simp; omega
          have hap2 : Apart (.slice a4 l.length c4) v1 := (Apart.put HAP.out.symm HO2.out (Nat.le_succ _) hsn1).symm
          have how2 : W1.ownsRow w0.heap.size 45 5 (.slice a4 l.length c4) l.length (encR l) := (HO2.out.alloc _).kept hg1 HAP.out.symm.kept
          have hrs2 := (HRX.out.below CT.out ((Below.refl _ X).alloc (Nat.le_refl _) _)).app CT.out hlt (HU2.out.alloc _) hg1
          have HOWN2 := Go.Lib.hid hown2
          have HAP2 := Go.Lib.hid hap2
          have HOW2 := Go.Lib.hid how2
          have HRS2 := Go.Lib.hid hrs2
          have HOL2 := Go.Lib.hid hol2
          clear hown2 hap2 how2 hrs2 hol2
          clear hown1 hg1 hsn1 HRX HO2 HU2 hX
          go_wp2_with fail
          go_roundw
          case rel => exact ⟨j + 1, l, o ++ [⟨xn, xt, xc, xl, xd⟩], xk, false, by go_num, by omega, hqr, by rw [HF2.out], by omega, HOL2.out, HAP2.out, HOW2.out, HOWN2.out, HRS2.out⟩
          case measure => simp [intOf]; omega
        · have hF2 := HREST.out
          rw [if_neg (by simp), if_neg ht] at hF2
          have HF2 := Go.Lib.hid hF2
          clear hF2
          have hbeq : (xt == 41) = false := by rw [beq_eq_false_iff_ne]; exact ht
          clear ht HREST
          go_wp2_with (at_builtin; refine wpList_app1 eiRR (.tmp 25) (.tmp 27) rfl rfl w0.heap.size rfl rfl (HO2.out.alloc _) (news := [.string (mk xn), .int .i64 xt, .int .i64 xc, .int .i64 xl, .string (mk xd)]) rfl ?b1 ?b2 ?b3 ?b4 ?b5 ?b6)
          case b1 => exact new_cells _ _ _
          case b2 => exact one_rr ⟨xn, xt, xc, xl, xd⟩
          case b3 => unfold maxLen; omega
          case b4 => omega
          case b5 => have := HBASE.out; simp; omega
          intro v1 W1 hown1 hg1 hsn1
          have hown2 : W1.ownsRow w0.heap.size 45 5 v1 (l ++ [(⟨xn, xt, xc, xl, xd⟩ : Rc.RR)]).length (encR (l ++ [(⟨xn, xt, xc, xl, xd⟩ : Rc.RR)])) := by rw [encR_snoc, List.length_append]; exact hown1
          have hol2 : (l ++ [(⟨xn, xt, xc, xl, xd⟩ : Rc.RR)]).length ≤ j + 1 := by rw [List.length_append]; simp; omega
          have hap2 : Apart v1 (.slice a5 o.length c5) := Apart.put HAP.out HU2.out (Nat.le_succ _) hsn1
          have how2 : W1.ownsRow w0.heap.size 45 5 (.slice a5 o.length c5) o.length (encR o) := (HU2.out.alloc _).kept hg1 HAP.out.kept
          have hrs2 := (HRX.out.below CT.out ((Below.refl _ X).alloc (Nat.le_refl _) _)).app CT.out hlt (HO2.out.alloc _) hg1
          have gW : W1.heap[w1.heap.size]? = some (.cells #[.string (mk xn), .int .i64 xt, .int .i64 xc, .int .i64 xl, .string (mk xd)] 45 (0, 0)) := by
            refine (hg1.block w1.heap.size (by simp; have := HSX.out; omega) (fun e => ?_)).trans (heap_old GX.out _)
            have := (HO1.out.lt w1.heap.size e.symm).2
            omega
          have y0 : W1.cell? ⟨w1.heap.size, 0, none⟩ = some (.string (mk xn)) := row_cell gW 0 _ rfl
          have y1 : W1.cell? ⟨w1.heap.size, 1, none⟩ = some (.int .i64 xt) := row_cell gW 1 _ rfl
          have y2 : W1.cell? ⟨w1.heap.size, 2, none⟩ = some (.int .i64 xc) := row_cell gW 2 _ rfl
          have y3 : W1.cell? ⟨w1.heap.size, 3, none⟩ = some (.int .i64 xl) := row_cell gW 3 _ rfl
          have y4 : W1.cell? ⟨w1.heap.size, 4, none⟩ = some (.string (mk xd)) := row_cell gW 4 _ rfl
          obtain ⟨a6, c6, rfl, _, _⟩ := (SlC.of_owns hown1).slice
          have hbW : w0.heap.size ≤ W1.heap.size := by have := hrs2.2.1.size; omega
          have HOWN2 := Go.Lib.hid hown2
          have HAP2 := Go.Lib.hid hap2
          have HOW2 := Go.Lib.hid how2
          have HRS2 := Go.Lib.hid hrs2
          have HOL2 := Go.Lib.hid hol2
          clear hown2 hap2 how2 hrs2 hol2
          clear hown1 hg1 hsn1 HRX HO2 HU2 hX gW r2
          go_wp2_with fail
          refine (HCHK.out W1).mono ?_; rintro e W2 ⟨rfl, hbc⟩
          have r3 := HRS2.out.below CT.out hbc
          have o3 := owns_below HOWN2.out hbc
          have o4 := owns_below HOW2.out hbc
          have f2 : W2.frozen? ⟨r, 2, none⟩ = false := row_frozen r3.1 2
          have c2 : W2.cell? ⟨r, 2, none⟩ = some (.bool false) := row_cell r3.1 2 _ rfl
          have hset := fun x => r3.set_bad CT.out x
          have hks := fun x => KeepsR.setCell (r := r) (w := W2) (o := 2) (v := .bool x) (KeepsR.refl _ _) r3.1
          have fin : ∀ x, x = (!checkB ⟨xn, xt, xc, xl, xd⟩ || decide (64 < l.length + 1)) → Hid (∃ (j_1 : Nat) (l_1 o_1 : List Rc.RR) (q_1 : Nat) (bd_1 : Bool), Value.int .i64 ((j : Int) + 1) = .int .i64 j_1 ∧ j_1 ≤ n ∧ q_1 ≤ zs.length ∧ F = rdSec zs (n - j_1) l_1 o_1 q_1 bd_1 ∧ l_1.length ≤ j_1 ∧ o_1.length ≤ j_1 ∧ Apart (.slice a6 (l.length + 1) c6) (.slice a5 o.length c5) ∧
              (W2.setCell ⟨r, 2, none⟩ (.bool x)).ownsRow w0.heap.size 45 5 (.slice a6 (l.length + 1) c6) l_1.length (encR l_1) ∧ (W2.setCell ⟨r, 2, none⟩ (.bool x)).ownsRow w0.heap.size 45 5 (.slice a5 o.length c5) o_1.length (encR o_1) ∧ RS r gb off cap zs base w0 q_1 bd_1 (W2.setCell ⟨r, 2, none⟩ (.bool x))) := fun x hx => Go.Lib.hid
            ⟨j + 1, l ++ [⟨xn, xt, xc, xl, xd⟩], o, xk, x, by go_num, by omega, hqr, by rw [HF2.out, hx], HOL2.out, by omega, HAP2.out, World.ownsRow.keepsR o3 (hks x) hlt, World.ownsRow.keepsR o4 (hks x) hlt, hset x⟩
          clear hset hks
          generalize checkB ⟨xn, xt, xc, xl, xd⟩ = cb at *
          have R3 := Go.Lib.hid r3
          have O3 := Go.Lib.hid o3
          have O4 := Go.Lib.hid o4
          clear r3 o3 o4
          clear hbc HRS2 HOWN2 HOW2 HF2 hbeq HCHK
          cases cb with
          | false =>
            have FIN := (fin true rfl)
            clear fin
            go_wp2_with fail
            go_roundw
            case rel => exact FIN.out
            case measure => simp [intOf]; omega
          | true =>
            by_cases h64 : 64 < l.length + 1
            · have FIN := fin true (by rw [decide_eq_true h64]; rfl)
              have t3 : (64 : Int) < (l.length : Int) + 1 := by omega
              clear fin h64
              go_wp2_with fail
              go_roundw
              case rel => exact FIN.out
              case measure => simp [intOf]; omega
            · have FIN := fin false (by rw [decide_eq_false h64]; rfl)
              have t3 : ¬ (64 : Int) < (l.length : Int) + 1 := by omega
              clear fin h64
              go_wp2_with fail
              go_roundw
              case rel => rw [decide_eq_false (show ¬ (64 : Int) < (l.length : Int) + 1 by omega)]; exact FIN.out
              case measure => simp [intOf]; omega
    · have t1 : ¬ (j : Int) < (n : Int) := by omega
      obtain rfl : j = n := by omega
      rw [Nat.sub_self, rdSec] at hrest
      subst hrest
      have HRS := Go.Lib.hid hrs
      have HOW := Go.Lib.hid how
      have HOU := Go.Lib.hid hou
      have HAP := Go.Lib.hid hap
      clear hrs how hou hap
      go_wp2_with fail
      go_ret2
      exact ⟨_, _, rfl, HOW.out, HOU.out, HRS.out⟩
end Go.Proofs.Ythfhmbooeemaaaa

/- Message: the reader: a message's first bytes. -/
namespace Go.Proofs.Ythfhmbooeemaaaa
open Go.RowKit
set_option maxRecDepth 100000
set_option linter.unusedVariables false

theorem mixT_load_same {P : Program} {w : World} {ops : Array Oper} {o : Oper} {rest : List Oper} {a : Act} {Es : List Nat} {C : World → Prop} {Q : Act → World → Prop} {k tl : Nat} (ty : TypeId) (x : Operand)
    (hk : (Es.contains k || k == tl) = false) (hgd : Region.wanted o (yielded ops a.tmps) = true) (ho : o.op = .load ty x) (g : Nat) (hx : a.eval x = .pointer (some ⟨g, 0, none⟩)) (t : TypeId) (cs : Array Value) (fr : Nat × Nat) (d : TypeDesc)
    (hg : ∀ w2, C w2 → w2.heap[g]? = some (.cells cs t fr)) (hu : P.underlying ty = some d) (hd : (match d with | .struct _ | .array _ _ => true | _ => false) = true) (hi : (P.info? ty).map (·.size) = some cs.size)
    (h : Go.Mix.MixT P ops (fun k => Es.contains k) C Q tl (k + 1) rest (a.put o.dst (.agg cs)) w) : Go.Mix.MixT P ops (fun k => Es.contains k) C Q tl k (o :: rest) a w :=
  Go.Mix.mixT_step hk fun K hK => by
    rw [if_pos hgd]
    refine ⟨_, fun w2 => ?_, hK _ _ h⟩
    unfold execOp
    simp only [ho, hx, Instr.loadAt, Instr.sureAddr, Sem.run_bind, Sem.run_pure, Result.andThen_ok, run_loadVar_row w2.1 g t ty cs fr d (hg w2.1 w2.2) hu hd hi]
theorem mixT_store_same {P : Program} {w : World} {ops : Array Oper} {o : Oper} {rest : List Oper} {a : Act} {Es : List Nat} {C : World → Prop} {Q : Act → World → Prop} {k tl : Nat} (ty : TypeId) (x y : Operand)
    (hk : (Es.contains k && !(k == tl)) = true) (hgd : Region.wanted o (yielded ops a.tmps) = true) (ho : o.op = .store ty x y) (g : Nat) (cs : Array Value) (hx : a.eval x = .pointer (some ⟨g, 0, none⟩)) (hy : a.eval y = .agg cs) (t : TypeId)
    (hC : C w) (hg : w.heap[g]? = some (.cells cs t (0, 0))) (hi : (P.info? ty).map (·.size) = some cs.size) (h1 : cs.all (·.oneCell') = true)
    (h : Go.Mix.MixT P ops (fun k => Es.contains k) C Q tl (k + 1) rest (a.put o.dst undef) w) : Go.Mix.MixT P ops (fun k => Es.contains k) C Q tl k (o :: rest) a w :=
  Go.Mix.mixT_eff hk fun K hK => by
    rw [if_pos hgd]
    unfold Oper.wp execOp
    simp only [ho, hx, hy, Instr.storeAt, Instr.sureAddr, Sem.run_bind, Sem.run_pure, Result.andThen_ok, run_storeVar_row w g t ty cs cs hg hi rfl h1, setRow_self w g cs t (0, 0) hg]
    exact hK _ _ hC h
theorem mixT_store_same_last {P : Program} {w : World} {ops : Array Oper} {o : Oper} {a : Act} {Es : List Nat} {C : World → Prop} {Q : Act → World → Prop} {k tl : Nat} (ty : TypeId) (x y : Operand)
    (hk : (k == tl) = true) (hgd : Region.wanted o (yielded ops a.tmps) = true) (ho : o.op = .store ty x y) (g : Nat) (cs : Array Value) (hx : a.eval x = .pointer (some ⟨g, 0, none⟩)) (hy : a.eval y = .agg cs) (t : TypeId)
    (hg : w.heap[g]? = some (.cells cs t (0, 0))) (hi : (P.info? ty).map (·.size) = some cs.size) (h1 : cs.all (·.oneCell') = true)
    (h : Q (a.put o.dst undef) w) : Go.Mix.MixT P ops (fun k => Es.contains k) C Q tl k [o] a w :=
  Go.Mix.mixT_last hk fun K hK => by
    rw [if_pos hgd]
    unfold Oper.wp execOp
    simp only [ho, hx, hy, Instr.storeAt, Instr.sureAddr, Sem.run_bind, Sem.run_pure, Result.andThen_ok, run_storeVar_row w g t ty cs cs hg hi rfl h1, setRow_self w g cs t (0, 0) hg]
    exact hK _ _ h

/-- many stores into one block -/
def setL (w : World) (g : Nat) : List (Nat × Value) → World
  | [] => w
  | (i, v) :: l => setL (w.setCell ⟨g, i, none⟩ v) g l
theorem setL_row {g : Nat} {T : TypeId} : ∀ (l : List (Nat × Value)) {w : World} {cs : Array Value}, w.heap[g]? = some (.cells cs T (0, 0)) → (setL w g l).heap[g]? = some (.cells (l.foldl (fun cs p => cs.setIfInBounds p.1 p.2) cs) T (0, 0))
  | [], _, _, h => h
  | (i, v) :: l, w, cs, h => setL_row l (heap_set h)
theorem setL_other {g : Nat} {T : TypeId} {k : Nat} (hk : k ≠ g) : ∀ (l : List (Nat × Value)) {w : World} {cs : Array Value}, w.heap[g]? = some (.cells cs T (0, 0)) → (setL w g l).heap[k]? = w.heap[k]?
  | [], _, _, _ => rfl
  | (i, v) :: l, w, cs, h => (setL_other hk l (heap_set h)).trans (heap_set_other h hk)
theorem RS.boxes {r gb off cap : Nat} {zs : List UInt8} {base : Nat} {w0 : World} {k : Nat} {bad : Bool} (c : RCtx r gb off cap zs base w0) {g : Nat} (hg : w0.heap.size ≤ g) (hr : r < w0.heap.size) {T : TypeId} :
    ∀ (l : List (Nat × Value)) {w : World} {cs : Array Value}, RS r gb off cap zs base w0 k bad w → w.heap[g]? = some (.cells cs T (0, 0)) → RS r gb off cap zs base w0 k bad (setL w g l)
  | [], _, _, h, _ => h
  | (i, v) :: l, w, cs, h, hh => RS.boxes c hg hr l (h.box c hg hr hh i v) (heap_set hh)

theorem msg_sets {w : World} {g : Nat} {T : TypeId} (i0 v2 v7 : Int) (b1 b3 b4 b5 b6 : Bool) (h : w.heap[g]? = some (.cells (MC ⟨i0, false, 0, false, false, false, false, 0, [], [], [], [], false, 0⟩ (.slice none 0 0) (.slice none 0 0) (.slice none 0 0) (.slice none 0 0)) T (0, 0))) :
    (setL w g [(1, .bool b1), (3, .bool b3), (4, .bool b4), (5, .bool b5), (6, .bool b6), (2, .int .i64 v2), (7, .int .i64 v7)]).heap[g]? = some (.cells (MC ⟨i0, b1, v2, b3, b4, b5, b6, v7, [], [], [], [], false, 0⟩ (.slice none 0 0) (.slice none 0 0) (.slice none 0 0) (.slice none 0 0)) T (0, 0)) := by
  have h0 : (w.setCell ⟨g, 1, none⟩ (.bool b1)).heap[g]? = some (.cells (MC ⟨i0, b1, 0, false, false, false, false, 0, [], [], [], [], false, 0⟩ (.slice none 0 0) (.slice none 0 0) (.slice none 0 0) (.slice none 0 0)) T (0, 0)) := heap_set h
  have h1 : ((w.setCell ⟨g, 1, none⟩ (.bool b1)).setCell ⟨g, 3, none⟩ (.bool b3)).heap[g]? = some (.cells (MC ⟨i0, b1, 0, b3, false, false, false, 0, [], [], [], [], false, 0⟩ (.slice none 0 0) (.slice none 0 0) (.slice none 0 0) (.slice none 0 0)) T (0, 0)) := heap_set h0
  have h2 : (((w.setCell ⟨g, 1, none⟩ (.bool b1)).setCell ⟨g, 3, none⟩ (.bool b3)).setCell ⟨g, 4, none⟩ (.bool b4)).heap[g]? = some (.cells (MC ⟨i0, b1, 0, b3, b4, false, false, 0, [], [], [], [], false, 0⟩ (.slice none 0 0) (.slice none 0 0) (.slice none 0 0) (.slice none 0 0)) T (0, 0)) := heap_set h1
  have h3 : ((((w.setCell ⟨g, 1, none⟩ (.bool b1)).setCell ⟨g, 3, none⟩ (.bool b3)).setCell ⟨g, 4, none⟩ (.bool b4)).setCell ⟨g, 5, none⟩ (.bool b5)).heap[g]? = some (.cells (MC ⟨i0, b1, 0, b3, b4, b5, false, 0, [], [], [], [], false, 0⟩ (.slice none 0 0) (.slice none 0 0) (.slice none 0 0) (.slice none 0 0)) T (0, 0)) := heap_set h2
  have h4 : (((((w.setCell ⟨g, 1, none⟩ (.bool b1)).setCell ⟨g, 3, none⟩ (.bool b3)).setCell ⟨g, 4, none⟩ (.bool b4)).setCell ⟨g, 5, none⟩ (.bool b5)).setCell ⟨g, 6, none⟩ (.bool b6)).heap[g]? = some (.cells (MC ⟨i0, b1, 0, b3, b4, b5, b6, 0, [], [], [], [], false, 0⟩ (.slice none 0 0) (.slice none 0 0) (.slice none 0 0) (.slice none 0 0)) T (0, 0)) := heap_set h3
  have h5 : ((((((w.setCell ⟨g, 1, none⟩ (.bool b1)).setCell ⟨g, 3, none⟩ (.bool b3)).setCell ⟨g, 4, none⟩ (.bool b4)).setCell ⟨g, 5, none⟩ (.bool b5)).setCell ⟨g, 6, none⟩ (.bool b6)).setCell ⟨g, 2, none⟩ (.int .i64 v2)).heap[g]? = some (.cells (MC ⟨i0, b1, v2, b3, b4, b5, b6, 0, [], [], [], [], false, 0⟩ (.slice none 0 0) (.slice none 0 0) (.slice none 0 0) (.slice none 0 0)) T (0, 0)) := heap_set h4
  have h6 : (((((((w.setCell ⟨g, 1, none⟩ (.bool b1)).setCell ⟨g, 3, none⟩ (.bool b3)).setCell ⟨g, 4, none⟩ (.bool b4)).setCell ⟨g, 5, none⟩ (.bool b5)).setCell ⟨g, 6, none⟩ (.bool b6)).setCell ⟨g, 2, none⟩ (.int .i64 v2)).setCell ⟨g, 7, none⟩ (.int .i64 v7)).heap[g]? = some (.cells (MC ⟨i0, b1, v2, b3, b4, b5, b6, v7, [], [], [], [], false, 0⟩ (.slice none 0 0) (.slice none 0 0) (.slice none 0 0) (.slice none 0 0)) T (0, 0)) := heap_set h5
  exact h6

/-- the number of two bytes at a place -/
def n2 (zs : List UInt8) (k : Nat) : Nat := (zs.getD k 0).toNat * 256 + (zs.getD (k + 1) 0).toNat
theorem n2_le (zs : List UInt8) (k : Nat) : n2 zs k ≤ 65535 := by
  unfold n2
  have := (zs.getD k 0).toNat_lt
  have := (zs.getD (k + 1) 0).toNat_lt
  omega
theorem rdTwo_in {zs : List UInt8} {k : Nat} (h : k + 2 ≤ zs.length) : rdTwo zs k false = ((n2 zs k : Int), k + 2, false) := by
  unfold rdTwo
  have : lackB zs.length k false 2 = false := by unfold lackB; simp; omega
  rw [this]
  rfl
theorem two_in {r gb off cap : Nat} {zs : List UInt8} {base : Nat} {w0 : World} (c : RCtx r gb off cap zs base w0) {k : Nat} {w : World} (h : RS r gb off cap zs base w0 k false w) (hk : k + 2 ≤ zs.length) :
    Calls Try.prog 60 #[.pointer (some ⟨r, 0, none⟩)] w (CEnd (.int .i64 (n2 zs k)) (RS r gb off cap zs base w0 (k + 2) false) r w) := by
  have := two_rk c h (by omega)
  rw [rdTwo_in hk] at this
  exact this
theorem cnt_size : (Try.prog.info? 61).map (·.size) = some 4 := by kernel_rfl
/-- a message and four numbers, each in a variable of its own -/
theorem ret_mc {fn : Func} {p q : Tmp} {a : Act} {W : World} {R : Ending → World → Prop} {m : Msg} {x y u v : Value} {c0 c1 c2 c3 : Value} {g g' : Nat} (hr : fn.results = #[.cell p 27, .cell q 61]) (hp : a.tmps.getD p undef = .pointer (some ⟨g, 0, none⟩)) (hq : a.tmps.getD q undef = .pointer (some ⟨g', 0, none⟩)) (hd : a.defers = [])
    (hg : W.heap[g]? = some (.cells (MC m x y u v) 27 (0, 0))) (hg' : W.heap[g']? = some (.cells #[c0, c1, c2, c3] 61 (0, 0))) (h : R (.returned (.tuple #[MV m x y u v, .agg #[c0, c1, c2, c3]])) W) : bodyPost Try.prog fn R Exit.ret a W := by
  obtain ⟨fs, hu⟩ := undMsg
  have hu' := Try.underlying61
  refine bodyPost_ret (v := .tuple #[MV m x y u v, .agg #[c0, c1, c2, c3]]) ?_ hd h
  have hp' : a.tmps[p]?.getD undef = .pointer (some ⟨g, 0, none⟩) := by simpa using hp
  have hq' : a.tmps[q]?.getD undef = .pointer (some ⟨g', 0, none⟩) := by simpa using hq
  simp [results, hr, hp', hq', asAddr, run_loadVar_row W g _ 27 (MC m x y u v) (0, 0) _ hg hu rfl infoMsg, run_loadVar_row W g' _ 61 #[c0, c1, c2, c3] (0, 0) _ hg' hu' rfl cnt_size]
theorem msg_one (m : Msg) {q a s d : Value} (h : q.oneCell' = true ∧ a.oneCell' = true ∧ s.oneCell' = true ∧ d.oneCell' = true) : (MC m q a s d).all (·.oneCell') = true := by
  obtain ⟨h1, h2, h3, h4⟩ := h
  simp [Value.oneCell'] at *
  simp [h1, h2, h3, h4]
/-- what the first numbers say -/
def headM (id f : Int) : Msg := ⟨id, f / 32768 == 1, bits .and .i64 (f / 2048) 15, bits .and .i64 (f / 1024) 1 == 1, bits .and .i64 (f / 512) 1 == 1, bits .and .i64 (f / 256) 1 == 1, bits .and .i64 (f / 128) 1 == 1, bits .and .i64 f 15, [], [], [], [], false, 0⟩
def cntA (zs : List UInt8) (j : Nat) : Array Value := #[.int .i64 (if 0 < j then n2 zs 4 else 0 : Nat), .int .i64 (if 1 < j then n2 zs 6 else 0 : Nat), .int .i64 (if 2 < j then n2 zs 8 else 0 : Nat), .int .i64 (if 3 < j then n2 zs 10 else 0 : Nat)]
abbrev nilS : Value := .slice none 0 0
def HeadEnd (r gb off cap : Nat) (zs : List UInt8) (base : Nat) (w0 : World) (e : Ending) (w' : World) : Prop :=
  e = .returned (.tuple #[MV (headM (n2 zs 0) (n2 zs 2)) nilS nilS nilS nilS, .agg #[.int .i64 (n2 zs 4), .int .i64 (n2 zs 6), .int .i64 (n2 zs 8), .int .i64 (n2 zs 10)]]) ∧ RS r gb off cap zs base w0 12 (bits .and .i64 (n2 zs 2) 112 != 0) w'
set_option maxHeartbeats 4000000 in
theorem head_rs {r gb off cap : Nat} {zs : List UInt8} {base : Nat} {w0 : World} (c : RCtx r gb off cap zs base w0) (h : RS r gb off cap zs base w0 0 false w0) (h12 : 12 ≤ zs.length) :
    Calls Try.prog 26 #[.pointer (some ⟨r, 0, none⟩)] w0 (HeadEnd r gb off cap zs base w0) := by
  have mixed : Try.prog.follows .mixedOrders = true := by kernel_rfl
  have hlt := h.1.lt
  have hne : w0.heap.size ≠ r := by omega
  have hne1 : w0.heap.size + 1 ≠ r := by omega
  obtain ⟨X, hX⟩ : ∃ X, (w0.alloc (.cells (MC ⟨0, false, 0, false, false, false, false, 0, [], [], [], [], false, 0⟩ nilS nilS nilS nilS) 27)).alloc (.cells #[.int .i64 0, .int .i64 0, .int .i64 0, .int .i64 0] 61) = X := ⟨_, rfl⟩
  have gm : X.heap[w0.heap.size]? = some (.cells (MC ⟨0, false, 0, false, false, false, false, 0, [], [], [], [], false, 0⟩ nilS nilS nilS nilS) 27 (0, 0)) := by rw [← hX]; exact heap_old (heap_alloc_new _ _) _
  have gc : X.heap[w0.heap.size + 1]? = some (.cells (cntA zs 0) 61 (0, 0)) := by rw [← hX]; exact heap_new1 _ _ _
  have hrX : RS r gb off cap zs base w0 0 false X := by
    refine h.below c ?_
    rw [← hX]
    exact ((Below.refl _ w0).alloc (Nat.le_refl _) _).alloc (by simp) _
  have hc1 := two_in c hrX (by omega)
  have hc2 := fun (w : World) (h : RS r gb off cap zs base w0 2 false w) => two_in c h (by omega)
  have b0 := n2_le zs 0
  have b2 := n2_le zs 2
  obtain ⟨M, hM⟩ : ∃ M, M = headM (n2 zs 0) (n2 zs 2) := ⟨_, rfl⟩
  unfold HeadEnd
  rw [← hM]
  generalize n2 zs 0 = i0 at *
  generalize n2 zs 2 = f0 at *
  have HC1 := Go.Lib.hid hc1
  have HC2 := Go.Lib.hid hc2
  have GM := Go.Lib.hid gm
  have GC := Go.Lib.hid gc
  have HM := Go.Lib.hid hM
  have CT := Go.Lib.hid c
  clear hc1 hc2 gm gc hM c
  clear hrX h
  go_enter Try.func26, Try.ntmps26
  go_wp2_with fail
  refine HC1.out.mono ?_; rintro e w1 ⟨rfl, h1, k1⟩
  have gm1 := k1.row GM.out hne
  have gc1 := k1.row GC.out hne1
  have y0 : w1.cell? ⟨w0.heap.size, 0, none⟩ = some (.int .i64 0) := row_cell gm1 0 _ rfl
  have z0 : w1.frozen? ⟨w0.heap.size, 0, none⟩ = false := row_frozen gm1 0
  obtain ⟨W1, hW1⟩ : ∃ W, w1.setCell ⟨w0.heap.size, 0, none⟩ (.int .i64 i0) = W := ⟨_, rfl⟩
  have r1 := h1.box CT.out (Nat.le_refl _) hlt gm1 0 (.int .i64 i0)
  have gm2 : W1.heap[w0.heap.size]? = some (.cells (MC ⟨i0, false, 0, false, false, false, false, 0, [], [], [], [], false, 0⟩ nilS nilS nilS nilS) 27 (0, 0)) := by rw [← hW1]; exact heap_set gm1
  have gc2 : W1.heap[w0.heap.size + 1]? = some (.cells (cntA zs 0) 61 (0, 0)) := by rw [← hW1]; exact (heap_set_other gm1 (by omega)).trans gc1
  rw [hW1] at r1
  have hcc := HC2.out W1 r1
  have HCC := Go.Lib.hid hcc
  have GM2 := Go.Lib.hid gm2
  have GC2 := Go.Lib.hid gc2
  clear hcc gm2 gc2
  clear h1 k1 gm1 gc1 r1 GM GC HC1 HC2
  go_wp2_with fail
  clear hW1 y0 z0 hX
  refine HCC.out.mono ?_; rintro e w2 ⟨rfl, h2, k2⟩
  have gm3 := k2.row GM2.out hne
  have gc3 := k2.row GC2.out hne1
  have y1 : w2.cell? ⟨w0.heap.size, 1, none⟩ = some (.bool false) := row_cell gm3 1 _ rfl
  have z1 : w2.frozen? ⟨w0.heap.size, 1, none⟩ = false := row_frozen gm3 1
  have y2 : w2.cell? ⟨w0.heap.size, 2, none⟩ = some (.int .i64 0) := row_cell gm3 2 _ rfl
  have z2 : w2.frozen? ⟨w0.heap.size, 2, none⟩ = false := row_frozen gm3 2
  have y3 : w2.cell? ⟨w0.heap.size, 3, none⟩ = some (.bool false) := row_cell gm3 3 _ rfl
  have z3 : w2.frozen? ⟨w0.heap.size, 3, none⟩ = false := row_frozen gm3 3
  have y4 : w2.cell? ⟨w0.heap.size, 4, none⟩ = some (.bool false) := row_cell gm3 4 _ rfl
  have z4 : w2.frozen? ⟨w0.heap.size, 4, none⟩ = false := row_frozen gm3 4
  have y5 : w2.cell? ⟨w0.heap.size, 5, none⟩ = some (.bool false) := row_cell gm3 5 _ rfl
  have z5 : w2.frozen? ⟨w0.heap.size, 5, none⟩ = false := row_frozen gm3 5
  have y6 : w2.cell? ⟨w0.heap.size, 6, none⟩ = some (.bool false) := row_cell gm3 6 _ rfl
  have z6 : w2.frozen? ⟨w0.heap.size, 6, none⟩ = false := row_frozen gm3 6
  have y7 : w2.cell? ⟨w0.heap.size, 7, none⟩ = some (.int .i64 0) := row_cell gm3 7 _ rfl
  have z7 : w2.frozen? ⟨w0.heap.size, 7, none⟩ = false := row_frozen gm3 7
  have H2 := Go.Lib.hid h2
  have GM3 := Go.Lib.hid gm3
  have GC3 := Go.Lib.hid gc3
  clear h2 gm3 gc3
  clear k2 HCC GM2 GC2
  go_wp2_with fail
  obtain ⟨W3, hW3⟩ : ∃ W, setL w2 w0.heap.size [(1, .bool ((f0 : Int) / 32768 == 1)), (3, .bool (bits .and .i64 ((f0 : Int) / 1024) 1 == 1)), (4, .bool (bits .and .i64 ((f0 : Int) / 512) 1 == 1)), (5, .bool (bits .and .i64 ((f0 : Int) / 256) 1 == 1)), (6, .bool (bits .and .i64 ((f0 : Int) / 128) 1 == 1)), (2, .int .i64 (bits .and .i64 ((f0 : Int) / 2048) 15)), (7, .int .i64 (bits .and .i64 (f0 : Int) 15))] = W := ⟨_, rfl⟩
  have gm4 : W3.heap[w0.heap.size]? = some (.cells (MC M nilS nilS nilS nilS) 27 (0, 0)) := by rw [← hW3, HM.out]; unfold headM; exact msg_sets _ _ _ _ _ _ _ _ GM3.out
  have gc4 : W3.heap[w0.heap.size + 1]? = some (.cells (cntA zs 0) 61 (0, 0)) := by rw [← hW3]; exact (setL_other (by omega) _ GM3.out).trans GC3.out
  have r4 : RS r gb off cap zs base w0 4 false W3 := by rw [← hW3]; exact RS.boxes CT.out (Nat.le_refl _) hlt _ H2.out GM3.out
  unfold setL at hW3
  simp only [setL] at hW3
  rw [hW3]
  clear hW3 y1 y2 y3 y4 y5 y6 y7 z1 z2 z3 z4 z5 z6 z7
  have GM4 := Go.Lib.hid gm4
  have GC4 := Go.Lib.hid gc4
  have R4 := Go.Lib.hid r4
  clear gm4 gc4 r4
  clear H2 GM3 GC3
  go_loopw [42] (fun i wr => ∃ j : Nat, i = .int .i64 j ∧ j ≤ 4 ∧ wr.heap[w0.heap.size]? = some (.cells (MC M nilS nilS nilS nilS) 27 (0, 0)) ∧ wr.heap[w0.heap.size + 1]? = some (.cells (cntA zs j) 61 (0, 0)) ∧ RS r gb off cap zs base w0 (4 + 2 * j) false wr) (fun i _ => 4 - (intOf i).toNat)
  case atStart => exact ⟨0, rfl, by omega, GM4.out, GC4.out, R4.out⟩
  case round =>
    obtain ⟨j, rfl, hj, gm5, gc5, r5⟩ := hrel
    clear GM4 GC4 R4
    by_cases hlt4 : j < 4
    · have hc3 := two_in CT.out r5 (by omega)
      have hj4 : j = 0 ∨ j = 1 ∨ j = 2 ∨ j = 3 := by omega
      clear hlt4 hj
      rcases hj4 with rfl | rfl | rfl | rfl
      · have HC3 := Go.Lib.hid hc3
        have GM5 := Go.Lib.hid gm5
        have GC5 := Go.Lib.hid gc5
        clear hc3 gm5 gc5
        clear r5
        go_wp2_with fail
        refine HC3.out.mono ?_; rintro e w3 ⟨rfl, h3, k3⟩
        have gm6 := k3.row GM5.out hne
        have gc6 := k3.row GC5.out hne1
        have y : w3.cell? ⟨w0.heap.size + 1, 0, none⟩ = some (.int .i64 0) := row_cell gc6 0 _ rfl
        have z : w3.frozen? ⟨w0.heap.size + 1, 0, none⟩ = false := row_frozen gc6 0
        have gm7 := (heap_set_other (i := 0) (v := .int .i64 (n2 zs 4)) gc6 (show w0.heap.size ≠ w0.heap.size + 1 by omega)).trans gm6
        have gc7 : (w3.setCell ⟨w0.heap.size + 1, 0, none⟩ (.int .i64 (n2 zs 4))).heap[w0.heap.size + 1]? = some (.cells (cntA zs 1) 61 (0, 0)) := heap_set gc6
        have r7 := h3.box CT.out (show w0.heap.size ≤ w0.heap.size + 1 by omega) hlt gc6 0 (.int .i64 (n2 zs 4))
        have GM7 := Go.Lib.hid gm7
        have GC7 := Go.Lib.hid gc7
        have R7 := Go.Lib.hid r7
        clear gm7 gc7 r7
        clear h3 k3 gm6 gc6 HC3 GM5 GC5
        go_wp2_with fail
        go_roundw
        case rel => exact ⟨1, rfl, by omega, GM7.out, GC7.out, R7.out⟩
        case measure => simp [intOf]
      · have HC3 := Go.Lib.hid hc3
        have GM5 := Go.Lib.hid gm5
        have GC5 := Go.Lib.hid gc5
        clear hc3 gm5 gc5
        clear r5
        go_wp2_with fail
        refine HC3.out.mono ?_; rintro e w3 ⟨rfl, h3, k3⟩
        have gm6 := k3.row GM5.out hne
        have gc6 := k3.row GC5.out hne1
        have y : w3.cell? ⟨w0.heap.size + 1, 1, none⟩ = some (.int .i64 0) := row_cell gc6 1 _ rfl
        have z : w3.frozen? ⟨w0.heap.size + 1, 1, none⟩ = false := row_frozen gc6 1
        have gm7 := (heap_set_other (i := 1) (v := .int .i64 (n2 zs 6)) gc6 (show w0.heap.size ≠ w0.heap.size + 1 by omega)).trans gm6
        have gc7 : (w3.setCell ⟨w0.heap.size + 1, 1, none⟩ (.int .i64 (n2 zs 6))).heap[w0.heap.size + 1]? = some (.cells (cntA zs 2) 61 (0, 0)) := heap_set gc6
        have r7 := h3.box CT.out (show w0.heap.size ≤ w0.heap.size + 1 by omega) hlt gc6 1 (.int .i64 (n2 zs 6))
        have GM7 := Go.Lib.hid gm7
        have GC7 := Go.Lib.hid gc7
        have R7 := Go.Lib.hid r7
        clear gm7 gc7 r7
        clear h3 k3 gm6 gc6 HC3 GM5 GC5
        go_wp2_with fail
        go_roundw
        case rel => exact ⟨2, rfl, by omega, GM7.out, GC7.out, R7.out⟩
        case measure => simp [intOf]
      · have HC3 := Go.Lib.hid hc3
        have GM5 := Go.Lib.hid gm5
        have GC5 := Go.Lib.hid gc5
        clear hc3 gm5 gc5
        clear r5
        go_wp2_with fail
        refine HC3.out.mono ?_; rintro e w3 ⟨rfl, h3, k3⟩
        have gm6 := k3.row GM5.out hne
        have gc6 := k3.row GC5.out hne1
        have y : w3.cell? ⟨w0.heap.size + 1, 2, none⟩ = some (.int .i64 0) := row_cell gc6 2 _ rfl
        have z : w3.frozen? ⟨w0.heap.size + 1, 2, none⟩ = false := row_frozen gc6 2
        have gm7 := (heap_set_other (i := 2) (v := .int .i64 (n2 zs 8)) gc6 (show w0.heap.size ≠ w0.heap.size + 1 by omega)).trans gm6
        have gc7 : (w3.setCell ⟨w0.heap.size + 1, 2, none⟩ (.int .i64 (n2 zs 8))).heap[w0.heap.size + 1]? = some (.cells (cntA zs 3) 61 (0, 0)) := heap_set gc6
        have r7 := h3.box CT.out (show w0.heap.size ≤ w0.heap.size + 1 by omega) hlt gc6 2 (.int .i64 (n2 zs 8))
        have GM7 := Go.Lib.hid gm7
        have GC7 := Go.Lib.hid gc7
        have R7 := Go.Lib.hid r7
        clear gm7 gc7 r7
        clear h3 k3 gm6 gc6 HC3 GM5 GC5
        go_wp2_with fail
        go_roundw
        case rel => exact ⟨3, rfl, by omega, GM7.out, GC7.out, R7.out⟩
        case measure => simp [intOf]
      · have HC3 := Go.Lib.hid hc3
        have GM5 := Go.Lib.hid gm5
        have GC5 := Go.Lib.hid gc5
        clear hc3 gm5 gc5
        clear r5
        go_wp2_with fail
        refine HC3.out.mono ?_; rintro e w3 ⟨rfl, h3, k3⟩
        have gm6 := k3.row GM5.out hne
        have gc6 := k3.row GC5.out hne1
        have y : w3.cell? ⟨w0.heap.size + 1, 3, none⟩ = some (.int .i64 0) := row_cell gc6 3 _ rfl
        have z : w3.frozen? ⟨w0.heap.size + 1, 3, none⟩ = false := row_frozen gc6 3
        have gm7 := (heap_set_other (i := 3) (v := .int .i64 (n2 zs 10)) gc6 (show w0.heap.size ≠ w0.heap.size + 1 by omega)).trans gm6
        have gc7 : (w3.setCell ⟨w0.heap.size + 1, 3, none⟩ (.int .i64 (n2 zs 10))).heap[w0.heap.size + 1]? = some (.cells (cntA zs 4) 61 (0, 0)) := heap_set gc6
        have r7 := h3.box CT.out (show w0.heap.size ≤ w0.heap.size + 1 by omega) hlt gc6 3 (.int .i64 (n2 zs 10))
        have GM7 := Go.Lib.hid gm7
        have GC7 := Go.Lib.hid gc7
        have R7 := Go.Lib.hid r7
        clear gm7 gc7 r7
        clear h3 k3 gm6 gc6 HC3 GM5 GC5
        go_wp2_with fail
        go_roundw
        case rel => exact ⟨4, rfl, by omega, GM7.out, GC7.out, R7.out⟩
        case measure => simp [intOf]
    · obtain rfl : j = 4 := by omega
      have gc6 : wr.heap[w0.heap.size + 1]? = some (.cells #[.int .i64 (n2 zs 4), .int .i64 (n2 zs 6), .int .i64 (n2 zs 8), .int .i64 (n2 zs 10)] 61 (0, 0)) := gc5
      have x2 : wr.cell? ⟨r, 2, none⟩ = some (.bool false) := row_cell r5.1 2 _ rfl
      have f2 : wr.frozen? ⟨r, 2, none⟩ = false := row_frozen r5.1 2
      have r6 := r5.set_bad CT.out (bits .and .i64 (f0 : Int) 112 != 0)
      have gm6 := (heap_set_other (i := 2) (v := .bool (bits .and .i64 (f0 : Int) 112 != 0)) r5.1 hne).trans gm5
      have gc7 := (heap_set_other (i := 2) (v := .bool (bits .and .i64 (f0 : Int) 112 != 0)) r5.1 hne1).trans gc6
      have GM6 := Go.Lib.hid gm6
      have GC7 := Go.Lib.hid gc7
      have R6 := Go.Lib.hid r6
      clear gm6 gc7 r6
      clear gm5 gc5 gc6 r5
      go_wp2_with fail
      obtain ⟨X, hX⟩ : ∃ X, wr.setCell ⟨r, 2, none⟩ (.bool (bits .and .i64 (f0 : Int) 112 != 0)) = X := ⟨_, rfl⟩
      rw [hX] at GM6 GC7 R6 ⊢
      clear hX x2 f2
      obtain ⟨fs, hu⟩ := undMsg
      have hu' := Try.underlying61
      have ho := msg_one M (q := nilS) (a := nilS) (s := nilS) (d := nilS) ⟨rfl, rfl, rfl, rfl⟩
      refine Go.Mix.wp_region_mixT (Es := [2]) 3 (fun W => W.heap[w0.heap.size]? = some (.cells (MC M nilS nilS nilS nilS) 27 (0, 0)) ∧ W.heap[w0.heap.size + 1]? = some (.cells #[.int .i64 (n2 zs 4), .int .i64 (n2 zs 6), .int .i64 (n2 zs 8), .int .i64 (n2 zs 10)] 61 (0, 0))) mixed (by kernel_rfl) ⟨GM6.out, GC7.out⟩ ?_
      refine mixT_load_same 27 (.tmp 2) rfl rfl rfl w0.heap.size rfl _ _ _ _ (fun w2 h => h.1) hu rfl infoMsg ?_
      refine mixT_load_same 61 (.tmp 3) rfl rfl rfl (w0.heap.size + 1) rfl _ _ _ _ (fun w2 h => h.2) hu' rfl cnt_size ?_
      refine mixT_store_same 27 (.tmp 2) (.tmp 62) rfl rfl rfl w0.heap.size _ rfl rfl _ ⟨GM6.out, GC7.out⟩ GM6.out infoMsg ho ?_
      refine mixT_store_same_last 61 (.tmp 3) (.tmp 63) rfl rfl rfl (w0.heap.size + 1) _ rfl rfl _ GC7.out cnt_size (by simp [Value.oneCell']) ?_
      go_wp2_with fail
      exact ret_mc rfl rfl rfl rfl GM6.out GC7.out ⟨rfl, R6.out.below CT.out (Below.refl _ _).drew⟩
end Go.Proofs.Ythfhmbooeemaaaa

/- Message: the reader: what stands behind a message's first bytes. -/
namespace Go.Proofs.Ythfhmbooeemaaaa
open Go.RowKit
set_option maxRecDepth 100000
set_option linter.unusedVariables false

def toQn (x : List UInt8 × Int × Int) : Qn := ⟨x.1, x.2.1, x.2.2⟩
/-- so many questions -/
def rdQs (zs : List UInt8) : Nat → List Qn → Nat → Bool → List Qn × Nat × Bool
  | 0, l, k, bad => (l, k, bad)
  | i + 1, l, k, bad => rdQs zs i (l ++ [toQn (rdQ zs k bad).1]) (rdQ zs k bad).2.1 (rdQ zs k bad).2.2
theorem rdQ_le {zs : List UInt8} {k : Nat} {bad : Bool} (hk : k ≤ zs.length) : (rdQ zs k bad).2.1 ≤ zs.length := rdTwo_le (rdTwo_le (rdName_le hk))
theorem rdQs_le (zs : List UInt8) : ∀ (i : Nat) (l : List Qn) (k : Nat) (bad : Bool), k ≤ zs.length → (rdQs zs i l k bad).2.1 ≤ zs.length
  | 0, _, _, _, h => h
  | i + 1, l, k, bad, h => rdQs_le zs i _ _ _ (rdQ_le h)
/-- what the records of EDNS say -/
def optF (o : List Rc.RR) (b : Bool) : Bool × Int × Bool := o.foldl (fun s x => (true, x.cl, s.2.2 || decide (x.name ≠ [0]))) (false, 0, b)
theorem optF_snoc (o : List Rc.RR) (x : Rc.RR) (b : Bool) : optF (o ++ [x]) b = (true, x.cl, (optF o b).2.2 || decide (x.name ≠ [0])) := by
  unfold optF
  rw [List.foldl_append]
  rfl
abbrev bdQ (zs : List UInt8) (c0 k : Nat) := rdQs zs c0 [] k false
abbrev bdA (zs : List UInt8) (c0 c1 k : Nat) := rdSec zs c1 [] [] (bdQ zs c0 k).2.1 (bdQ zs c0 k).2.2
abbrev bdS (zs : List UInt8) (c0 c1 c2 k : Nat) := rdSec zs c2 [] [] (bdA zs c0 c1 k).2.2.1 (bdA zs c0 c1 k).2.2.2
abbrev bdD (zs : List UInt8) (c0 c1 c2 c3 k : Nat) := rdSec zs c3 [] [] (bdS zs c0 c1 c2 k).2.2.1 (bdS zs c0 c1 c2 k).2.2.2
/-- something else is wrong -/
def bdB (len : Nat) (A S D : List Rc.RR × List Rc.RR × Nat × Bool) : Bool := D.2.2.2 || decide (0 < A.2.1.length + S.2.1.length) || decide (1 < D.2.1.length) || !decide (D.2.2.1 = len)
def bdM (m : Msg) (q : List Qn) (a s d : List Rc.RR) (e : Bool) (z : Int) : Msg := ⟨m.id, m.resp, m.op, m.auth, m.cut, m.des, m.avail, m.code, q, a, s, d, e, z⟩
/-- what stands behind the first bytes -/
def rdBody (zs : List UInt8) (m : Msg) (c0 c1 c2 c3 : Nat) (k : Nat) (bad : Bool) : Msg × Nat × Bool :=
  if bad || decide (4 < c0) then (m, k, true) else
  let A := bdA zs c0 c1 k
  let S := bdS zs c0 c1 c2 k
  let D := bdD zs c0 c1 c2 c3 k
  let O := optF D.2.1 (bdB zs.length A S D)
  (bdM m (bdQ zs c0 k).1 A.1 S.1 D.1 O.1 O.2.1, D.2.2.1, O.2.2)
section
variable {r gb off cap : Nat} {zs : List UInt8} {base : Nat} {w0 : World}
theorem question_rk (c : RCtx r gb off cap zs base w0) {k : Nat} {bad : Bool} {w : World} (h : RS r gb off cap zs base w0 k bad w) (hk : k ≤ zs.length) :
    Calls Try.prog 61 #[.pointer (some ⟨r, 0, none⟩)] w (CEnd (.agg #[.string (mk (rdQ zs k bad).1.1), .int .i64 (rdQ zs k bad).1.2.1, .int .i64 (rdQ zs k bad).1.2.2]) (RS r gb off cap zs base w0 (rdQ zs k bad).2.1 (rdQ zs k bad).2.2) r w) := by
  refine (question_any r _ cap zs k bad base w h.1 (h.byts c) (fun x hx => by cases hx; exact c.hgr) hk c.hl c.hb (h.size c)).mono ?_
  rintro e w' ⟨rfl, h1, h2, h3⟩
  exact ⟨rfl, h.join c h1 h2 h3, h3⟩
theorem RS.boxRow {k : Nat} {bad : Bool} {w : World} (h : RS r gb off cap zs base w0 k bad w) (c : RCtx r gb off cap zs base w0) {g : Nat} (hg : w0.heap.size ≤ g) (hr : r < w0.heap.size) {cs : Array Value} {T : TypeId} (hh : w.heap[g]? = some (.cells cs T (0, 0))) (new : Array Value) :
    RS r gb off cap zs base w0 k bad (w.setRow g new) :=
  ⟨(setRow_other _ _ _ _ (show r ≠ g by omega)).trans h.1, below_setRow h.2.1 (Nat.le_trans c.hbw hg) _, by rw [setRow_size]; exact h.2.2.1, fun j hj hjr => by rw [setRow_other _ _ _ _ (show j ≠ g by omega)]; exact h.2.2.2 j hj hjr⟩
theorem World.ownsRow.setCellOther {w : World} {b e sz n g T : Nat} {v : Value} {xs : List Value} {cs : Array Value} {fr : Nat × Nat} (h : w.ownsRow b e sz v n xs) (hg : w.heap[g]? = some (.cells cs T fr)) (hT : T ≠ e) (i : Nat) (u : Value) : (w.setCell ⟨g, i, none⟩ u).ownsRow b e sz v n xs := by
  refine ⟨h.1, ?_⟩
  rcases h.2 with h2 | ⟨g', cap, cur, h1, h2, h3, h4⟩
  · exact .inl h2
  · refine .inr ⟨g', cap, cur, h1, h2, (heap_set_other hg (fun e => ?_)).trans h3, h4⟩
    subst e
    rw [hg] at h3
    simp only [Option.some.injEq, Obj.cells.injEq] at h3
    exact hT h3.2.1
theorem rdSec_cnt (zs : List UInt8) : ∀ (i : Nat) (l o : List Rc.RR) (k : Nat) (bad : Bool), (rdSec zs i l o k bad).1.length ≤ l.length + i ∧ (rdSec zs i l o k bad).2.1.length ≤ o.length + i
  | 0, _, _, _, _ => ⟨Nat.le_refl _, Nat.le_refl _⟩
  | i + 1, l, o, k, bad => by
    rw [rdSec]
    split
    · exact ⟨by simp, by simp⟩
    · split
      · have := rdSec_cnt zs i l (o ++ [(rdRec zs k bad).1]) (rdRec zs k bad).2.1 false
        simp only [List.length_append, List.length_singleton] at this
        exact ⟨by omega, by omega⟩
      · have := rdSec_cnt zs i (l ++ [(rdRec zs k bad).1]) o (rdRec zs k bad).2.1 (!checkB (rdRec zs k bad).1 || decide (64 < l.length + 1))
        simp only [List.length_append, List.length_singleton] at this
        exact ⟨by omega, by omega⟩
/-- a message's lists, in memory of the call's own -/
structure BRows (B : Nat) (w : World) (q a s d o : Value) (l : List Qn) (al sl dl ol : List Rc.RR) : Prop where
  q : w.ownsRow B 47 3 q l.length (encQn l)
  a : w.ownsRow B 45 5 a al.length (encR al)
  s : w.ownsRow B 45 5 s sl.length (encR sl)
  d : w.ownsRow B 45 5 d dl.length (encR dl)
  o : w.ownsRow B 45 5 o ol.length (encR ol)
theorem BRows.below {B : Nat} {w w' : World} {q a s d o : Value} {l : List Qn} {al sl dl ol : List Rc.RR} (h : BRows B w q a s d o l al sl dl ol) (hb : Below w.heap.size w w') : BRows B w' q a s d o l al sl dl ol :=
  ⟨owns_below h.q hb, owns_below h.a hb, owns_below h.s hb, owns_below h.d hb, owns_below h.o hb⟩
theorem BRows.other {B : Nat} {w : World} {q a s d o : Value} {l : List Qn} {al sl dl ol : List Rc.RR} (h : BRows B w q a s d o l al sl dl ol) {g T : Nat} {cs : Array Value} {fr : Nat × Nat} (hg : w.heap[g]? = some (.cells cs T fr)) (h1 : T ≠ 47) (h2 : T ≠ 45) (i : Nat) (u : Value) : BRows B (w.setCell ⟨g, i, none⟩ u) q a s d o l al sl dl ol :=
  ⟨World.ownsRow.setCellOther h.q hg h1 i u, World.ownsRow.setCellOther h.a hg h2 i u, World.ownsRow.setCellOther h.s hg h2 i u, World.ownsRow.setCellOther h.d hg h2 i u, World.ownsRow.setCellOther h.o hg h2 i u⟩
def SecK (r gb off cap : Nat) (zs : List UInt8) (base : Nat) (w0 w : World) (F : List Rc.RR × List Rc.RR × Nat × Bool) (e : Ending) (w' : World) : Prop :=
  ∃ a c a' c', e = .returned (.tuple #[.slice a F.1.length c, .slice a' F.2.1.length c']) ∧ w'.ownsRow w.heap.size 45 5 (.slice a F.1.length c) F.1.length (encR F.1) ∧ w'.ownsRow w.heap.size 45 5 (.slice a' F.2.1.length c') F.2.1.length (encR F.2.1) ∧ RS r gb off cap zs base w0 F.2.2.1 F.2.2.2 w' ∧ KeepsR r w w'
theorem section_rk (c : RCtx r gb off cap zs base w0) {k : Nat} {bad : Bool} {w : World} (h : RS r gb off cap zs base w0 k bad w) (hk : k ≤ zs.length) (n : Nat) (hn : n ≤ 65535) :
    Calls Try.prog 62 #[.pointer (some ⟨r, 0, none⟩), .int .i64 n] w (SecK r gb off cap zs base w0 w (rdSec zs n [] [] k bad)) := by
  have c2 : RCtx r gb off cap zs base w := ⟨h.byts c, c.hgr, c.hl, c.hb, h.size c⟩
  have h2 : RS r gb off cap zs base w k bad w := RS.start h.1 c2
  refine (section_rs c2 h2 hk n hn).mono ?_
  rintro e w' ⟨v, u, rfl, h1, h3, h4⟩
  obtain ⟨a, c', rfl, _, _⟩ := (SlC.of_owns h1).slice
  obtain ⟨a', c'', rfl, _, _⟩ := (SlC.of_owns h3).slice
  exact ⟨_, _, _, _, rfl, h1, h3, h.join c h4.1 h4.2.1 h4.2.2, h4.2.2⟩
end
def BodyEnd (r gb off cap : Nat) (zs : List UInt8) (base : Nat) (w0 : World) (F : Msg × Nat × Bool) (e : Ending) (w' : World) : Prop :=
  ∃ q a s d, e = .returned (MV F.1 q a s d) ∧ MsgT w' F.1 q a s d ∧ RS r gb off cap zs base w0 F.2.1 F.2.2 w'
set_option maxHeartbeats 8000000 in
theorem body_rs {r gb off cap : Nat} {zs : List UInt8} {base : Nat} {w0 : World} (c : RCtx r gb off cap zs base w0) {k : Nat} {bad : Bool} (h : RS r gb off cap zs base w0 k bad w0) (hk : k ≤ zs.length) (m : Msg) (hm : m.qs = [] ∧ m.an = [] ∧ m.sv = [] ∧ m.ad = [] ∧ m.edns = false ∧ m.size = 0) (c0 c1 c2 c3 : Nat) (hc0 : c0 ≤ 65535) (hc1 : c1 ≤ 65535) (hc2 : c2 ≤ 65535) (hc3 : c3 ≤ 65535) :
    Calls Try.prog 27 #[.pointer (some ⟨r, 0, none⟩), MV m nilS nilS nilS nilS, .agg #[.int .i64 c0, .int .i64 c1, .int .i64 c2, .int .i64 c3]] w0 (BodyEnd r gb off cap zs base w0 (rdBody zs m c0 c1 c2 c3 k bad)) := by
  have mixed : Try.prog.follows .mixedOrders = true := by kernel_rfl
  obtain ⟨mid, mre, mop, mau, mcu, mde, mav, mco, mqs, man, msv, mad, med, msi⟩ := m
  obtain ⟨hq, ha, hs, hd, he, hz⟩ := hm
  simp only at hq ha hs hd he hz
  subst hq ha hs hd he hz
  have hlt := h.1.lt
  have hne : w0.heap.size ≠ r := by omega
  have hne1 : w0.heap.size + 1 ≠ r := by omega
  have hne2 : w0.heap.size + 2 ≠ r := by omega
  obtain ⟨X, hX⟩ : ∃ X, ((w0.alloc (.cells #[.int .i64 mid, .bool mre, .int .i64 mop, .bool mau, .bool mcu, .bool mde, .bool mav, .int .i64 mco, .slice none 0 0, .slice none 0 0, .slice none 0 0, .slice none 0 0, .bool false, .int .i64 0] 27)).alloc (.cells #[.int .i64 c0, .int .i64 c1, .int .i64 c2, .int .i64 c3] 61)).alloc (.cells #[.int .i64 0, .bool false, .int .i64 0, .bool false, .bool false, .bool false, .bool false, .int .i64 0, .slice none 0 0, .slice none 0 0, .slice none 0 0, .slice none 0 0, .bool false, .int .i64 0] 27) = X := ⟨_, rfl⟩
  have gm : X.heap[w0.heap.size]? = some (.cells (MC ⟨mid, mre, mop, mau, mcu, mde, mav, mco, [], [], [], [], false, 0⟩ nilS nilS nilS nilS) 27 (0, 0)) := by rw [← hX]; exact heap_old (heap_old (heap_alloc_new _ _) _) _
  have gc : X.heap[w0.heap.size + 1]? = some (.cells #[.int .i64 c0, .int .i64 c1, .int .i64 c2, .int .i64 c3] 61 (0, 0)) := by rw [← hX]; exact heap_old (heap_new1 _ _ _) _
  have go : X.heap[w0.heap.size + 2]? = some (.cells (MC ⟨0, false, 0, false, false, false, false, 0, [], [], [], [], false, 0⟩ nilS nilS nilS nilS) 27 (0, 0)) := by
    rw [← hX]
    have := World.alloc_heap_new ((w0.alloc (.cells #[.int .i64 mid, .bool mre, .int .i64 mop, .bool mau, .bool mcu, .bool mde, .bool mav, .int .i64 mco, .slice none 0 0, .slice none 0 0, .slice none 0 0, .slice none 0 0, .bool false, .int .i64 0] 27)).alloc (.cells #[.int .i64 c0, .int .i64 c1, .int .i64 c2, .int .i64 c3] 61)) (.cells (MC ⟨0, false, 0, false, false, false, false, 0, [], [], [], [], false, 0⟩ nilS nilS nilS nilS) 27)
    rw [World.size_alloc, World.size_alloc] at this
    exact this
  have hrX : RS r gb off cap zs base w0 k bad X := by
    refine h.below c ?_
    rw [← hX]
    exact (((Below.refl _ w0).alloc (Nat.le_refl _) _).alloc (by simp) _).alloc (by simp; omega) _
  have x2 : X.cell? ⟨r, 2, none⟩ = some (.bool bad) := row_cell hrX.1 2 _ rfl
  have f2 : X.frozen? ⟨r, 2, none⟩ = false := row_frozen hrX.1 2
  have xc0 : X.cell? ⟨w0.heap.size + 1, 0, none⟩ = some (.int .i64 c0) := row_cell gc 0 _ rfl
  have hset := fun x => hrX.set_bad c x
  obtain ⟨Y, hY⟩ : ∃ Y : Bool → World, ∀ x, X.setCell ⟨r, 2, none⟩ (.bool x) = Y x := ⟨_, fun _ => rfl⟩
  have gmY := fun x => (heap_set_other (i := 2) (v := .bool x) hrX.1 hne).trans gm
  have gcY := fun x => (heap_set_other (i := 2) (v := .bool x) hrX.1 hne1).trans gc
  have goY := fun x => (heap_set_other (i := 2) (v := .bool x) hrX.1 hne2).trans go
  simp only [hY] at hset gmY gcY goY
  obtain ⟨fs, hu⟩ := undMsg
  have HSET := Go.Lib.hid hset
  have GMY := Go.Lib.hid gmY
  have GCY := Go.Lib.hid gcY
  have GOY := Go.Lib.hid goY
  have CT := Go.Lib.hid c
  have HU := Go.Lib.hid hu
  clear hset gmY gcY goY c hu
  clear h hrX gm gc go
  go_enter Try.func27, Try.ntmps27
  by_cases hbb : (bad || decide (4 < c0)) = true
  · have hF : rdBody zs ⟨mid, mre, mop, mau, mcu, mde, mav, mco, [], [], [], [], false, 0⟩ c0 c1 c2 c3 k bad = (⟨mid, mre, mop, mau, mcu, mde, mav, mco, [], [], [], [], false, 0⟩, k, true) := by unfold rdBody; rw [if_pos hbb]
    rw [hF]
    have hone := msg_one ⟨mid, mre, mop, mau, mcu, mde, mav, mco, [], [], [], [], false, 0⟩ (q := nilS) (a := nilS) (s := nilS) (d := nilS) ⟨rfl, rfl, rfl, rfl⟩
    have r3 := HSET.out true
    have x3 : (Y true).cell? ⟨r, 2, none⟩ = some (.bool true) := row_cell r3.1 2 _ rfl
    have hb0 : w0.heap.size ≤ w0.heap.size + 2 := by omega
    have rF := RS.boxRow r3 CT.out hb0 hlt (GOY.out true) (MC ⟨mid, mre, mop, mau, mcu, mde, mav, mco, [], [], [], [], false, 0⟩ nilS nilS nilS nilS)
    have RF := Go.Lib.hid rF
    have HB0 := Go.Lib.hid hb0
    have R3 := Go.Lib.hid r3
    clear rF hb0 r3
    cases bad with
    | true =>
      clear hbb hF
      go_wp2_with (first | (refine wpList_load_row rfl 27 (.tmp 4) rfl w0.heap.size rfl _ _ (0, 0) _ (GMY.out true) HU.out rfl infoMsg ?_) | (refine wpList_store_row rfl 27 (.tmp 6) (.tmp 28) rfl (w0.heap.size + 2) (MC ⟨mid, mre, mop, mau, mcu, mde, mav, mco, [], [], [], [], false, 0⟩ nilS nilS nilS nilS) rfl rfl _ _ (GOY.out true) infoMsg rfl hone ?_))
      exact ret_msg (m := ⟨mid, mre, mop, mau, mcu, mde, mav, mco, [], [], [], [], false, 0⟩) rfl rfl rfl (setRow_heap _ _ _ _ _ _ (GOY.out true)) ⟨nilS, nilS, nilS, nilS, rfl, ⟨SlT.nil _ _ _, SlT.nil _ _ _, SlT.nil _ _ _, SlT.nil _ _ _⟩, RF.out⟩
    | false =>
      have t4 : (4 : Int) < (c0 : Int) := by simp at hbb; omega
      clear hbb hF
      go_wp2_with (first | (refine wpList_load_row rfl 27 (.tmp 4) rfl w0.heap.size rfl _ _ (0, 0) _ (GMY.out true) HU.out rfl infoMsg ?_) | (refine wpList_store_row rfl 27 (.tmp 6) (.tmp 28) rfl (w0.heap.size + 2) (MC ⟨mid, mre, mop, mau, mcu, mde, mav, mco, [], [], [], [], false, 0⟩ nilS nilS nilS nilS) rfl rfl _ _ (GOY.out true) infoMsg rfl hone ?_))
      exact ret_msg (m := ⟨mid, mre, mop, mau, mcu, mde, mav, mco, [], [], [], [], false, 0⟩) rfl rfl rfl (setRow_heap _ _ _ _ _ _ (GOY.out true)) ⟨nilS, nilS, nilS, nilS, rfl, ⟨SlT.nil _ _ _, SlT.nil _ _ _, SlT.nil _ _ _, SlT.nil _ _ _⟩, RF.out⟩
  · have hbf : bad = false := by cases bad <;> simp_all
    subst hbf
    have h4 : ¬ 4 < c0 := by simpa using hbb
    have hbb2 : ¬ (false || decide (4 < c0)) = true := hbb
    have t4 : ¬ (4 : Int) < (c0 : Int) := by omega
    have r3 := HSET.out false
    have x3 : (Y false).cell? ⟨r, 2, none⟩ = some (.bool false) := row_cell r3.1 2 _ rfl
    have xc1 : (Y false).cell? ⟨w0.heap.size + 1, 0, none⟩ = some (.int .i64 c0) := row_cell (GCY.out false) 0 _ rfl
    have gmY := GMY.out false
    have gcY := GCY.out false
    have goY := GOY.out false
    have R3 := Go.Lib.hid r3
    have GM := Go.Lib.hid gmY
    have GC := Go.Lib.hid gcY
    have GO := Go.Lib.hid goY
    clear r3 gmY gcY goY
    clear HSET GMY GCY GOY hbb h4
    go_wp2_with fail
    have e0 : ∃ Z, Y false = Z := ⟨_, rfl⟩
    obtain ⟨Z, hZ⟩ := e0
    rw [hZ] at R3 GM GC GO ⊢
    clear hZ hY hX x2 f2 xc0 x3 xc1 t4
    go_loopw [31] (fun i wr => ∃ (j : Nat) (l : List Qn) (q : Nat) (bd : Bool) (v : Value), i = .int .i64 j ∧ j ≤ c0 ∧ q ≤ zs.length ∧ rdQs zs c0 [] k false = rdQs zs (c0 - j) l q bd ∧ l.length ≤ j ∧ wr.ownsRow w0.heap.size 47 3 v l.length (encQn l) ∧
      wr.heap[w0.heap.size]? = some (.cells (MC ⟨mid, mre, mop, mau, mcu, mde, mav, mco, [], [], [], [], false, 0⟩ v nilS nilS nilS) 27 (0, 0)) ∧ wr.heap[w0.heap.size + 1]? = some (.cells #[.int .i64 c0, .int .i64 c1, .int .i64 c2, .int .i64 c3] 61 (0, 0)) ∧
      wr.heap[w0.heap.size + 2]? = some (.cells (MC ⟨0, false, 0, false, false, false, false, 0, [], [], [], [], false, 0⟩ nilS nilS nilS nilS) 27 (0, 0)) ∧ RS r gb off cap zs base w0 q bd wr) (fun i _ => c0 - (intOf i).toNat)
    case atStart => exact ⟨0, [], k, false, nilS, rfl, Nat.zero_le _, hk, rfl, Nat.zero_le _, World.ownsRow_nil _ _ _ _, GM.out, GC.out, GO.out, R3.out⟩
    case round =>
      clear GM GC GO R3
      obtain ⟨j, l, q, bd, v, rfl, hj, hq, hrest, hll, hov, gm, gc, go, hrs⟩ := hrel
      obtain ⟨a8, c8, rfl, _, _⟩ := (SlC.of_owns hov).slice
      by_cases hlt2 : j < c0
      · have t1 : (j : Int) < (c0 : Int) := by omega
        have q2 : IntKind.i64.wrap ((j : Int) + 1) = (j : Int) + 1 := wrapi (by omega) (by omega)
        have hsz : w0.heap.size ≤ wr.heap.size := hrs.2.2.1
        have hqn := question_rk CT.out (hrs.below CT.out (Below.refl _ _).drew) hq
        have hqr := rdQ_le (bad := bd) hq
        rw [show c0 - j = (c0 - (j + 1)) + 1 by omega, rdQs] at hrest
        generalize rdQ zs q bd = G at *
        obtain ⟨⟨qn, qt, qc⟩, qk, qb⟩ := G
        simp only [toQn] at hqn hqr hrest
        have C8 := fun w3 => RowC.cell (g := w0.heap.size) (T := 27) (cs := MC ⟨mid, mre, mop, mau, mcu, mde, mav, mco, [], [], [], [], false, 0⟩ (.slice a8 l.length c8) nilS nilS nilS) 8 _ rfl w3
        have hnn : Nonempty (Subtype (RowC w0.heap.size (MC ⟨mid, mre, mop, mau, mcu, mde, mav, mco, [], [], [], [], false, 0⟩ (.slice a8 l.length c8) nilS nilS nilS) 27)) := ⟨⟨wr, gm⟩⟩
        have HQN := Go.Lib.hid hqn
        have HREST := Go.Lib.hid hrest
        have HOV := Go.Lib.hid hov
        have GM := Go.Lib.hid gm
        have GC := Go.Lib.hid gc
        have GO := Go.Lib.hid go
        have HRS := Go.Lib.hid hrs
        clear hqn hrest hov gm gc go hrs
        go_wp2_with fail
        refine Go.Mix.wp_region_mixT (Es := [3, 4, 5]) 7 (RowC w0.heap.size (MC ⟨mid, mre, mop, mau, mcu, mde, mav, mco, [], [], [], [], false, 0⟩ (.slice a8 l.length c8) nilS nilS nilS) 27) mixed (by kernel_rfl) GM.out ?_
        iterate 3 (refine Go.Mix.mixT_step rfl (fun K hK => ?_); have HKK := Go.Lib.hid hK; clear hK; go_simp; refine HKK.out _ _ ?_; clear HKK K)
        refine Go.Mix.mixT_eff rfl (fun K hK => ?_)
        have HKK := Go.Lib.hid hK
        clear hK
        go_simp
        refine HQN.out.mono ?_; rintro e w1 ⟨rfl, h1, k1⟩
        have gm1 := k1.row GM.out hne
        have gc1 := k1.row GC.out hne1
        have go1 := k1.row GO.out hne2
        have ov1 := World.ownsRow.keepsR HOV.out k1 hlt
        have hs1 : wr.heap.size ≤ w1.heap.size := k1.1
        have H1 := Go.Lib.hid h1
        have GM1 := Go.Lib.hid gm1
        have GC1 := Go.Lib.hid gc1
        have GO1 := Go.Lib.hid go1
        have OV1 := Go.Lib.hid ov1
        have K1 := Go.Lib.hid k1
        clear h1 gm1 gc1 go1 ov1 k1
        go_simp
        refine HKK.out _ _ GM1.out ?_
        clear HKK K HQN HRS GM GC GO HOV
        have ga : (w1.alloc (.cells #[.string (mk qn), .int .i64 qt, .int .i64 qc] 47)).heap[w0.heap.size]? = _ := heap_old GM1.out _
        have GA := Go.Lib.hid ga
        clear ga
        refine Go.Mix.mixT_eff rfl (fun K hK => ?_)
        have HKK := Go.Lib.hid hK
        clear hK
        go_simp
        refine HKK.out _ _ GA.out ?_
        clear HKK K
        refine mixT_app1 eiQn (.tmp 34) (.tmp 37) rfl rfl rfl w0.heap.size rfl rfl (OV1.out.alloc _) (news := [.string (mk qn), .int .i64 qt, .int .i64 qc]) rfl (new_cells _ _ _) (one_qs [⟨qn, qt, qc⟩]) (by unfold maxLen; omega) (by omega) (by simp; omega) ?_
        intro v1 W1 hown1 hg1 hsn1
        obtain ⟨a9, c9, rfl, _, _⟩ := (SlC.of_owns hown1).slice
        have gm2 : W1.heap[w0.heap.size]? = _ := heap_kept GA.out (OV1.out.alloc _) (by decide) hg1
        have gc2 : W1.heap[w0.heap.size + 1]? = _ := heap_kept (heap_old GC1.out _) (OV1.out.alloc _) (by decide) hg1
        have go2 : W1.heap[w0.heap.size + 2]? = _ := heap_kept (heap_old GO1.out _) (OV1.out.alloc _) (by decide) hg1
        have rs2 := (H1.out.below CT.out ((Below.refl _ w1).alloc (Nat.le_refl _) (.cells #[.string (mk qn), .int .i64 qt, .int .i64 qc] 47))).app CT.out hlt (OV1.out.alloc _) hg1
        have hown2 : W1.ownsRow w0.heap.size 47 3 (.slice a9 (l.length + 1) c9) (l ++ [(⟨qn, qt, qc⟩ : Qn)]).length (encQn (l ++ [(⟨qn, qt, qc⟩ : Qn)])) := by
          rw [List.length_append, show encQn (l ++ [(⟨qn, qt, qc⟩ : Qn)]) = encQn l ++ [.string (mk qn), .int .i64 qt, .int .i64 qc] by simp [encQn, en3]]; exact hown1
        have hll2 : (l ++ [(⟨qn, qt, qc⟩ : Qn)]).length ≤ j + 1 := by rw [List.length_append]; simp; omega
        refine ⟨gm2, ?_⟩
        have GM2 := Go.Lib.hid gm2
        have GC2 := Go.Lib.hid gc2
        have GO2 := Go.Lib.hid go2
        have RS2 := Go.Lib.hid rs2
        have HOWN2 := Go.Lib.hid hown2
        have HLL2 := Go.Lib.hid hll2
        clear gm2 gc2 go2 rs2 hown2 hll2
        clear hown1 hg1 hsn1 H1 GM1 GC1 GO1 OV1 GA K1
        iterate 1 (refine Go.Mix.mixT_step rfl (fun K hK => ?_); have HKK := Go.Lib.hid hK; clear hK; go_simp; refine HKK.out _ _ ?_; clear HKK K)
        refine Go.Mix.mixT_last rfl (fun K hK => ?_)
        have HKK := Go.Lib.hid hK
        clear hK
        have y8 : W1.cell? ⟨w0.heap.size, 8, none⟩ = some (.slice a8 l.length c8) := row_cell GM2.out 8 _ rfl
        have z8 : W1.frozen? ⟨w0.heap.size, 8, none⟩ = false := row_frozen GM2.out 8
        have gm3 : (W1.setCell ⟨w0.heap.size, 8, none⟩ (.slice a9 (l.length + 1) c9)).heap[w0.heap.size]? = some (.cells (MC ⟨mid, mre, mop, mau, mcu, mde, mav, mco, [], [], [], [], false, 0⟩ (.slice a9 (l.length + 1) c9) nilS nilS nilS) 27 (0, 0)) := heap_set GM2.out
        have gc3 := (heap_set_other (i := 8) (v := .slice a9 (l.length + 1) c9) GM2.out (show w0.heap.size + 1 ≠ w0.heap.size by omega)).trans GC2.out
        have go3 := (heap_set_other (i := 8) (v := .slice a9 (l.length + 1) c9) GM2.out (show w0.heap.size + 2 ≠ w0.heap.size by omega)).trans GO2.out
        have rs3 := RS2.out.box CT.out (Nat.le_refl _) hlt GM2.out 8 (.slice a9 (l.length + 1) c9)
        have ov3 := World.ownsRow.setCellOther HOWN2.out GM2.out (by decide) 8 (.slice a9 (l.length + 1) c9)
        have GM3 := Go.Lib.hid gm3
        have GC3 := Go.Lib.hid gc3
        have GO3 := Go.Lib.hid go3
        have RS3 := Go.Lib.hid rs3
        have OV3 := Go.Lib.hid ov3
        clear gm3 gc3 go3 rs3 ov3
        clear C8
        go_simp
        refine HKK.out _ _ ?_
        clear HKK K hnn GM2 GC2 GO2 RS2 HOWN2 y8 z8
        go_wp2_with fail
        go_roundw
        case rel => exact ⟨j + 1, l ++ [⟨qn, qt, qc⟩], qk, qb, _, by go_num, by omega, hqr, HREST.out, HLL2.out, OV3.out, GM3.out, GC3.out, GO3.out, RS3.out⟩
        case measure => simp [intOf]; omega
      · have t1 : ¬ (j : Int) < (c0 : Int) := by omega
        obtain rfl : j = c0 := by omega
        rw [Nat.sub_self, rdQs] at hrest
        obtain ⟨F, hF⟩ : ∃ F, F = rdBody zs ⟨mid, mre, mop, mau, mcu, mde, mav, mco, [], [], [], [], false, 0⟩ j c1 c2 c3 k false := ⟨_, rfl⟩
        have HF0 := Go.Lib.hid hF
        unfold rdBody at hF
        rw [if_neg hbb2] at hF
        unfold bdD bdS bdA bdQ at hF
        rw [hrest] at hF
        simp only at hF
        have hA := fun (w : World) (h : RS r gb off cap zs base w0 q bd w) => section_rk CT.out h hq c1 hc1
        have hqA := rdSec_le zs c1 [] [] q bd hq
        have hnA := (rdSec_cnt zs c1 [] [] q bd).2
        generalize rdSec zs c1 [] [] q bd = A at *
        obtain ⟨al, ao, ak, ab⟩ := A
        simp only [List.length_nil, Nat.zero_add] at hqA hnA hF
        have hS := fun (w : World) (h : RS r gb off cap zs base w0 ak ab w) => section_rk CT.out h hqA c2 hc2
        have hqS := rdSec_le zs c2 [] [] ak ab hqA
        have hnS := (rdSec_cnt zs c2 [] [] ak ab).2
        generalize rdSec zs c2 [] [] ak ab = S at *
        obtain ⟨sl, so, sk, sb⟩ := S
        simp only [List.length_nil, Nat.zero_add] at hqS hnS hF
        have hD := fun (w : World) (h : RS r gb off cap zs base w0 sk sb w) => section_rk CT.out h hqS c3 hc3
        have hqD := rdSec_le zs c3 [] [] sk sb hqS
        have hnD := (rdSec_cnt zs c3 [] [] sk sb).2
        generalize rdSec zs c3 [] [] sk sb = D at *
        obtain ⟨dl, do_, dk, db⟩ := D
        simp only [List.length_nil, Nat.zero_add] at hqD hnD hF
        unfold SecK at hA hS hD
        simp only at hA hS hD
        have ca := hA wr hrs
        have x2 : wr.cell? ⟨w0.heap.size + 1, 1, none⟩ = some (.int .i64 c1) := row_cell gc 1 _ rfl
        have HF := Go.Lib.hid hF
        have HA := Go.Lib.hid hA
        have HS := Go.Lib.hid hS
        have HD := Go.Lib.hid hD
        have CA := Go.Lib.hid ca
        have OQ0 := Go.Lib.hid hov
        have GM0 := Go.Lib.hid gm
        have GC0 := Go.Lib.hid gc
        have GO0 := Go.Lib.hid go
        have HRS := Go.Lib.hid hrs
        clear hF hA hS hD ca hov gm gc go hrs
        clear hrest
        go_wp2_with fail
        clear x2
        refine CA.out.mono ?_; rintro e u1 ⟨a1, d1, b1, e1, rfl, ho, hp, hrs, kk⟩
        have gm := kk.row GM0.out hne
        have gc := kk.row GC0.out hne1
        have go := kk.row GO0.out hne2
        have hOQ := World.ownsRow.keepsR OQ0.out kk hlt
        have hb1 := owns_base ho HRS.out.2.2.1
        have hb2 := owns_base hp HRS.out.2.2.1
        have y : u1.cell? ⟨w0.heap.size, 9, none⟩ = some (.slice none 0 0) := row_cell gm 9 _ rfl
        have z : u1.frozen? ⟨w0.heap.size, 9, none⟩ = false := row_frozen gm 9
        obtain ⟨U1, hU⟩ : ∃ W, u1.setCell ⟨w0.heap.size, 9, none⟩ (.slice a1 al.length d1) = W := ⟨_, rfl⟩
        have gm2 : U1.heap[w0.heap.size]? = some (.cells (MC ⟨mid, mre, mop, mau, mcu, mde, mav, mco, [], [], [], [], false, 0⟩ (.slice a8 l.length c8) (.slice a1 al.length d1) nilS nilS) 27 (0, 0)) := by rw [← hU]; exact heap_set gm
        have gc2 : U1.heap[w0.heap.size + 1]? = some (.cells #[.int .i64 j, .int .i64 c1, .int .i64 c2, .int .i64 c3] 61 (0, 0)) := by rw [← hU]; exact (heap_set_other gm (by omega)).trans gc
        have go2 : U1.heap[w0.heap.size + 2]? = some (.cells (MC ⟨0, false, 0, false, false, false, false, 0, [], [], [], [], false, 0⟩ nilS nilS nilS nilS) 27 (0, 0)) := by rw [← hU]; exact (heap_set_other gm (by omega)).trans go
        have rs2 : RS r gb off cap zs base w0 ak ab U1 := by rw [← hU]; exact hrs.box CT.out (Nat.le_refl _) hlt gm 9 _
        have kOQ : U1.ownsRow w0.heap.size 47 3 (.slice a8 l.length c8) l.length (encQn l) := by rw [← hU]; exact World.ownsRow.setCellOther hOQ gm (by decide) _ _
        have kOA1 : U1.ownsRow w0.heap.size 45 5 (.slice a1 al.length d1) al.length (encR al) := by rw [← hU]; exact World.ownsRow.setCellOther hb1 gm (by decide) _ _
        have kOB1 : U1.ownsRow w0.heap.size 45 5 (.slice b1 ao.length e1) ao.length (encR ao) := by rw [← hU]; exact World.ownsRow.setCellOther hb2 gm (by decide) _ _
        have cn := HS.out U1 rs2
        have x2 : U1.cell? ⟨w0.heap.size + 1, 2, none⟩ = some (.int .i64 c2) := row_cell gc2 2 _ rfl
        clear HRS
        have OQ1 := Go.Lib.hid kOQ
        have OA11 := Go.Lib.hid kOA1
        have OB11 := Go.Lib.hid kOB1
        have GM1 := Go.Lib.hid gm2
        have GC1 := Go.Lib.hid gc2
        have GO1 := Go.Lib.hid go2
        have HRS := Go.Lib.hid rs2
        have CS := Go.Lib.hid cn
        clear kOQ kOA1 kOB1 gm2 gc2 go2 rs2 cn
        clear hrs ho hp kk gm gc go hOQ hb1 hb2 CA GM0 GC0 GO0 OQ0
        go_wp2_with fail
        clear y z hU
        clear x2
        refine CS.out.mono ?_; rintro e u2 ⟨a2, d2, b2, e2, rfl, ho, hp, hrs, kk⟩
        have gm := kk.row GM1.out hne
        have gc := kk.row GC1.out hne1
        have go := kk.row GO1.out hne2
        have hOQ := World.ownsRow.keepsR OQ1.out kk hlt
        have hOA1 := World.ownsRow.keepsR OA11.out kk hlt
        have hOB1 := World.ownsRow.keepsR OB11.out kk hlt
        have hb1 := owns_base ho HRS.out.2.2.1
        have hb2 := owns_base hp HRS.out.2.2.1
        have y : u2.cell? ⟨w0.heap.size, 10, none⟩ = some (.slice none 0 0) := row_cell gm 10 _ rfl
        have z : u2.frozen? ⟨w0.heap.size, 10, none⟩ = false := row_frozen gm 10
        obtain ⟨U2, hU⟩ : ∃ W, u2.setCell ⟨w0.heap.size, 10, none⟩ (.slice a2 sl.length d2) = W := ⟨_, rfl⟩
        have gm2 : U2.heap[w0.heap.size]? = some (.cells (MC ⟨mid, mre, mop, mau, mcu, mde, mav, mco, [], [], [], [], false, 0⟩ (.slice a8 l.length c8) (.slice a1 al.length d1) (.slice a2 sl.length d2) nilS) 27 (0, 0)) := by rw [← hU]; exact heap_set gm
        have gc2 : U2.heap[w0.heap.size + 1]? = some (.cells #[.int .i64 j, .int .i64 c1, .int .i64 c2, .int .i64 c3] 61 (0, 0)) := by rw [← hU]; exact (heap_set_other gm (by omega)).trans gc
        have go2 : U2.heap[w0.heap.size + 2]? = some (.cells (MC ⟨0, false, 0, false, false, false, false, 0, [], [], [], [], false, 0⟩ nilS nilS nilS nilS) 27 (0, 0)) := by rw [← hU]; exact (heap_set_other gm (by omega)).trans go
        have rs2 : RS r gb off cap zs base w0 sk sb U2 := by rw [← hU]; exact hrs.box CT.out (Nat.le_refl _) hlt gm 10 _
        have kOQ : U2.ownsRow w0.heap.size 47 3 (.slice a8 l.length c8) l.length (encQn l) := by rw [← hU]; exact World.ownsRow.setCellOther hOQ gm (by decide) _ _
        have kOA1 : U2.ownsRow w0.heap.size 45 5 (.slice a1 al.length d1) al.length (encR al) := by rw [← hU]; exact World.ownsRow.setCellOther hOA1 gm (by decide) _ _
        have kOB1 : U2.ownsRow w0.heap.size 45 5 (.slice b1 ao.length e1) ao.length (encR ao) := by rw [← hU]; exact World.ownsRow.setCellOther hOB1 gm (by decide) _ _
        have kOA2 : U2.ownsRow w0.heap.size 45 5 (.slice a2 sl.length d2) sl.length (encR sl) := by rw [← hU]; exact World.ownsRow.setCellOther hb1 gm (by decide) _ _
        have kOB2 : U2.ownsRow w0.heap.size 45 5 (.slice b2 so.length e2) so.length (encR so) := by rw [← hU]; exact World.ownsRow.setCellOther hb2 gm (by decide) _ _
        have cn := HD.out U2 rs2
        have x2 : U2.cell? ⟨w0.heap.size + 1, 3, none⟩ = some (.int .i64 c3) := row_cell gc2 3 _ rfl
        clear HRS
        have OQ2 := Go.Lib.hid kOQ
        have OA12 := Go.Lib.hid kOA1
        have OB12 := Go.Lib.hid kOB1
        have OA22 := Go.Lib.hid kOA2
        have OB22 := Go.Lib.hid kOB2
        have GM2 := Go.Lib.hid gm2
        have GC2 := Go.Lib.hid gc2
        have GO2 := Go.Lib.hid go2
        have HRS := Go.Lib.hid rs2
        have CD := Go.Lib.hid cn
        clear kOQ kOA1 kOB1 kOA2 kOB2 gm2 gc2 go2 rs2 cn
        clear hrs ho hp kk gm gc go hOQ hOA1 hOB1 hb1 hb2 CS GM1 GC1 GO1 OQ1 OA11 OB11
        go_wp2_with fail
        clear y z hU
        clear x2
        refine CD.out.mono ?_; rintro e u3 ⟨a3, d3, b3, e3, rfl, ho, hp, hrs, kk⟩
        have gm := kk.row GM2.out hne
        have gc := kk.row GC2.out hne1
        have go := kk.row GO2.out hne2
        have hOQ := World.ownsRow.keepsR OQ2.out kk hlt
        have hOA1 := World.ownsRow.keepsR OA12.out kk hlt
        have hOA2 := World.ownsRow.keepsR OA22.out kk hlt
        have hOB1 := World.ownsRow.keepsR OB12.out kk hlt
        have hOB2 := World.ownsRow.keepsR OB22.out kk hlt
        have hb1 := owns_base ho HRS.out.2.2.1
        have hb2 := owns_base hp HRS.out.2.2.1
        have y : u3.cell? ⟨w0.heap.size, 11, none⟩ = some (.slice none 0 0) := row_cell gm 11 _ rfl
        have z : u3.frozen? ⟨w0.heap.size, 11, none⟩ = false := row_frozen gm 11
        obtain ⟨U3, hU⟩ : ∃ W, u3.setCell ⟨w0.heap.size, 11, none⟩ (.slice a3 dl.length d3) = W := ⟨_, rfl⟩
        have gm2 : U3.heap[w0.heap.size]? = some (.cells (MC ⟨mid, mre, mop, mau, mcu, mde, mav, mco, [], [], [], [], false, 0⟩ (.slice a8 l.length c8) (.slice a1 al.length d1) (.slice a2 sl.length d2) (.slice a3 dl.length d3)) 27 (0, 0)) := by rw [← hU]; exact heap_set gm
        have gc2 : U3.heap[w0.heap.size + 1]? = some (.cells #[.int .i64 j, .int .i64 c1, .int .i64 c2, .int .i64 c3] 61 (0, 0)) := by rw [← hU]; exact (heap_set_other gm (by omega)).trans gc
        have go2 : U3.heap[w0.heap.size + 2]? = some (.cells (MC ⟨0, false, 0, false, false, false, false, 0, [], [], [], [], false, 0⟩ nilS nilS nilS nilS) 27 (0, 0)) := by rw [← hU]; exact (heap_set_other gm (by omega)).trans go
        have rs2 : RS r gb off cap zs base w0 dk db U3 := by rw [← hU]; exact hrs.box CT.out (Nat.le_refl _) hlt gm 11 _
        have kOQ : U3.ownsRow w0.heap.size 47 3 (.slice a8 l.length c8) l.length (encQn l) := by rw [← hU]; exact World.ownsRow.setCellOther hOQ gm (by decide) _ _
        have kOA1 : U3.ownsRow w0.heap.size 45 5 (.slice a1 al.length d1) al.length (encR al) := by rw [← hU]; exact World.ownsRow.setCellOther hOA1 gm (by decide) _ _
        have kOA2 : U3.ownsRow w0.heap.size 45 5 (.slice a2 sl.length d2) sl.length (encR sl) := by rw [← hU]; exact World.ownsRow.setCellOther hOA2 gm (by decide) _ _
        have kOB1 : U3.ownsRow w0.heap.size 45 5 (.slice b1 ao.length e1) ao.length (encR ao) := by rw [← hU]; exact World.ownsRow.setCellOther hOB1 gm (by decide) _ _
        have kOB2 : U3.ownsRow w0.heap.size 45 5 (.slice b2 so.length e2) so.length (encR so) := by rw [← hU]; exact World.ownsRow.setCellOther hOB2 gm (by decide) _ _
        have kOA3 : U3.ownsRow w0.heap.size 45 5 (.slice a3 dl.length d3) dl.length (encR dl) := by rw [← hU]; exact World.ownsRow.setCellOther hb1 gm (by decide) _ _
        have kOB3 : U3.ownsRow w0.heap.size 45 5 (.slice b3 do_.length e3) do_.length (encR do_) := by rw [← hU]; exact World.ownsRow.setCellOther hb2 gm (by decide) _ _
        clear HRS
        have OQ3 := Go.Lib.hid kOQ
        have OA13 := Go.Lib.hid kOA1
        have OA23 := Go.Lib.hid kOA2
        have OB13 := Go.Lib.hid kOB1
        have OB23 := Go.Lib.hid kOB2
        have OA33 := Go.Lib.hid kOA3
        have OB33 := Go.Lib.hid kOB3
        have GM3 := Go.Lib.hid gm2
        have GC3 := Go.Lib.hid gc2
        have GO3 := Go.Lib.hid go2
        have HRS := Go.Lib.hid rs2
        clear kOQ kOA1 kOA2 kOB1 kOB2 kOA3 kOB3 gm2 gc2 go2 rs2
        clear hrs ho hp kk gm gc go hOQ hOA1 hOA2 hOB1 hOB2 hb1 hb2 CD GM2 GC2 GO2 OQ2 OA12 OA22 OB12 OB22
        go_wp2_with fail
        clear y z hU
        have hbr : BRows w0.heap.size U3 (.slice a8 l.length c8) (.slice a1 al.length d1) (.slice a2 sl.length d2) (.slice a3 dl.length d3) (.slice b3 do_.length e3) l al sl dl do_ := ⟨OQ3.out, OA13.out, OA23.out, OA33.out, OB33.out⟩
        obtain ⟨x, hx⟩ : ∃ x, x = bdB zs.length (al, ao, ak, ab) (sl, so, sk, sb) (dl, do_, dk, db) := ⟨_, rfl⟩
        have hF2 := HF.out
        rw [← hx] at hF2
        have hbr2 := (hbr.below (Below.refl _ _).drew).other (w := U3.drew) HRS.out.1 (by decide) (by decide) 2 (.bool x)
        have gm := (heap_set_other (w := U3.drew) (i := 2) (v := .bool x) HRS.out.1 hne).trans GM3.out
        have go := (heap_set_other (w := U3.drew) (i := 2) (v := .bool x) HRS.out.1 hne2).trans GO3.out
        have rs := (HRS.out.below CT.out (Below.refl _ _).drew).set_bad CT.out x
        have R0 := fun w3 => RowC.cell (g := r) (cs := (rdA (.slice (some ⟨gb, off, none⟩) zs.length cap) dk db)) (T := 60) 0 _ rfl w3
        have R1 := fun w3 => RowC.cell (g := r) (cs := (rdA (.slice (some ⟨gb, off, none⟩) zs.length cap) dk db)) (T := 60) 1 _ rfl w3
        have R2 := fun w3 => RowC.cell (g := r) (cs := (rdA (.slice (some ⟨gb, off, none⟩) zs.length cap) dk db)) (T := 60) 2 _ rfl w3
        have hnn : Nonempty (Subtype (RowC r (rdA (.slice (some ⟨gb, off, none⟩) zs.length cap) dk db) 60)) := ⟨⟨U3, HRS.out.1⟩⟩
        have y2 : U3.cell? ⟨r, 2, none⟩ = some (.bool db) := row_cell HRS.out.1 2 _ rfl
        have z2 : U3.frozen? ⟨r, 2, none⟩ = false := row_frozen HRS.out.1 2
        have hrw : RowC r (rdA (.slice (some ⟨gb, off, none⟩) zs.length cap) dk db) 60 U3.drew := HRS.out.1
        have q3 : IntKind.i64.wrap ((ao.length : Int) + (so.length : Int)) = (ao.length : Int) + so.length := wrapi (by omega) (by omega)
        have hcs : (db = true ∧ x = true) ∨ (db = false ∧ x = true ∧ (0 : Int) < (ao.length : Int) + so.length) ∨ (db = false ∧ x = true ∧ ¬ (0 : Int) < (ao.length : Int) + so.length ∧ (1 : Int) < (do_.length : Int)) ∨ (db = false ∧ x = ((dk : Int) != (zs.length : Int)) ∧ ¬ (0 : Int) < (ao.length : Int) + so.length ∧ ¬ (1 : Int) < (do_.length : Int)) := by
          unfold bdB at hx
          simp only at hx
          cases db with
          | true => exact .inl ⟨rfl, by rw [hx]; rfl⟩
          | false =>
            by_cases g1 : 0 < ao.length + so.length
            · exact .inr (.inl ⟨rfl, by rw [hx, decide_eq_true g1]; rfl, by omega⟩)
            · by_cases g2 : 1 < do_.length
              · exact .inr (.inr (.inl ⟨rfl, by rw [hx, decide_eq_true g2]; simp, by omega, by omega⟩))
              · refine .inr (.inr (.inr ⟨rfl, ?_, by omega, by omega⟩))
                rw [hx, decide_eq_false g1, decide_eq_false g2]
                by_cases g3 : dk = zs.length
                · rw [decide_eq_true g3, g3]; simp
                · rw [decide_eq_false g3]; simp; omega
        have BR := Go.Lib.hid hbr2
        have GM := Go.Lib.hid gm
        have GO := Go.Lib.hid go
        have RS0 := Go.Lib.hid rs
        have HF2 := Go.Lib.hid hF2
        have HRW := Go.Lib.hid hrw
        clear hbr2 gm go rs hF2 hrw
        clear hbr OQ3 OA13 OA23 OA33 OB33 OB13 OB23 HF HRS GM3 GC3 GO3 hx
        obtain ⟨V, hV⟩ : ∃ V, U3.drew.setCell ⟨r, 2, none⟩ (.bool x) = V := ⟨_, rfl⟩
        rw [hV] at BR GM GO RS0
        go_cut [] from 65 (fun wx => wx = V)
        case first =>
          rcases hcs with ⟨hdb, hxx⟩ | ⟨hdb, hxx, g1⟩ | ⟨hdb, hxx, g1, g2⟩ | ⟨hdb, hxx, g1, g2⟩
          case inl =>
            subst hdb
            subst hxx
            refine Go.Mix.wp_region_mixT (Es := []) 32 (RowC r (rdA (.slice (some ⟨gb, off, none⟩) zs.length cap) dk true) 60) mixed (by kernel_rfl) HRW.out ?_
            iterate 32 (refine Go.Mix.mixT_step rfl (fun K hK => ?_); have HKK := Go.Lib.hid hK; clear hK; go_simp; refine HKK.out _ _ ?_; clear HKK K)
            refine Go.Mix.mixT_last rfl (fun K hK => ?_)
            have HKK := Go.Lib.hid hK
            clear hK
            go_simp
            try rw [hV]
            refine HKK.out _ _ ?_
            go_wp2_with fail
            go_meet
            case rel => rfl
          case inr.inl =>
            subst hdb
            subst hxx
            refine Go.Mix.wp_region_mixT (Es := []) 32 (RowC r (rdA (.slice (some ⟨gb, off, none⟩) zs.length cap) dk false) 60) mixed (by kernel_rfl) HRW.out ?_
            iterate 32 (refine Go.Mix.mixT_step rfl (fun K hK => ?_); have HKK := Go.Lib.hid hK; clear hK; go_simp; refine HKK.out _ _ ?_; clear HKK K)
            refine Go.Mix.mixT_last rfl (fun K hK => ?_)
            have HKK := Go.Lib.hid hK
            clear hK
            go_simp
            try rw [hV]
            refine HKK.out _ _ ?_
            go_wp2_with fail
            go_meet
            case rel => rfl
          case inr.inr.inl =>
            subst hdb
            subst hxx
            refine Go.Mix.wp_region_mixT (Es := []) 32 (RowC r (rdA (.slice (some ⟨gb, off, none⟩) zs.length cap) dk false) 60) mixed (by kernel_rfl) HRW.out ?_
            iterate 32 (refine Go.Mix.mixT_step rfl (fun K hK => ?_); have HKK := Go.Lib.hid hK; clear hK; go_simp; refine HKK.out _ _ ?_; clear HKK K)
            refine Go.Mix.mixT_last rfl (fun K hK => ?_)
            have HKK := Go.Lib.hid hK
            clear hK
            go_simp
            try rw [hV]
            refine HKK.out _ _ ?_
            go_wp2_with fail
            go_meet
            case rel => rfl
          case inr.inr.inr =>
            subst hdb
            have HXX := Go.Lib.hid hxx
            clear hxx
            refine Go.Mix.wp_region_mixT (Es := []) 32 (RowC r (rdA (.slice (some ⟨gb, off, none⟩) zs.length cap) dk false) 60) mixed (by kernel_rfl) HRW.out ?_
            iterate 32 (refine Go.Mix.mixT_step rfl (fun K hK => ?_); have HKK := Go.Lib.hid hK; clear hK; go_simp; refine HKK.out _ _ ?_; clear HKK K)
            rw [← HXX.out]
            refine Go.Mix.mixT_last rfl (fun K hK => ?_)
            have HKK := Go.Lib.hid hK
            clear hK
            go_simp
            try rw [hV]
            refine HKK.out _ _ ?_
            go_wp2_with fail
            go_meet
            case rel => rfl
        case rest =>
        obtain rfl := hcut
        clear hcs hnn R0 R1 R2 y2 z2 HRW hV
        go_wp2_with fail
        go_loopw [99] (fun i wr => ∃ (p : Nat), i = .int .i64 p ∧ p ≤ do_.length ∧ BRows w0.heap.size wr (.slice a8 l.length c8) (.slice a1 al.length d1) (.slice a2 sl.length d2) (.slice a3 dl.length d3) (.slice b3 do_.length e3) l al sl dl do_ ∧ wr.heap[w0.heap.size]? = some (.cells (MC ⟨mid, mre, mop, mau, mcu, mde, mav, mco, [], [], [], [], (optF (do_.take p) x).1, (optF (do_.take p) x).2.1⟩ (.slice a8 l.length c8) (.slice a1 al.length d1) (.slice a2 sl.length d2) (.slice a3 dl.length d3)) 27 (0, 0)) ∧ wr.heap[w0.heap.size + 2]? = some (.cells (MC ⟨0, false, 0, false, false, false, false, 0, [], [], [], [], false, 0⟩ nilS nilS nilS nilS) 27 (0, 0)) ∧ RS r gb off cap zs base w0 dk (optF (do_.take p) x).2.2 wr) (fun i _ => do_.length - (intOf i).toNat)
        case atStart => exact ⟨0, rfl, Nat.zero_le _, BR.out, by rw [List.take_zero]; exact GM.out, GO.out, by rw [List.take_zero]; exact RS0.out⟩
        case round =>
          clear BR GM GO RS0
          obtain ⟨p, rfl, hp, hbr, gm, go, hrs⟩ := hrel
          by_cases hlt3 : p < do_.length
          · have t1 : (p : Int) < (do_.length : Int) := by omega
            have q5 : IntKind.i64.wrap ((p : Int) + 1) = (p : Int) + 1 := wrapi (by omega) (by omega)
            obtain ⟨bb, boff, rfl, hbw, hat⟩ := RRs.at (SlC.of_owns hbr.o : RRs wr (.slice b3 do_.length e3) do_) (by omega)
            obtain ⟨x0, x1, x2, x3, x4⟩ := hat p hlt3
            have hsn := optF_snoc (do_.take p) (do_.getD p r0) x
            rw [← (rr_step rfl hlt3).1] at hsn
            have p0 : (0 : Int) ≤ (p : Int) := by omega
            have hpn : (p : Int).toNat = p := by omega
            generalize do_.getD p r0 = y at *
            obtain ⟨xn, xt, xc, xl, xd⟩ := y
            simp only at hsn x0 x1 x2 x3 x4
            generalize hO : optF (do_.take p) x = O at *
            obtain ⟨oe, oz, ob⟩ := O
            simp only at hsn gm hrs
            obtain ⟨X1, hX1⟩ : ∃ X, wr.alloc (.cells #[.string (mk xn), .int .i64 xt, .int .i64 xc, .int .i64 xl, .string (mk xd)] 45) = X := ⟨_, rfl⟩
            have hbX : Below wr.heap.size wr X1 := by rw [← hX1]; exact (Below.refl _ wr).alloc (Nat.le_refl _) _
            have gX : X1.heap[wr.heap.size]? = some (.cells #[.string (mk xn), .int .i64 xt, .int .i64 xc, .int .i64 xl, .string (mk xd)] 45 (0, 0)) := by rw [← hX1]; exact heap_alloc_new _ _
            have gm1 := (hbX.block _ (Array.getElem?_eq_some_iff.1 gm).1).trans gm
            have go1 := (hbX.block _ (Array.getElem?_eq_some_iff.1 go).1).trans go
            have rs1 := hrs.below CT.out hbX
            have br1 := hbr.below hbX
            have hXw : w0.heap.size < wr.heap.size := (Array.getElem?_eq_some_iff.1 gm).1
            have hXw2 : w0.heap.size + 2 < wr.heap.size := (Array.getElem?_eq_some_iff.1 go).1
            have Cx := fun w3 => RowC.cell (g := wr.heap.size) (cs := #[.string (mk xn), .int .i64 xt, .int .i64 xc, .int .i64 xl, .string (mk xd)]) (T := 45) 2 _ rfl w3
            have hnx : Nonempty (Subtype (RowC wr.heap.size #[.string (mk xn), .int .i64 xt, .int .i64 xc, .int .i64 xl, .string (mk xd)] 45)) := ⟨⟨X1, gX⟩⟩
            have y12 : X1.cell? ⟨w0.heap.size, 12, none⟩ = some (.bool oe) := row_cell gm1 12 _ rfl
            have z12 : X1.frozen? ⟨w0.heap.size, 12, none⟩ = false := row_frozen gm1 12
            have y13 : X1.cell? ⟨w0.heap.size, 13, none⟩ = some (.int .i64 oz) := row_cell gm1 13 _ rfl
            have z13 : X1.frozen? ⟨w0.heap.size, 13, none⟩ = false := row_frozen gm1 13
            obtain ⟨V1, hV1⟩ : ∃ V, X1.drew.setCell ⟨w0.heap.size, 12, none⟩ (.bool true) = V := ⟨_, rfl⟩
            have gm2 : V1.heap[w0.heap.size]? = some (.cells (MC ⟨mid, mre, mop, mau, mcu, mde, mav, mco, [], [], [], [], true, oz⟩ (.slice a8 l.length c8) (.slice a1 al.length d1) (.slice a2 sl.length d2) (.slice a3 dl.length d3)) 27 (0, 0)) := by rw [← hV1]; exact heap_set gm1
            have go2 : V1.heap[w0.heap.size + 2]? = some (.cells (MC ⟨0, false, 0, false, false, false, false, 0, [], [], [], [], false, 0⟩ nilS nilS nilS nilS) 27 (0, 0)) := by rw [← hV1]; exact (heap_set_other (w := X1.drew) gm1 (by omega)).trans go1
            have gX2 : V1.heap[wr.heap.size]? = some (.cells #[.string (mk xn), .int .i64 xt, .int .i64 xc, .int .i64 xl, .string (mk xd)] 45 (0, 0)) := by rw [← hV1]; exact (heap_set_other (w := X1.drew) gm1 (by omega)).trans gX
            have rs2 : RS r gb off cap zs base w0 dk ob V1 := by rw [← hV1]; exact (rs1.below CT.out (Below.refl _ _).drew).box CT.out (Nat.le_refl _) hlt gm1 12 _
            have br2 : BRows w0.heap.size V1 (.slice a8 l.length c8) (.slice a1 al.length d1) (.slice a2 sl.length d2) (.slice a3 dl.length d3) (.slice (some ⟨bb, boff, none⟩) do_.length e3) l al sl dl do_ := by rw [← hV1]; exact (br1.below (Below.refl _ _).drew).other (w := X1.drew) gm1 (by decide) (by decide) _ _
            have w13 : V1.cell? ⟨w0.heap.size, 13, none⟩ = some (.int .i64 oz) := row_cell gm2 13 _ rfl
            have v13 : V1.frozen? ⟨w0.heap.size, 13, none⟩ = false := row_frozen gm2 13
            obtain ⟨V2, hV2⟩ : ∃ V, V1.setCell ⟨w0.heap.size, 13, none⟩ (.int .i64 xc) = V := ⟨_, rfl⟩
            have gm3 : V2.heap[w0.heap.size]? = some (.cells (MC ⟨mid, mre, mop, mau, mcu, mde, mav, mco, [], [], [], [], true, xc⟩ (.slice a8 l.length c8) (.slice a1 al.length d1) (.slice a2 sl.length d2) (.slice a3 dl.length d3)) 27 (0, 0)) := by rw [← hV2]; exact heap_set gm2
            have go3 : V2.heap[w0.heap.size + 2]? = some (.cells (MC ⟨0, false, 0, false, false, false, false, 0, [], [], [], [], false, 0⟩ nilS nilS nilS nilS) 27 (0, 0)) := by rw [← hV2]; exact (heap_set_other gm2 (by omega)).trans go2
            have gX3 : V2.heap[wr.heap.size]? = some (.cells #[.string (mk xn), .int .i64 xt, .int .i64 xc, .int .i64 xl, .string (mk xd)] 45 (0, 0)) := by rw [← hV2]; exact (heap_set_other gm2 (by omega)).trans gX2
            have rs3 : RS r gb off cap zs base w0 dk ob V2 := by rw [← hV2]; exact rs2.box CT.out (Nat.le_refl _) hlt gm2 13 _
            have br3 : BRows w0.heap.size V2 (.slice a8 l.length c8) (.slice a1 al.length d1) (.slice a2 sl.length d2) (.slice a3 dl.length d3) (.slice (some ⟨bb, boff, none⟩) do_.length e3) l al sl dl do_ := by rw [← hV2]; exact br2.other gm2 (by decide) (by decide) _ _
            have GM1 := Go.Lib.hid gm1
            have GO1 := Go.Lib.hid go1
            have RS1 := Go.Lib.hid rs1
            have BR1 := Go.Lib.hid br1
            have GX := Go.Lib.hid gX
            have GX2 := Go.Lib.hid gX2
            have GM3 := Go.Lib.hid gm3
            have GO3 := Go.Lib.hid go3
            have RS3 := Go.Lib.hid rs3
            have BR3 := Go.Lib.hid br3
            have GX3 := Go.Lib.hid gX3
            have HSN := Go.Lib.hid hsn
            have GM2 := Go.Lib.hid gm2
            have HO := Go.Lib.hid hO
            clear gm1 go1 rs1 br1 gX gX2 gm3 go3 rs3 br3 gX3 hsn gm2 hO
            clear hbr gm go hrs go2 rs2 br2 hat hbX
            go_wp2_with fail
            clear hX1 x0 x1 x2 x3 x4
            refine Go.Mix.wp_region_mixT (Es := [3]) 5 (RowC wr.heap.size #[.string (mk xn), .int .i64 xt, .int .i64 xc, .int .i64 xl, .string (mk xd)] 45) mixed (by kernel_rfl) GX.out ?_
            iterate 3 (refine Go.Mix.mixT_step rfl (fun K hK => ?_); have HKK := Go.Lib.hid hK; clear hK; go_simp; refine HKK.out _ _ ?_; clear HKK K)
            refine Go.Mix.mixT_eff rfl (fun K hK => ?_)
            have HKK := Go.Lib.hid hK
            clear hK
            go_simp
            try rw [hV1]
            refine HKK.out _ _ GX2.out ?_
            clear HKK K
            iterate 1 (refine Go.Mix.mixT_step rfl (fun K hK => ?_); have HKK := Go.Lib.hid hK; clear hK; go_simp; refine HKK.out _ _ ?_; clear HKK K)
            refine Go.Mix.mixT_last rfl (fun K hK => ?_)
            have HKK := Go.Lib.hid hK
            clear hK
            clear hV1 y12 z12 y13 z13
            go_simp
            try rw [hV2]
            refine HKK.out _ _ ?_
            clear HKK K hnx Cx hV2 w13 v13
            have u2 : V2.cell? ⟨r, 2, none⟩ = some (.bool ob) := row_cell RS3.out.1 2 _ rfl
            have t2 : V2.frozen? ⟨r, 2, none⟩ = false := row_frozen RS3.out.1 2
            have u0 : V2.cell? ⟨wr.heap.size, 0, none⟩ = some (.string (mk xn)) := row_cell GX3.out 0 _ rfl
            cases ob with
            | true =>
              have gm4 := (heap_set_other (i := 2) (v := .bool true) RS3.out.1 hne).trans GM3.out
              have go4 := (heap_set_other (i := 2) (v := .bool true) RS3.out.1 hne2).trans GO3.out
              have rs4 := RS3.out.set_bad CT.out true
              have br4 := BR3.out.other RS3.out.1 (by decide) (by decide) 2 (.bool true)
              have hsn2 : optF (do_.take (p + 1)) x = (true, xc, true) := by rw [HSN.out]; rfl
              have GM4 := Go.Lib.hid gm4
              have GO4 := Go.Lib.hid go4
              have RS4 := Go.Lib.hid rs4
              have BR4 := Go.Lib.hid br4
              have HSN2 := Go.Lib.hid hsn2
              clear gm4 go4 rs4 br4 hsn2
              clear GM3 GO3 RS3 BR3 HSN
              go_wp2_with fail
              go_roundw
              case rel => exact ⟨p + 1, by go_num, by omega, BR4.out, by rw [HSN2.out]; exact GM4.out, GO4.out, by rw [HSN2.out]; exact RS4.out⟩
              case measure => simp [intOf]; omega
            | false =>
              by_cases hroot : xn = [0]
              · have e1 : ((mk xn).toList == [0]) = true := by rw [hroot, toList_bl, bl_mk]; rfl
                have gm4 := (heap_set_other (i := 2) (v := .bool false) RS3.out.1 hne).trans GM3.out
                have go4 := (heap_set_other (i := 2) (v := .bool false) RS3.out.1 hne2).trans GO3.out
                have rs4 := RS3.out.set_bad CT.out false
                have br4 := BR3.out.other RS3.out.1 (by decide) (by decide) 2 (.bool false)
                have hsn2 : optF (do_.take (p + 1)) x = (true, xc, false) := by rw [HSN.out, hroot]; simp
                have GM4 := Go.Lib.hid gm4
                have GO4 := Go.Lib.hid go4
                have RS4 := Go.Lib.hid rs4
                have BR4 := Go.Lib.hid br4
                have HSN2 := Go.Lib.hid hsn2
                clear gm4 go4 rs4 br4 hsn2
                clear GM3 GO3 RS3 BR3 HSN hroot
                go_wp2_with fail
                go_roundw
                case rel => exact ⟨p + 1, by go_num, by omega, BR4.out, by rw [HSN2.out]; exact GM4.out, GO4.out, by rw [HSN2.out]; exact RS4.out⟩
                case measure => simp [intOf]; omega
              · have e1 : ((mk xn).toList == [0]) = false := by rw [toList_bl, bl_mk, beq_eq_false_iff_ne]; exact hroot
                have gm4 := (heap_set_other (i := 2) (v := .bool true) RS3.out.1 hne).trans GM3.out
                have go4 := (heap_set_other (i := 2) (v := .bool true) RS3.out.1 hne2).trans GO3.out
                have rs4 := RS3.out.set_bad CT.out true
                have br4 := BR3.out.other RS3.out.1 (by decide) (by decide) 2 (.bool true)
                have hsn2 : optF (do_.take (p + 1)) x = (true, xc, true) := by rw [HSN.out]; simp [hroot]
                have GM4 := Go.Lib.hid gm4
                have GO4 := Go.Lib.hid go4
                have RS4 := Go.Lib.hid rs4
                have BR4 := Go.Lib.hid br4
                have HSN2 := Go.Lib.hid hsn2
                clear gm4 go4 rs4 br4 hsn2
                clear GM3 GO3 RS3 BR3 HSN hroot
                go_wp2_with fail
                go_roundw
                case rel => exact ⟨p + 1, by go_num, by omega, BR4.out, by rw [HSN2.out]; exact GM4.out, GO4.out, by rw [HSN2.out]; exact RS4.out⟩
                case measure => simp [intOf]; omega
          · obtain rfl : p = do_.length := by omega
            rw [List.take_length] at gm hrs
            have t1 : ¬ ((do_.length : Nat) : Int) < (do_.length : Int) := by omega
            have rF := RS.boxRow hrs CT.out (show w0.heap.size ≤ w0.heap.size + 2 by omega) hlt go (MC ⟨mid, mre, mop, mau, mcu, mde, mav, mco, [], [], [], [], (optF do_ x).1, (optF do_ x).2.1⟩ (.slice a8 l.length c8) (.slice a1 al.length d1) (.slice a2 sl.length d2) (.slice a3 dl.length d3))
            have hone := msg_one ⟨mid, mre, mop, mau, mcu, mde, mav, mco, [], [], [], [], (optF do_ x).1, (optF do_ x).2.1⟩ (q := .slice a8 l.length c8) (a := .slice a1 al.length d1) (s := .slice a2 sl.length d2) (d := .slice a3 dl.length d3) ⟨rfl, rfl, rfl, rfl⟩
            have hmt : MsgT (wr.setRow (w0.heap.size + 2) (MC ⟨mid, mre, mop, mau, mcu, mde, mav, mco, [], [], [], [], (optF do_ x).1, (optF do_ x).2.1⟩ (.slice a8 l.length c8) (.slice a1 al.length d1) (.slice a2 sl.length d2) (.slice a3 dl.length d3))) F.1 (.slice a8 l.length c8) (.slice a1 al.length d1) (.slice a2 sl.length d2) (.slice a3 dl.length d3) := by
              rw [HF2.out]
              exact ⟨(SlT.of_owns hbr.q).setRow go (by decide), (SlT.of_owns hbr.a).setRow go (by decide), (SlT.of_owns hbr.s).setRow go (by decide), (SlT.of_owns hbr.d).setRow go (by decide)⟩
            have RF := Go.Lib.hid rF
            have GM1 := Go.Lib.hid gm
            have GO1 := Go.Lib.hid go
            have HMT := Go.Lib.hid hmt
            clear rF gm go hmt
            clear hbr hrs
            go_wp2_with (first | (refine wpList_load_row rfl 27 (.tmp 4) rfl w0.heap.size rfl _ _ (0, 0) _ GM1.out HU.out rfl infoMsg ?_) | (refine wpList_store_row rfl 27 (.tmp 6) (.tmp 120) rfl (w0.heap.size + 2) (MC ⟨mid, mre, mop, mau, mcu, mde, mav, mco, [], [], [], [], (optF do_ x).1, (optF do_ x).2.1⟩ (.slice a8 l.length c8) (.slice a1 al.length d1) (.slice a2 sl.length d2) (.slice a3 dl.length d3)) rfl rfl _ _ GO1.out infoMsg rfl hone ?_))
            refine ret_msg (m := F.1) rfl rfl rfl (by rw [HF2.out]; exact setRow_heap _ _ _ _ _ _ GO1.out) ?_
            show BodyEnd r gb off cap zs base w0 (rdBody zs ⟨mid, mre, mop, mau, mcu, mde, mav, mco, [], [], [], [], false, 0⟩ j c1 c2 c3 k false) _ _
            rw [← HF0.out]
            exact ⟨_, _, _, _, rfl, HMT.out, by rw [HF2.out]; exact RF.out⟩
end Go.Proofs.Ythfhmbooeemaaaa

/- Message: Decode. Conditions: no more than 2^40 bytes. -/
namespace Go.Proofs.Ythfhmbooeemaaaa
open Go.RowKit
set_option maxRecDepth 100000
set_option linter.unusedVariables false

def mZ : Msg := ⟨0, false, 0, false, false, false, false, 0, [], [], [], [], false, 0⟩
/-- a message and two more, the message in a variable of its own -/
theorem ret_m3 {fn : Func} {p q s : Tmp} {a : Act} {W : World} {R : Ending → World → Prop} {m : Msg} {x y u v : Value} {b e : Value} {g : Nat} (hr : fn.results = #[.cell p 27, .tmp q, .tmp s]) (hp : a.tmps.getD p undef = .pointer (some ⟨g, 0, none⟩)) (hq : a.tmps.getD q undef = b) (hs : a.tmps.getD s undef = e) (hd : a.defers = [])
    (hg : W.heap[g]? = some (.cells (MC m x y u v) 27 (0, 0))) (h : R (.returned (.tuple #[MV m x y u v, b, e])) W) : bodyPost Try.prog fn R Exit.ret a W := by
  obtain ⟨fs, hu⟩ := undMsg
  refine bodyPost_ret (v := .tuple #[MV m x y u v, b, e]) ?_ hd h
  have hp' : a.tmps[p]?.getD undef = .pointer (some ⟨g, 0, none⟩) := by simpa using hp
  have hq' : a.tmps[q]?.getD undef = b := by simpa using hq
  have hs' : a.tmps[s]?.getD undef = e := by simpa using hs
  simp [results, hr, hp', hq', hs', asAddr, run_loadVar_row W g _ 27 (MC m x y u v) (0, 0) _ hg hu rfl infoMsg]
theorem one_sl {w : World} {sz n : Nat} {v : Value} {cs : List Value} (h : SlC w sz v n cs) : v.oneCell' = true := by
  obtain ⟨a, c, rfl, _, _⟩ := h.slice
  rfl
/-- a message's head, and what stands behind it -/
abbrev dcX (zs : List UInt8) := rdBody zs (headM (n2 zs 0) (n2 zs 2)) (n2 zs 4) (n2 zs 6) (n2 zs 8) (n2 zs 10) 12 ((bits .and .i64 (n2 zs 2) 112 != 0) || decide (4096 < zs.length))
/-- the message of bytes, whether there is a head, and what is told -/
def decN (zs : List UInt8) : Msg × Bool × Int :=
  if zs.length < 12 then (mZ, false, 2) else if (dcX zs).2.2 then (headM (n2 zs 0) (n2 zs 2), true, 2) else ((dcX zs).1, true, 0)
def DecEnd (w : World) (F : Msg × Bool × Int) (e : Ending) (w' : World) : Prop :=
  ∃ q a s d, e = .returned (.tuple #[MV F.1 q a s d, .bool F.2.1, .int .i64 F.2.2]) ∧ MsgT w' F.1 q a s d ∧ Below w.heap.size w w'
set_option maxHeartbeats 2000000 in
theorem Decode_short (sa : Option Addr) (cap : Nat) (zs : List UInt8) (w : World) (hn : zs.length < 12) :
    Calls Try.prog 12 #[.slice sa zs.length cap] w (DecEnd w (decN zs)) := by
  have hF : decN zs = (mZ, false, 2) := by unfold decN; rw [if_pos hn]
  rw [hF]
  have t1 : (zs.length : Int) < 12 := by omega
  generalize zs.length = N at *
  have hb := (Below.refl w.heap.size w).alloc (Nat.le_refl _) (.cells (MC mZ nilS nilS nilS nilS) 27)
  have hX := heap_alloc_new w (.cells (MC mZ nilS nilS nilS nilS) 27)
  obtain ⟨X, hXe⟩ : ∃ X, w.alloc (.cells #[.int .i64 0, .bool false, .int .i64 0, .bool false, .bool false, .bool false, .bool false, .int .i64 0, .slice none 0 0, .slice none 0 0, .slice none 0 0, .slice none 0 0, .bool false, .int .i64 0] 27) = X := ⟨_, rfl⟩
  rw [show w.alloc (.cells (MC mZ nilS nilS nilS nilS) 27) = X from hXe] at hb hX
  obtain ⟨fs, hu⟩ := undMsg
  have hone := msg_one mZ (q := nilS) (a := nilS) (s := nilS) (d := nilS) ⟨rfl, rfl, rfl, rfl⟩
  have HX := Go.Lib.hid hX
  have HB := Go.Lib.hid hb
  have HU := Go.Lib.hid hu
  clear hX hb hu
  clear hF hn
  go_enter Try.func12, Try.ntmps12
  go_wp2_with (first | (refine wpList_load_row rfl 27 (.tmp 2) rfl w.heap.size rfl _ _ (0, 0) _ HX.out HU.out rfl infoMsg ?_) | (refine wpList_store_row rfl 27 (.tmp 2) (.tmp 11) rfl w.heap.size (MC mZ nilS nilS nilS nilS) rfl rfl _ _ HX.out infoMsg rfl hone ?_))
  refine ret_m3 (m := mZ) rfl rfl rfl rfl rfl (setRow_heap _ _ _ _ _ _ HX.out) ⟨nilS, nilS, nilS, nilS, rfl, ⟨SlT.nil _ _ _, SlT.nil _ _ _, SlT.nil _ _ _, SlT.nil _ _ _⟩, below_setRow HB.out (Nat.le_refl _) _⟩
set_option maxHeartbeats 4000000 in
theorem Decode_long (sa : Option Addr) (cap : Nat) (zs : List UInt8) (w : World) (hz : Byts w (.slice sa zs.length cap) zs) (hn : 12 ≤ zs.length) (hl : zs.length ≤ 1099511627776) :
    Calls Try.prog 12 #[.slice sa zs.length cap] w (DecEnd w (decN zs)) := by
  have hF : decN zs = if (dcX zs).2.2 then (headM (n2 zs 0) (n2 zs 2), true, 2) else ((dcX zs).1, true, 0) := by unfold decN; rw [if_neg (by omega)]
  rw [hF]
  have t1 : ¬ (zs.length : Int) < 12 := by omega
  obtain ⟨gb, off, rfl, hgw, _⟩ := Byts.at hz (by omega)
  obtain ⟨X, hX⟩ : ∃ X, (w.alloc (.cells #[.int .i64 0, .bool false, .int .i64 0, .bool false, .bool false, .bool false, .bool false, .int .i64 0, .slice none 0 0, .slice none 0 0, .slice none 0 0, .slice none 0 0, .bool false, .int .i64 0] 27)).alloc (.cells #[.slice (some ⟨gb, off, none⟩) zs.length cap, .int .i64 0, .bool false] 60) = X := ⟨_, rfl⟩
  have gz : X.heap[w.heap.size]? = some (.cells (MC mZ nilS nilS nilS nilS) 27 (0, 0)) := by rw [← hX]; exact heap_old (heap_alloc_new _ _) _
  have gr : Rd (w.heap.size + 1) (.slice (some ⟨gb, off, none⟩) zs.length cap) 0 false X := by rw [← hX]; exact heap_new1 _ _ _
  have hbX : Below w.heap.size w X := by rw [← hX]; exact ((Below.refl _ w).alloc (Nat.le_refl _) _).alloc (by simp) _
  have hzX := hz.below hbX (Nat.le_refl _)
  have c : RCtx (w.heap.size + 1) gb off cap zs w.heap.size X := ⟨hzX, by omega, hl, by omega, hbX.size⟩
  have hh := head_rs c (RS.start gr c) hn
  have hlb : (bits .and .i64 (n2 zs 2) 112 != 0) = (bits .and .i64 (n2 zs 2) 112 != 0) := rfl
  have b4 := n2_le zs 4
  have b6 := n2_le zs 6
  have b8 := n2_le zs 8
  have b10 := n2_le zs 10
  obtain ⟨HM, hHM⟩ : ∃ m, m = headM (n2 zs 0) (n2 zs 2) := ⟨_, rfl⟩
  have hmm : HM.qs = [] ∧ HM.an = [] ∧ HM.sv = [] ∧ HM.ad = [] ∧ HM.edns = false ∧ HM.size = 0 := by rw [hHM]; exact ⟨rfl, rfl, rfl, rfl, rfl, rfl⟩
  unfold HeadEnd at hh
  unfold dcX
  rw [← hHM] at hh ⊢
  have hbd := fun (w' : World) (c' : RCtx (w.heap.size + 1) gb off cap zs w.heap.size w') (h' : RS (w.heap.size + 1) gb off cap zs w.heap.size w' 12 ((bits .and .i64 (n2 zs 2) 112 != 0) || decide (4096 < zs.length)) w') => body_rs c' h' hn HM hmm (n2 zs 4) (n2 zs 6) (n2 zs 8) (n2 zs 10) b4 b6 b8 b10
  generalize (bits .and .i64 (n2 zs 2) 112 != 0) = fb at *
  generalize hBd : rdBody zs HM (n2 zs 4) (n2 zs 6) (n2 zs 8) (n2 zs 10) 12 (fb || decide (4096 < zs.length)) = Bd at *
  obtain ⟨BM, bk, bb⟩ := Bd
  unfold BodyEnd at hbd
  simp only at hbd ⊢
  generalize n2 zs 4 = m0 at *
  generalize n2 zs 6 = m1 at *
  generalize n2 zs 8 = m2 at *
  generalize n2 zs 10 = m3 at *
  obtain ⟨F, hFd⟩ : ∃ F : Msg × Bool × Int, F = if bb = true then (HM, true, 2) else (BM, true, 0) := ⟨_, rfl⟩
  rw [← hFd]
  have HMM := Go.Lib.hid hmm
  clear hmm
  have GZ := Go.Lib.hid gz
  have HH := Go.Lib.hid hh
  have HBD := Go.Lib.hid hbd
  have CT := Go.Lib.hid c
  have HBX := Go.Lib.hid hbX
  have HZ := Go.Lib.hid hz
  have HFD := Go.Lib.hid hFd
  clear gz hh hbd c hbX hz hFd
  clear hF gr hzX hHM hlb hBd
  go_enter Try.func12, Try.ntmps12
  go_wp2_with fail
  refine HH.out.mono ?_; rintro e w1 ⟨rfl, h1⟩
  have gz1 := h1.2.2.row GZ.out (show w.heap.size ≠ w.heap.size + 1 by omega)
  have hw1 : w.heap.size + 2 ≤ w1.heap.size := by
    have := h1.1.lt
    omega
  obtain ⟨Y, hY⟩ : ∃ Y, (w1.alloc (.cells #[.int .i64 0, .bool false, .int .i64 0, .bool false, .bool false, .bool false, .bool false, .int .i64 0, .slice none 0 0, .slice none 0 0, .slice none 0 0, .slice none 0 0, .bool false, .int .i64 0] 27)).alloc (.cells #[.int .i64 0, .int .i64 0, .int .i64 0, .int .i64 0] 61) = Y := ⟨_, rfl⟩
  have g6 : Y.heap[w1.heap.size]? = some (.cells (MC mZ nilS nilS nilS nilS) 27 (0, 0)) := by rw [← hY]; exact heap_old (heap_alloc_new _ _) _
  have g7 : Y.heap[w1.heap.size + 1]? = some (.cells #[.int .i64 0, .int .i64 0, .int .i64 0, .int .i64 0] 61 (0, 0)) := by rw [← hY]; exact heap_new1 _ _ _
  have gz2 : Y.heap[w.heap.size]? = some (.cells (MC mZ nilS nilS nilS nilS) 27 (0, 0)) := by rw [← hY]; exact heap_old (heap_old gz1 _) _
  have h2 : RS (w.heap.size + 1) gb off cap zs w.heap.size X 12 fb Y := by
    refine h1.below CT.out ?_
    rw [← hY]
    exact ((Below.refl _ w1).alloc (Nat.le_refl _) _).alloc (by simp) _
  have hXs : X.heap.size = w.heap.size + 2 := by rw [← hX]; simp
  have hone := msg_one HM (q := nilS) (a := nilS) (s := nilS) (d := nilS) ⟨rfl, rfl, rfl, rfl⟩
  have hone4 : (#[.int .i64 m0, .int .i64 m1, .int .i64 m2, .int .i64 m3] : Array Value).all (·.oneCell') = true := by simp [Value.oneCell']
  obtain ⟨fs, hu⟩ := undMsg
  have hu4 := Try.underlying61
  have h3 := RS.boxRow h2 CT.out (show X.heap.size ≤ w1.heap.size by omega) (show w.heap.size + 1 < X.heap.size by omega) g6 (MC HM nilS nilS nilS nilS)
  have g7b := (setRow_other Y w1.heap.size (w1.heap.size + 1) (MC HM nilS nilS nilS nilS) (by omega)).trans g7
  have g6b := setRow_heap Y w1.heap.size _ (MC HM nilS nilS nilS nilS) _ _ g6
  have gz3 := (setRow_other Y w1.heap.size w.heap.size (MC HM nilS nilS nilS nilS) (by omega)).trans gz2
  have h4 := RS.boxRow h3 CT.out (show X.heap.size ≤ w1.heap.size + 1 by omega) (show w.heap.size + 1 < X.heap.size by omega) g7b #[.int .i64 m0, .int .i64 m1, .int .i64 m2, .int .i64 m3]
  have g6c := (setRow_other (Y.setRow w1.heap.size (MC HM nilS nilS nilS nilS)) (w1.heap.size + 1) w1.heap.size #[.int .i64 m0, .int .i64 m1, .int .i64 m2, .int .i64 m3] (by omega)).trans g6b
  have g7c := setRow_heap (Y.setRow w1.heap.size (MC HM nilS nilS nilS nilS)) (w1.heap.size + 1) _ #[.int .i64 m0, .int .i64 m1, .int .i64 m2, .int .i64 m3] _ _ g7b
  have gz4 := (setRow_other (Y.setRow w1.heap.size (MC HM nilS nilS nilS nilS)) (w1.heap.size + 1) w.heap.size #[.int .i64 m0, .int .i64 m1, .int .i64 m2, .int .i64 m3] (by omega)).trans gz3
  obtain ⟨V, hV⟩ : ∃ V, (Y.setRow w1.heap.size (MC HM nilS nilS nilS nilS)).setRow (w1.heap.size + 1) #[.int .i64 m0, .int .i64 m1, .int .i64 m2, .int .i64 m3] = V := ⟨_, rfl⟩
  rw [hV] at h4 g6c g7c gz4
  have c2 : V.cell? ⟨w.heap.size + 1, 2, none⟩ = some (.bool fb) := row_cell h4.1 2 _ rfl
  have f2 : V.frozen? ⟨w.heap.size + 1, 2, none⟩ = false := row_frozen h4.1 2
  obtain ⟨x, hx⟩ : ∃ x, x = (fb || decide (4096 < zs.length)) := ⟨_, rfl⟩
  rw [← hx] at HBD
  have h5 := h4.set_bad CT.out x
  have g6d := (heap_set_other (i := 2) (v := .bool x) h4.1 (show w1.heap.size ≠ w.heap.size + 1 by omega)).trans g6c
  have g7d := (heap_set_other (i := 2) (v := .bool x) h4.1 (show w1.heap.size + 1 ≠ w.heap.size + 1 by omega)).trans g7c
  have gz5 := (heap_set_other (i := 2) (v := .bool x) h4.1 (show w.heap.size ≠ w.heap.size + 1 by omega)).trans gz4
  obtain ⟨U, hU⟩ : ∃ U, V.setCell ⟨w.heap.size + 1, 2, none⟩ (.bool x) = U := ⟨_, rfl⟩
  rw [hU] at h5 g6d g7d gz5
  have hcall := HBD.out U ⟨h5.byts CT.out, CT.out.hgr, CT.out.hl, CT.out.hb, h5.size CT.out⟩ (RS.start h5.1 ⟨h5.byts CT.out, CT.out.hgr, CT.out.hl, CT.out.hb, h5.size CT.out⟩)
  have hbU : Below w.heap.size w U := HBX.out.trans h5.2.1
  have hcs : (fb = true ∧ x = true) ∨ (fb = false ∧ x = decide ((4096 : Int) < (zs.length : Int))) := by
    cases fb with
    | true => exact .inl ⟨rfl, by rw [hx]; rfl⟩
    | false => exact .inr ⟨rfl, by rw [hx, Bool.false_or]; congr 1; simp; omega⟩
  have hsl : w1.heap.size < U.heap.size := (Array.getElem?_eq_some_iff.1 g6d).1
  have GY6 := Go.Lib.hid g6
  have GY7 := Go.Lib.hid g7b
  have G6 := Go.Lib.hid g6d
  have G7 := Go.Lib.hid g7d
  have GZ5 := Go.Lib.hid gz5
  have HCALL := Go.Lib.hid hcall
  have HBU := Go.Lib.hid hbU
  have HU := Go.Lib.hid hu
  have HU4 := Go.Lib.hid hu4
  have H5 := Go.Lib.hid h5
  clear g6 g7b g6d g7d gz5 hcall hbU hu hu4 h5
  clear h1 h2 h3 h4 g6b g6c g7 g7c gz1 gz2 gz3 gz4 HH HBD GZ hx
  obtain ⟨fs', hu'⟩ := undMsg
  have hone2 := hone
  rcases hcs with ⟨rfl, rfl⟩ | ⟨rfl, rfl⟩
  all_goals
    go_wp2_with (first | (refine wpList_store_row rfl 27 (.tmp 6) (.tmp 18) rfl w1.heap.size (MC HM nilS nilS nilS nilS) rfl rfl _ _ GY6.out infoMsg rfl hone ?_) | (refine wpList_store_row rfl 61 (.tmp 7) (.tmp 19) rfl (w1.heap.size + 1) #[.int .i64 m0, .int .i64 m1, .int .i64 m2, .int .i64 m3] rfl rfl _ _ GY7.out cnt_size rfl hone4 ?_) | (refine wpList_load_row rfl 27 (.tmp 6) rfl w1.heap.size rfl _ _ (0, 0) _ G6.out HU.out rfl infoMsg ?_) | (refine wpList_load_row rfl 61 (.tmp 7) rfl (w1.heap.size + 1) rfl _ _ (0, 0) _ G7.out HU4.out rfl cnt_size ?_))
    clear hY hV hU c2 f2 t1
    refine HCALL.out.mono ?_; rintro e w2 ⟨q, a, s, d, rfl, hmt, h6⟩
    have gz6 := h6.2.2.row GZ5.out (show w.heap.size ≠ w.heap.size + 1 by omega)
    have g66 := h6.2.2.row G6.out (show w1.heap.size ≠ w.heap.size + 1 by omega)
    have hbw := HBU.out.trans h6.2.1
    have r1 := (setRow_other w2 w.heap.size (w.heap.size + 1) (MC BM q a s d) (by omega)).trans h6.1
    have r2 := (setRow_other w2 w.heap.size w1.heap.size (MC BM q a s d) (by omega)).trans g66
    have r3 := setRow_heap w2 w.heap.size _ (MC BM q a s d) _ _ gz6
    have hb2 := below_setRow hbw (Nat.le_refl _) (MC BM q a s d)
    have hmt2 := hmt.setRow (new := MC BM q a s d) gz6
    have ho := msg_one BM (q := q) (a := a) (s := s) (d := d) ⟨one_sl hmt.qs.1, one_sl hmt.an.1, one_sl hmt.sv.1, one_sl hmt.ad.1⟩
    obtain ⟨W, hW⟩ : ∃ W, w2.setRow w.heap.size (MC BM q a s d) = W := ⟨_, rfl⟩
    rw [hW] at r1 r2 r3 hb2 hmt2
    have cb : W.cell? ⟨w.heap.size + 1, 2, none⟩ = some (.bool bb) := row_cell r1 2 _ rfl
    have GZ6 := Go.Lib.hid gz6
    have R2 := Go.Lib.hid r2
    have R3 := Go.Lib.hid r3
    have HB2 := Go.Lib.hid hb2
    have HMT2 := Go.Lib.hid hmt2
    have HO := Go.Lib.hid ho
    have HWW := Go.Lib.hid hW
    clear gz6 r2 r3 hb2 hmt2 ho hW
    clear r1 hmt h6 g66 HCALL hbw
    cases bb with
    | true =>
      have hF1 := HFD.out
      rw [if_pos rfl] at hF1
      have HF1 := Go.Lib.hid hF1
      clear hF1
      go_wp2_with (first | (refine wpList_store_row rfl 27 (.tmp 2) (.tmp 35) rfl w.heap.size (MC BM q a s d) rfl rfl _ _ GZ6.out infoMsg rfl HO.out ?_; rw [HWW.out]) | (refine wpList_load_row rfl 27 (.tmp 6) rfl w1.heap.size rfl _ _ (0, 0) _ R2.out HU.out rfl infoMsg ?_) | (refine wpList_store_row rfl 27 (.tmp 2) (.tmp 40) rfl w.heap.size (MC HM nilS nilS nilS nilS) rfl rfl _ _ R3.out infoMsg rfl hone ?_))
      refine ret_m3 (m := HM) (x := nilS) (y := nilS) (u := nilS) (v := nilS) (b := .bool true) (e := .int .i64 2) rfl rfl rfl rfl rfl (setRow_heap _ _ _ _ _ _ R3.out) ?_
      rw [HF1.out]
      exact ⟨_, _, _, _, rfl, ⟨by rw [HMM.out.1]; exact SlT.nil _ _ _, by rw [HMM.out.2.1]; exact SlT.nil _ _ _, by rw [HMM.out.2.2.1]; exact SlT.nil _ _ _, by rw [HMM.out.2.2.2.1]; exact SlT.nil _ _ _⟩, below_setRow HB2.out (Nat.le_refl _) _⟩
    | false =>
      have hF1 := HFD.out
      rw [if_neg (by simp)] at hF1
      have HF1 := Go.Lib.hid hF1
      clear hF1
      go_wp2_with (first | (refine wpList_store_row rfl 27 (.tmp 2) (.tmp 35) rfl w.heap.size (MC BM q a s d) rfl rfl _ _ GZ6.out infoMsg rfl HO.out ?_; rw [HWW.out]) | (refine wpList_load_row rfl 27 (.tmp 2) rfl w.heap.size rfl _ _ (0, 0) _ R3.out HU.out rfl infoMsg ?_) | (refine wpList_store_row rfl 27 (.tmp 2) (.tmp 41) rfl w.heap.size (MC BM q a s d) rfl rfl _ _ R3.out infoMsg rfl HO.out ?_))
      refine ret_m3 (m := BM) (x := q) (y := a) (u := s) (v := d) (b := .bool true) (e := .int .i64 0) rfl rfl rfl rfl rfl (setRow_heap _ _ _ _ _ _ R3.out) ?_
      rw [HF1.out]
      exact ⟨_, _, _, _, rfl, HMT2.out.setRow R3.out, below_setRow HB2.out (Nat.le_refl _) _⟩
theorem Decode_any (sa : Option Addr) (cap : Nat) (zs : List UInt8) (w : World) (hz : Byts w (.slice sa zs.length cap) zs) (hl : zs.length ≤ 1099511627776) :
    Calls Try.prog 12 #[.slice sa zs.length cap] w (DecEnd w (decN zs)) := by
  by_cases h : zs.length < 12
  · exact Decode_short sa cap zs w h
  · exact Decode_long sa cap zs w hz (by omega) hl
end Go.Proofs.Ythfhmbooeemaaaa

/- Message: the writer: its state, New, Bytes, Two, Four, Len. -/
namespace Go.Proofs.Ythfhmbooeemaaaa
open Go.RowKit Go.Maps Go.Sq
set_option maxRecDepth 100000
set_option linter.unusedVariables false

theorem snoc_rec {α : Type} {P : List α → Prop} (h0 : P []) (h1 : ∀ l r, P l → P (l ++ [r])) (l : List α) : P l := by
  have h : ∀ l : List α, P l.reverse := by
    intro l
    induction l with
    | nil => exact h0
    | cons x l ih => rw [List.reverse_cons]; exact h1 _ _ ih
  have h := h l.reverse
  rwa [List.reverse_reverse] at h
abbrev Met := List (List UInt8 × Nat)
/-- the place of a name -/
def look (M : Met) (k : List UInt8) : Option Nat := M.foldl (fun a p => if p.1 = k then some p.2 else a) none
theorem look_nil (k : List UInt8) : look [] k = none := rfl
theorem look_snoc (M : Met) (k' : List UInt8) (v : Nat) (k : List UInt8) : look (M ++ [(k', v)]) k = if k' = k then some v else look M k := by
  unfold look
  rw [List.foldl_append]
  rfl
/-- as the map reads -/
def metD (M : Met) : DataW Unit := M.foldl (fun m p => m.put (.string p.1) (.lit (.int .i64 p.2))) (.map [])
theorem metD_snoc (M : Met) (k : List UInt8) (v : Nat) : metD (M ++ [(k, v)]) = (metD M).put (.string k) (.lit (.int .i64 v)) := by
  unfold metD
  rw [List.foldl_append]
  rfl
theorem metD_isMap (M : Met) : IsMap (metD M) := by
  refine snoc_rec (P := fun M => IsMap (metD M)) isMap_empty (fun M p ih => ?_) M
  obtain ⟨k, v⟩ := p
  rw [metD_snoc]
  exact ih.put _ _
theorem metD_look (M : Met) (k : List UInt8) : has (metD M) (.string k) = (look M k).isSome ∧ (metD M).atKey (.string k) (.lit (.int .i64 0)) = .lit (.int .i64 ((look M k).getD 0)) := by
  refine snoc_rec (P := fun M => has (metD M) (.string k) = (look M k).isSome ∧ (metD M).atKey (.string k) (.lit (.int .i64 0)) = .lit (.int .i64 ((look M k).getD 0))) ⟨rfl, rfl⟩ (fun M p ih => ?_) M
  obtain ⟨k', v⟩ := p
  rw [metD_snoc, look_snoc]
  by_cases h : k' = k
  · subst h
    rw [if_pos rfl]
    exact ⟨has_put_same (metD_isMap M) (show WideAt.IsKeyLit (.string k') from trivial) _, atKey_put_same (metD_isMap M) (show WideAt.IsKeyLit (.string k') from trivial) _ _⟩
  · rw [if_neg h]
    have hne : Lit.string k ≠ Lit.string k' := fun e => h (by cases e; rfl)
    rw [has_put_other hne, atKey_put_other hne]
    exact ih

/-- what a writer's calls leave as it lay -/
abbrev NotW (T : Nat) : Prop := T ≠ 5 ∧ T ≠ 106
/-- all but bytes, writers and one map lies as it lay -/
def KW (bm : Nat) (W W' : World) : Prop := W.heap.size ≤ W'.heap.size ∧ ∀ (k : Nat) (o : Obj), W.heap[k]? = some o → (∀ cs T fr, o = .cells cs T fr → NotW T) → (o.isCells = false → k ≠ bm) → W'.heap[k]? = some o
theorem KW.refl (bm : Nat) (W : World) : KW bm W W := ⟨Nat.le_refl _, fun _ _ h _ _ => h⟩
theorem KW.trans {bm : Nat} {A B C : World} (h : KW bm A B) (k : KW bm B C) : KW bm A C := ⟨Nat.le_trans h.1 k.1, fun i o hi h1 h2 => k.2 i o (h.2 i o hi h1 h2) h1 h2⟩
theorem KW.of_below {bm : Nat} {W W' : World} (h : Below W.heap.size W W') : KW bm W W' := ⟨h.size, fun k o hk _ _ => (h.block k (Array.getElem?_eq_some_iff.1 hk).1).trans hk⟩
theorem KW.kpt {bm : Nat} {W W' : World} (h : KW bm W W') : KpT NotW W W' := fun k cs T fr hT hk => h.2 k _ hk (fun cs' T' fr' e => by cases e; exact hT) (fun e => by cases e)
theorem KW.row {bm : Nat} {W W' : World} (h : KW bm W W') {k : Nat} {cs : Array Value} {T : TypeId} {fr : Nat × Nat} (hk : W.heap[k]? = some (.cells cs T fr)) (hT : NotW T) : W'.heap[k]? = some (.cells cs T fr) := h.kpt k cs T fr hT hk
theorem KW.drew {bm : Nat} {A W : World} (h : KW bm A W) : KW bm A W.drew := h
theorem KW.of_grown {bm : Nat} {W W' : World} {row : Option Nat} (hg : W.grownBy W' row) (hr : ∀ k, row = some k → (∃ c fz, W.heap[k]? = some (.cells c 5 fz)) ∨ (k = bm ∧ ∃ o, W.heap[bm]? = some o ∧ o.isCells = false)) : KW bm W W' :=
  ⟨hg.size, fun k o hk h1 h2 => (hg.block k (Array.getElem?_eq_some_iff.1 hk).1 (fun e => by
    rcases hr k e.symm with ⟨c, fz, h3⟩ | ⟨h3, o', h4, h5⟩
    · rw [hk] at h3
      cases h3
      exact (h1 _ _ _ rfl).1 rfl
    · rw [h3] at hk
      rw [hk] at h4
      cases h4
      exact h2 h5 h3)).trans hk⟩
theorem KW.grown {bm : Nat} {A W W' : World} (h : KW bm A W) {row : Option Nat} (hg : W.grownBy W' row) (hr : ∀ k, row = some k → (∃ c fz, W.heap[k]? = some (.cells c 5 fz)) ∨ (k = bm ∧ ∃ o, W.heap[bm]? = some o ∧ o.isCells = false)) : KW bm A W' := h.trans (.of_grown hg hr)
theorem KW.of_set {bm : Nat} {W : World} {a : Addr} {cs : Array Value} {T : TypeId} {fr : Nat × Nat} (ha : W.heap[a.block]? = some (.cells cs T fr)) (hT : ¬ NotW T) (v : Value) : KW bm W (W.setCell a v) :=
  ⟨Nat.le_of_eq (by simp), fun k o hk h1 h2 => (Below.heap_setCell _ _ _ _ (fun e => by
    rw [e, ha] at hk
    cases hk
    exact hT (h1 _ _ _ rfl))).trans hk⟩
theorem KW.set {bm : Nat} {A W : World} (h : KW bm A W) {a : Addr} {cs : Array Value} {T : TypeId} {fr : Nat × Nat} (ha : W.heap[a.block]? = some (.cells cs T fr)) (hT : ¬ NotW T) (v : Value) : KW bm A (W.setCell a v) := h.trans (.of_set ha hT v)
/-- a writer -/
structure WrS (g bm base : Nat) (most : Int) (b : List UInt8) (M : Met) (bad : Bool) (w : World) : Prop where
  row : ∃ v, w.heap[g]? = some (.cells #[.int .i64 most, v, .map (some bm), .bool bad] 106 (0, 0)) ∧ w.ownsRow base 5 1 v b.length (encB b)
  map : w.ownsMap Try.prog 9 (plainElem (H := Unit) Try.prog 3) bm M.length (metD M)
structure WCtx (g bm base : Nat) (w0 : World) : Prop where
  hg : base ≤ g
  hm : base ≤ bm
  hb : base ≤ w0.heap.size
/-- a writer behind w0 -/
def WS (g bm base : Nat) (w0 : World) (most : Int) (b : List UInt8) (M : Met) (bad : Bool) (w : World) : Prop := WrS g bm base most b M bad w ∧ Below base w0 w ∧ KW bm w0 w
/-- a call's end: nothing told -/
def WEnd (bm : Nat) (P : World → Prop) (w0 : World) (e : Ending) (w' : World) : Prop := (∃ v, e = .returned v) ∧ P w' ∧ KW bm w0 w'
theorem owns_kind {w : World} {B e sz n : Nat} {v : Value} {xs : List Value} (h : w.ownsRow B e sz v n xs) : ∀ g, v.ownBlock = some g → ∃ c fz, w.heap[g]? = some (.cells c e fz) := by
  intro g hg
  rcases h.2 with ⟨h1, _⟩ | ⟨g', cap, cur, h1, h2, h3, h4⟩
  · rw [h1] at hg; cases hg
  · rw [h1] at hg
    cases hg
    exact ⟨_, _, h3⟩
theorem grown_of_below {w w' : World} (hb : Below w.heap.size w w') : w.grownBy w' none := ⟨hb.os, hb.tape, hb.output, hb.size, fun k hk _ => hb.block k hk⟩
theorem WrS.below {g bm base : Nat} {most : Int} {b : List UInt8} {M : Met} {bad : Bool} {w w' : World} (h : WrS g bm base most b M bad w) (hb : Below w.heap.size w w') : WrS g bm base most b M bad w' := by
  obtain ⟨⟨v, h1, h2⟩, h3⟩ := h
  exact ⟨⟨v, (hb.block g (Array.getElem?_eq_some_iff.1 h1).1).trans h1, owns_below h2 hb⟩, h3.kept (grown_of_below hb) (by simp)⟩
theorem WS.below {g bm base : Nat} {w0 : World} {most : Int} {b : List UInt8} {M : Met} {bad : Bool} {w w' : World} (h : WS g bm base w0 most b M bad w) (c : WCtx g bm base w0) (hb : Below w.heap.size w w') : WS g bm base w0 most b M bad w' :=
  ⟨h.1.below hb, h.2.1.trans (hb.mono (Nat.le_trans c.hb h.2.1.size)), h.2.2.trans (.of_below hb)⟩
theorem Byts.kpt {w w' : World} {a : Option Addr} {m cap : Nat} {ls : List UInt8} (h : Byts w (.slice a m cap) ls) (hb : Below w.heap.size w w') : Byts w' (.slice a m cap) ls := h.below hb (Nat.le_refl _)
section
variable {g bm base : Nat} {w0 : World} {most : Int} {b : List UInt8} {M : Met} {bad : Bool} {w : World}
set_option maxHeartbeats 2000000 in
theorem WBytes_any (c : WCtx g bm base w0) (h : WS g bm base w0 most b M bad w) (x : Value) (bs : List UInt8) (hx : Byts w x bs) (hl : b.length + bs.length ≤ 1099511627776) :
    Calls Try.prog 64 #[.pointer (some ⟨g, 0, none⟩), x] w (WEnd bm (WS g bm base w0 most (b ++ bs) M bad) w) := by
  obtain ⟨⟨⟨v, hrow, hown⟩, hmap⟩, hbw, hkw⟩ := h
  obtain ⟨a1, c1, rfl, _, _⟩ := (SlC.of_owns hown).slice
  obtain ⟨a2, c2, rfl, _, _⟩ := hx.slice
  have hbase : base ≤ w.heap.size := Nat.le_trans c.hb hbw.size
  have x1 : w.cell? ⟨g, 1, none⟩ = some (.slice a1 b.length c1) := row_cell hrow 1 _ rfl
  have HROW := Go.Lib.hid hrow
  have HOWN := Go.Lib.hid hown
  have HMAP := Go.Lib.hid hmap
  have HBW := Go.Lib.hid hbw
  have HKW := Go.Lib.hid hkw
  have HX := Go.Lib.hid hx
  have C := Go.Lib.hid c
  clear hrow hown hmap hbw hkw hx c
  go_enter Try.func64, Try.ntmps64
  go_wp2_with (at_builtin; refine wpList_app byteEi (.tmp 10) (.tmp 11) rfl rfl base rfl rfl HOWN.out HX.out ?a1 ?a2 ?a3 hbase ?a5)
  case a1 => exact one_byts bs
  case a2 => unfold maxLen; omega
  case a3 => omega
  case a5 =>
  intro v1 w1 hown1 hg1
  have hrow1 : w1.heap[g]? = _ := heap_kept HROW.out HOWN.out (by decide) hg1
  have hmap1 := HMAP.out.kept hg1 (fun e => by
    obtain ⟨es, cl, hb, _⟩ := HMAP.out
    obtain ⟨cc, fz, hk⟩ := owns_kind HOWN.out bm e.symm
    rw [hb] at hk
    cases hk)
  have hown2 : w1.ownsRow base 5 1 v1 (b ++ bs).length (encB (b ++ bs)) := by
    rw [List.length_append]; simpa [encB] using hown1
  have hb1 := below_app HBW.out HOWN.out hg1 (Nat.le_refl _) hbase
  have hk1 : KW bm w w1 := (KW.refl bm w).grown hg1 (fun k hr => .inl (owns_kind HOWN.out k hr))
  have y1 : w1.cell? ⟨g, 1, none⟩ = some (.slice a1 b.length c1) := row_cell hrow1 1 _ rfl
  have z1 : w1.frozen? ⟨g, 1, none⟩ = false := row_frozen hrow1 1
  have hset := heap_set (i := 1) (v := v1) hrow1
  have hmap2 := hmap1.setCell (a := ⟨g, 1, none⟩) (fun e => by
    obtain ⟨es, cl, hb, _⟩ := hmap1
    have : bm = g := e
    subst this
    rw [hb] at hrow1
    cases hrow1) v1
  have hown3 := World.ownsRow.setCellOther hown2 hrow1 (by decide) 1 v1
  have hb2 := hb1.setCell (p := ⟨g, 1, none⟩) C.out.hg v1
  have hk2 := hk1.set (a := ⟨g, 1, none⟩) hrow1 (fun hT => hT.2 rfl) v1
  obtain ⟨a3, c3, rfl, _, _⟩ := (SlC.of_owns hown1).slice
  have hfin : WS g bm base w0 most (b ++ bs) M bad (w1.setCell ⟨g, 1, none⟩ (.slice a3 (b.length + bs.length) c3)) := ⟨⟨⟨_, hset, hown3⟩, hmap2⟩, hb2, HKW.out.trans hk2⟩
  have HFIN := Go.Lib.hid hfin
  have HK2 := Go.Lib.hid hk2
  clear hfin hk2
  clear hrow1 hmap1 hown1 hown2 hown3 hb1 hb2 hk1 hset hmap2 hg1 x1
  go_wp2_with fail
  go_end0
  exact ⟨⟨_, rfl⟩, HFIN.out, HK2.out⟩
end
end Go.Proofs.Ythfhmbooeemaaaa

