/- Merged texts of the seat, in their order: NameD, Drw, PkC, PkD, PkE, PkF, App2, PkG, PkH, TrB, TrC, TrD, TrE, TrH. -/
import Derived.Test.YtkpcmnckdappnaaGreatG1
import Derived.Test.YtkpcmnckdappnaaGreatG2
import Derived.Test.YtkpcmnckdappnaaGreatG3
import Derived.Calls
import Derived.RunT
import Derived.Below
import Derived.Sort.Grow
import Derived.Sort.Row
import Derived.Deep.Draws
import Derived.Test.YtkpcmnckdappnaaGreatShelfB
import Derived.Shelf.SlSortCmp.Whole1
import Derived.Shelf.SlSortCmp.NoneTotal
import Derived.ArgAppend
import Derived.Deep.QuietTactic
import Derived.BigQuiet
/- The contracts of name.Less, Common, Join: what each returns, at every text and labels that memory bears. -/
namespace Go.Proofs.YtkpcmnckdappnaaGreat
open Go.RowKit

def strOf : Value → ByteArray
  | .string s => s
  | _ => ⟨#[]⟩

set_option maxRecDepth 100000 in
set_option maxHeartbeats 1000000 in
theorem Less_any (s t : ByteArray) (w : World) (hs : s.size ≤ maxLen) (ht : t.size ≤ maxLen) :
    Calls Tryz.prog 102 #[.string s, .string t] w fun e w' => e = .returned (.bool (Nm.lessN (bl s) (bl t))) ∧ Below w.heap.size w w' := by
  have hv := valid_any s w hs
  have hu := valid_any t w ht
  have ho := order_any s w hs
  have ho2 := fun w => order_any t w ht
  have hl1 := labs_le (bl s)
  have hl2 := labs_le (bl t)
  have hfin : Hid (Nm.lessN (bl s) (bl t) = (Nm.valid (bl s) && Nm.valid (bl t) && decide (Nm.cmpL (Nm.orderF (Nm.labs (bl s))) (Nm.orderF (Nm.labs (bl t))) < 0))) := Go.Lib.hid rfl
  have hx1 : (Nm.orderF (Nm.labs (bl s))).length ≤ 255 := by simp [Nm.orderF]; exact hl1
  have hx2 : (Nm.orderF (Nm.labs (bl t))).length ≤ 255 := by simp [Nm.orderF]; exact hl2
  have HV := Go.Lib.hid hv
  have HU := Go.Lib.hid hu
  have HO := Go.Lib.hid ho
  have HO2 := Go.Lib.hid ho2
  clear hs ht hv hu ho ho2 hl1 hl2
  generalize Nm.lessN (bl s) (bl t) = res at *
  generalize Nm.valid (bl s) = va at *
  generalize Nm.valid (bl t) = vb at *
  generalize (Nm.orderF (Nm.labs (bl s))) = x at *
  generalize (Nm.orderF (Nm.labs (bl t))) = y at *
  cases va with
  | false =>
    go_enter Tryz.func102, Tryz.ntmps102
    go_wp2_with fail
    refine HV.out.mono ?_; rintro e w' ⟨rfl, rfl⟩
    go_wp2_with fail
    go_ret
    exact ⟨ret_bool hfin.out.symm, Below.refl _ _⟩
  | true =>
    cases vb with
    | false =>
      go_enter Tryz.func102, Tryz.ntmps102
      go_wp2_with fail
      refine HV.out.mono ?_; rintro e w' ⟨rfl, rfl⟩
      go_wp2_with fail
      refine HU.out.mono ?_; rintro e w' ⟨rfl, rfl⟩
      go_wp2_with fail
      go_ret
      exact ⟨ret_bool hfin.out.symm, Below.refl _ _⟩
    | true =>
      go_enter Tryz.func102, Tryz.ntmps102
      go_wp2_with fail
      refine HV.out.mono ?_; rintro e w' ⟨rfl, rfl⟩
      go_wp2_with fail
      refine HU.out.mono ?_; rintro e w' ⟨rfl, rfl⟩
      go_wp2_with fail
      refine HO.out.mono ?_; rintro e w1 ⟨v1, rfl, hs1, hb1⟩
      go_wp2_with fail
      refine (HO2.out w1).mono ?_; rintro e w2 ⟨v2, rfl, hs2, hb2⟩
      obtain ⟨a1, c1, rfl, _, _⟩ := hs1.slice
      obtain ⟨a2, c2, rfl, _, _⟩ := hs2.slice
      have hcmp := compare_any x y a1 a2 c1 c2 w2 (hs1.below hb2 (Nat.le_refl _)) hs2 (by omega) (by omega)
      have HCMP := Go.Lib.hid hcmp
      have HB := Go.Lib.hid (hb1.trans (hb2.mono hb1.size))
      clear hs1 hs2 hb1 hb2 hcmp
      generalize Nm.cmpL x y = cc at *
      go_wp2_with fail
      refine HCMP.out.mono ?_; rintro e w' ⟨rfl, rfl⟩
      by_cases hc : cc < 0
      · go_wp2_with fail
        go_ret
        exact ⟨ret_bool (by rw [hfin.out]; simp [hc]), HB.out⟩
      · go_wp2_with fail
        go_ret
        exact ⟨ret_bool (by rw [hfin.out]; simp), HB.out⟩

end Go.Proofs.YtkpcmnckdappnaaGreat

/- No step of the machine takes a draw back: what has been drawn grows. So a call that leaves old memory alone ends in a world that is the old one with some draws more and new blocks behind. No conditions beside. -/
namespace Go.Drw
open Go Go.RowKit Go.Sort
set_option linter.unusedVariables false
set_option linter.unusedSimpArgs false

def rw' {α : Type} : Result α → World
  | .ok _ w => w
  | .halt _ w => w

theorem ask_drawn {α : Type} (a : Ask α) : ∀ w : World, w.drawn ≤ (w.ask a).2.drawn := by
  induction a with
  | done a => intro w; exact Nat.le_refl _
  | ask what range k ih =>
    intro w
    unfold World.ask
    simp only
    split
    · exact ih _ _
    · exact Nat.le_trans (Nat.le_succ _) (ih _ { w with drawn := w.drawn + 1 })

theorem sys_drawn (w : World) (c : Sys) : w.drawn ≤ (w.sys c).2.drawn := by
  have := ask_drawn (Kernel.perform c w.os) w
  unfold World.sys
  generalize w.ask (Kernel.perform c w.os) = x at *
  obtain ⟨⟨r, os⟩, w1⟩ := x
  cases r <;> first | exact this | exact Nat.le_refl _

theorem viewStore_drawn {p : Program} {w w' : World} {at_ : Addr} {u : TypeId} {k : Addr} {v : Value} {at2 : Bool} {l : List Addr} (h : w.viewStore p at_ u k v at2 = .ok (w', l)) : w'.drawn = w.drawn := by
  unfold World.viewStore at h
  simp only [bind, Except.bind, pure, Except.pure, throw, throwThe, MonadExceptOf.throw] at h
  repeat' split at h
  all_goals first | (cases h; done) | (cases h; rfl) | (simp at h; done) | (simp at h; obtain ⟨h, _⟩ := h; rw [← h])

theorem farStore_drawn {p : Program} {w w' : World} {a : Addr} {v : Value} {at2 : Bool} {l : List Addr} (h : w.farStore p a v at2 = .ok (w', l)) : w'.drawn = w.drawn := by
  unfold World.farStore at h
  split at h
  · split at h
    · rename_i h2
      cases h
      exact viewStore_drawn h2
    · cases h
  · cases h

theorem run_drawn {α : Type} (p : Program) (s : Sem α) : ∀ w : World, w.drawn ≤ (rw' (s.run p w)).drawn := by
  induction s with
  | pure a => intro w; exact Nat.le_refl _
  | load m a k ih =>
    intro w
    simp only [Sem.run]
    split
    · exact ih _ _
    · split
      · exact ih _ _
      · exact Nat.le_refl _
  | store m a v k ih =>
    intro w
    have key : w.drawn ≤ (rw' (match w.cell? a with
      | some _ => if w.frozen? a then Result.halt (.unsupported (.unsafePointer "a write to bytes that a string shares")) w else k.run p (w.setCell a v)
      | none => match w.farStore p a v (m == .atomic) with
        | .ok (w, _) => k.run p w
        | .error h => .halt h w)).drawn := by
      split
      · split
        · exact Nat.le_refl _
        · refine Nat.le_trans ?_ (ih _)
          unfold World.setCell
          split <;> exact Nat.le_refl _
      · split
        · rename_i h
          exact Nat.le_trans (Nat.le_of_eq (farStore_drawn h).symm) (ih _)
        · exact Nat.le_refl _
    cases v <;> simp only [Sem.run] <;> first | exact Nat.le_refl _ | exact key
  | new o k ih => intro w; exact ih _ { w with heap := w.heap.push o }
  | shape r k ih => intro w; exact ih _ _
  | freeze a n k ih =>
    intro w
    refine Nat.le_trans ?_ (ih _)
    unfold World.freeze
    split <;> exact Nat.le_refl _
  | frozen a k ih => intro w; exact ih _ _
  | getObj r k ih =>
    intro w
    simp only [Sem.run]
    split
    · exact Nat.le_refl _
    · exact ih _ _
    · exact Nat.le_refl _
  | setObj r o k ih =>
    intro w
    simp only [Sem.run]
    split
    · exact Nat.le_refl _
    · exact ih { w with heap := w.heap.setIfInBounds r o }
    · exact Nat.le_refl _
  | choose q k ih =>
    intro w
    simp only [Sem.run]
    split
    · exact ih _ _
    · exact Nat.le_trans (Nat.le_succ _) (ih _ { w with drawn := w.drawn + 1 })
  | sys c k ih => intro w; exact Nat.le_trans (sys_drawn w c) (ih _ _)
  | program k ih => intro w; exact ih _ _
  | mark m k ih => intro w; exact ih _
  | halt h => intro w; exact Nat.le_refl _

theorem run_ok {α : Type} {p : Program} {s : Sem α} {w w' : World} {v : α} (h : s.run p w = .ok v w') : w.drawn ≤ w'.drawn := by
  have := run_drawn p s w
  rw [h] at this
  exact this
theorem run_halt {α : Type} {p : Program} {s : Sem α} {w w' : World} {v : Halt} (h : s.run p w = .halt v w') : w.drawn ≤ w'.drawn := by
  have := run_drawn p s w
  rw [h] at this
  exact this
theorem runT_drawn {α : Type} (p : Program) (s : Sem α) (w : World) (es : Array Event) : w.drawn ≤ (rw' (s.runT p w es).1).drawn := by
  rw [Sem.runT_fst]
  exact run_drawn p s w
theorem runT_ok {α : Type} {p : Program} {s : Sem α} {w w' : World} {es es' : Array Event} {v : α} (h : s.runT p w es = (.ok v w', es')) : w.drawn ≤ w'.drawn := by
  have := runT_drawn p s w es
  rw [h] at this
  exact this
theorem runT_halt {α : Type} {p : Program} {s : Sem α} {w w' : World} {es es' : Array Event} {v : Halt} (h : s.runT p w es = (.halt v w', es')) : w.drawn ≤ w'.drawn := by
  have := runT_drawn p s w es
  rw [h] at this
  exact this

/-- a step's world -/
def gw : GStep → World
  | .go _ w _ => w
  | .comm _ _ _ _ w _ => w
  | .spawn _ _ w _ => w
  | .count _ w _ => w
  | .timer _ _ w _ => w
  | .alone _ _ w _ => w
  | .newcoro _ _ _ w _ => w
  | .coroswitch _ _ _ w _ => w
  | .collect _ w _ => w
  | .watch _ w _ => w
  | .ended _ w _ => w
theorem gw_after (es : Array Event) (s : GStep) : gw (s.after es) = gw s := by cases s <;> rfl

theorem endWith_drawn (w : World) (fd : Nat) (text : ByteArray) (o : Outcome) : w.drawn ≤ (gw (endWith w fd text o)).drawn := by
  have := sys_drawn w (.write fd text)
  unfold endWith
  simp only
  split
  · rename_i h
    rw [h] at this
    split <;> exact this
  · rename_i h
    rw [h] at this
    exact this
  · rename_i h
    rw [h] at this
    exact this
theorem endThrow_drawn (fr : Frame) (m : String) (w : World) : gw (endThrow fr m w) = w := rfl
theorem endPrinting_drawn (p : Program) (fr : Frame) (v : Value) (w : World) : gw (endPrinting p fr v w) = w := by
  unfold endPrinting
  simp only
  split <;> rfl
theorem endFatal_drawn (p : Program) (fr : Frame) (callers : List Frame) (dying : Option Dying) (m : String) (w : World) : w.drawn ≤ (gw (endFatal p fr callers dying m w)).drawn := by
  unfold endFatal
  simp only
  split
  · exact run_ok (by assumption)
  · exact run_halt (by assumption)
  · exact run_halt (by assumption)
theorem writeOn_drawn (p : Program) (fr : Frame) (d : Dying) (f : Fatal) (w : World) : w.drawn ≤ (gw (writeOn p fr d f w)).drawn := by
  unfold writeOn
  simp only
  split
  · exact Nat.le_refl _
  · split
    · exact runT_ok (by assumption)
    · exact runT_halt (by assumption)
    · exact runT_halt (by assumption)
    · exact runT_halt (by assumption)
theorem early_drawn (p : Program) (fr : Frame) (callers : List Frame) (dying : Option Dying) (g : Nat) (w : World) : w.drawn ≤ (gw (early p fr callers dying g w)).drawn := by
  unfold early
  simp only
  repeat' split
  all_goals first | exact Nat.le_refl _ | (have h := run_ok ‹Sem.run _ _ _ = Result.ok _ _›; exact h) | (have h := run_halt ‹Sem.run _ _ _ = Result.halt _ _›; exact h)
theorem die_drawn (p : Program) (fr : Frame) (d : Dying) (w : World) : w.drawn ≤ (gw (die p fr d w)).drawn := by
  unfold die
  split
  · exact writeOn_drawn p fr d _ w
  · split
    · split
      · exact Nat.le_refl _
      · exact endWith_drawn _ _ _ _
    · simp only
      split
      · exact Nat.le_refl _
      · split
        · exact run_ok (by assumption)
        · exact run_halt (by assumption)
      · rw [gw_after]
        have := runT_drawn p (invoke (.fn (.method ‹_›) #[]) #[.iface ‹_› ‹_›]) w #[]
        split
        · rename_i h; rw [h] at this; exact this
        · rename_i h; rw [h] at this; exact this
        · rename_i h; rw [h] at this; exact this
        · rename_i h; rw [h] at this; rw [endPrinting_drawn]; exact this
        · exact Nat.le_refl _
      · exact Nat.le_refl _
theorem doReturn_drawn (p : Program) (main : Bool) (fr : Frame) (callers : List Frame) (dying : Option Dying) (v : Value) (w : World) : gw (doReturn p main fr callers dying v w) = w := by
  unfold doReturn
  repeat' split
  all_goals rfl
theorem ite_gw {c : Prop} [Decidable c] {n : Nat} {a b : GStep} (h1 : n ≤ (gw a).drawn) (h2 : n ≤ (gw b).drawn) : n ≤ (gw (if c then a else b)).drawn := by
  split
  · exact h1
  · exact h2
theorem callDeferred_drawn (p : Program) (fr : Frame) (callers : List Frame) (dying : Option Dying) (d : Deferred) (w : World) : w.drawn ≤ (gw (callDeferred p fr callers dying d w)).drawn := by
  unfold callDeferred
  refine ite_gw ?_ ?_
  · exact Nat.le_refl _
  · have := runT_drawn p (invoke d.target d.args) w #[]
    generalize (invoke d.target d.args).runT p w #[] = x at *
    obtain ⟨r, es⟩ := x
    simp only [gw_after]
    simp only at this
    split
    all_goals first
      | exact this
      | (split <;> exact this)
      | exact Nat.le_trans this (endFatal_drawn _ _ _ _ _ _)
theorem unwind_drawn (p : Program) (main : Bool) (fr : Frame) (callers : List Frame) (dying : Option Dying) (w : World) : w.drawn ≤ (gw (unwind p main fr callers dying w)).drawn := by
  unfold unwind
  split
  · simp only [gw_after]
    have := runT_drawn p (Instr.takeDeferred ‹_›) w #[]
    split
    · rename_i h; rw [h] at this; exact this
    · rename_i h; rw [h] at this; exact this
  · exact callDeferred_drawn _ _ _ _ _ _
  · split
    · exact Nat.le_refl _
    · split
      · exact Nat.le_refl _
      · split
        · exact Nat.le_refl _
        · split
          · split
            · exact Nat.le_refl _
            · split
              · exact run_ok (by assumption)
              · exact run_halt (by assumption)
              · exact run_halt (by assumption)
          · split
            · rw [endPrinting_drawn]; exact Nat.le_refl _
            · exact Nat.le_refl _
    · split
      · rw [doReturn_drawn]; exact Nat.le_refl _
      · simp only [gw_after]
        rename_i fn _
        have := runT_drawn p (results fn fr.tmps) w #[]
        split
        · rename_i h; rw [h] at this; rw [doReturn_drawn]; exact this
        · rename_i h; rw [h] at this; exact this
        · rename_i h; rw [h] at this; exact this
theorem apply_drawn (p : Program) (listen : Bool) (fr : Frame) (callers : List Frame) (dying : Option Dying) (s : Sem Next) (w : World) : w.drawn ≤ (gw (stepG.apply p listen fr callers dying s w)).drawn := by
  unfold stepG.apply
  have h0 : w.drawn ≤ (rw' (if listen then s.runT p w #[] else (s.run p w, #[])).1).drawn := by
    split
    · exact runT_drawn _ _ _ _
    · exact run_drawn _ _ _
  generalize (if listen then s.runT p w #[] else (s.run p w, #[])) = x at *
  obtain ⟨r, es⟩ := x
  simp only [gw_after]
  simp only at h0
  split
  all_goals first
    | exact h0
    | exact ite_gw h0 h0
    | (split <;> exact h0)
    | exact Nat.le_trans h0 (endFatal_drawn _ _ _ _ _ _)
    | exact Nat.le_trans h0 (early_drawn _ _ _ _ _ _)
theorem exec_drawn (p : Program) (main listen : Bool) (fr : Frame) (callers : List Frame) (dying : Option Dying) (w : World) : w.drawn ≤ (gw (stepG.exec p main listen fr callers dying w)).drawn := by
  have hleave : ∀ jump : Option Code, w.drawn ≤ (gw (match fr.roundOf with
      | none => if jump matches none | some .ret then GStep.go { frame := { fr with mode := .returning }, callers, status := .running, dying } w else .ended (.stuck "exit, goto: no such block or label" (fr.pos p)) w
      | some l =>
        let (r, es) := (Instr.endRound l jump).runT p w #[]
        GStep.after (seen p fr.fn es) <| match r with
        | .ok v w => doReturn p main fr callers dying v w
        | .halt _ w => .ended (.stuck "range over a function: no such loop" (fr.pos p)) w)).drawn := by
    intro jump
    split
    · split <;> exact Nat.le_refl _
    · rename_i l _
      simp only [gw_after]
      have := runT_drawn p (Instr.endRound l jump) w #[]
      split
      · rename_i h; rw [h] at this; rw [doReturn_drawn]; exact this
      · rename_i h; rw [h] at this; exact this
  unfold stepG.exec
  simp only
  split
  · exact hleave none
  · exact hleave (some .ret)
  all_goals first
    | exact Nat.le_refl _
    | exact apply_drawn _ _ _ _ _ _ _
    | (split <;> exact Nat.le_refl _)
    | skip
  · rename_i id k _
    cases exitTo id k with
    | none => exact hleave (some (.exit id))
    | some k => exact Nat.le_refl _
  · rename_i l k _
    cases gotoIn l k with
    | none => exact hleave (some (.goto l))
    | some k => exact Nat.le_refl _
  · simp only [gw_after]
    rename_i f params assign body k _
    have := runT_drawn p (Instr.enterLoop fr.fn fr.tmps params assign body fr.roundOf) w #[]
    split
    · rename_i h; rw [h] at this; exact Nat.le_trans this (apply_drawn _ _ _ _ _ _ _)
    · rename_i h; rw [h] at this; exact this
  · simp only [gw_after]
    rename_i l k _
    have := runT_drawn p (Instr.endLoop l) w #[]
    split
    · rename_i h; rw [h] at this; exact this
    · rename_i h; rw [h] at this; exact this
    · rename_i h; rw [h] at this; exact this
  · cases Extern.next _ with
    | none => exact Nat.le_refl _
    | some e => exact apply_drawn _ _ _ _ _ _ _
  · split
    · exact Nat.le_refl _
    · split
      · exact run_ok (by assumption)
      · exact run_halt (by assumption)
  · split
    · unfold stepG.oper
      split
      · exact Nat.le_refl _
      · split
        · exact apply_drawn _ _ _ _ _ _ _
        · exact apply_drawn _ _ _ _ _ _ _
    · exact Nat.le_refl _
theorem stepG_drawn (p : Program) (main : Bool) (g : Goroutine) (w : World) (listen : Bool) : w.drawn ≤ (gw (stepG p main g w listen)).drawn := by
  unfold stepG
  simp only
  split
  · exact die_drawn _ _ _ _
  · exact exec_drawn _ _ _ _ _ _ _
  · exact unwind_drawn _ _ _ _ _ _

/-- a machine's step that goes on -/
def Nx (w : World) : Stepped → Prop
  | .next m => w.drawn ≤ m.world.drawn
  | .ended _ _ => True
theorem Nx.trans {a b : World} {s : Stepped} (h : a.drawn ≤ b.drawn) (k : Nx b s) : Nx a s := by
  cases s with
  | next m => exact Nat.le_trans h k
  | ended o w => trivial
theorem Nx_ite {c : Prop} [Decidable c] {w : World} {a b : Stepped} (h1 : Nx w a) (h2 : Nx w b) : Nx w (if c then a else b) := by
  split
  · exact h1
  · exact h2
theorem waitingAt_drawn {rest : Rest} {cases_ : Array CommCase} {w w' : World} (h : waitingAt rest cases_ w = some w') : w'.drawn = w.drawn := by
  unfold waitingAt at h
  split at h
  · split at h
    · cases h; rfl
    · cases h
  · cases h; rfl
theorem communicate_drawn (p : Program) (rest : Rest) (gs : Array Goroutine) (i : Nat) (g : Goroutine) (cs : Array CommCase) (blocking : Bool) (shape : CommShape) (w : World) : Nx w (communicate p rest gs i g cs blocking shape w).1 := by
  unfold communicate
  simp only
  split
  · trivial
  · split
    · split
      · split
        · rename_i h; exact Nat.le_of_eq (waitingAt_drawn h).symm
        · trivial
      · exact Nat.le_refl _
    · split
      · trivial
      · rename_i hr
        have h0 := run_ok hr
        split
        · split
          · rename_i h; have h2 := run_halt h; exact Nat.le_trans h0 h2
          · trivial
        · exact h0
        · exact h0
        · split
          · exact h0
          · split
            · rename_i h; have h2 := run_ok h; exact Nat.le_trans h0 h2
            · trivial
        · exact h0
        · exact h0
        · trivial
theorem look_drawn (p : Program) (gs : Array Goroutine) (rest : Rest) (w : World) : Nx w (look p gs rest w) := by
  unfold look
  simp only
  split
  · split
    · trivial
    · split
      · trivial
      · split
        · rename_i h; have h2 := run_ok h; exact h2
        · trivial
        · trivial
  · trivial
theorem retime_drawn (m : Machine) (k : Nat) (t : Timer) (when period : Nat) : (retime m k t when period).2.world.drawn = m.world.drawn := by
  unfold retime drain
  simp only
  repeat' split
  all_goals rfl
theorem timerOp_drawn {m m' : Machine} {op : TimerOp} {v : Value} (h : timerOp m op = .ok (v, m')) : m'.world.drawn = m.world.drawn := by
  unfold timerOp at h
  split at h
  · split at h
    · cases h; rfl
    · split at h
      · split at h
        · cases h
        · cases h; rfl
      · cases h
  · unfold timerOp.named at h
    split at h
    · cases h
      exact retime_drawn _ _ _ _ _
    · cases h
  · split at h
    · rename_i m2 hm2
      have e2 : m2.world.drawn = m.world.drawn := by
        unfold timerOp.opened at hm2
        split at hm2
        · split at hm2
          · cases hm2; rfl
          · cases hm2
        · cases hm2; rfl
      unfold timerOp.named at h
      split at h
      · cases h
        exact (retime_drawn _ _ _ _ _).trans e2
      · cases h
    · cases h
  · cases h; rfl
theorem serve_drawn (p : Program) (m : Machine) (k : Nat) : Nx m.world (serve p m k) := by
  unfold serve
  split
  · trivial
  · exact Nat.le_refl _
  · simp only
    split
    · trivial
    · exact Nat.le_refl _
theorem runT_step (p : Program) (m : Machine) (i : Nat) (listen : Bool) : Nx m.world (runT p m i listen).1 := by
  unfold runT
  simp only
  have hg := stepG_drawn p (i == 0) (m.gs.swapAt! i { (default : Goroutine) with status := .finished }).1 m.world listen
  generalize stepG p (i == 0) (m.gs.swapAt! i { (default : Goroutine) with status := .finished }).1 m.world listen = s at *
  split
  · trivial
  · exact Nx.trans hg (communicate_drawn _ _ _ _ _ _ _ _ _)
  · exact hg
  · exact hg
  · refine Nx.trans hg (Nx_ite trivial (Nat.le_refl _))
  · exact hg
  · exact Nx.trans hg (look_drawn _ _ _ _)
  · exact hg
  · exact hg
  · split
    · exact hg
    · split
      · rename_i h
        have e := congrArg gw h
        rw [endThrow_drawn] at e
        exact Nat.le_trans hg (Nat.le_of_eq (congrArg World.drawn e))
      · trivial
    · trivial
  · split
    · rename_i h
      exact Nat.le_trans hg (Nat.le_of_eq (timerOp_drawn h).symm)
    · split
      · rename_i h
        have e := congrArg gw h
        rw [endThrow_drawn] at e
        exact Nat.le_trans hg (Nat.le_of_eq (congrArg World.drawn e))
      · trivial
    · trivial
    · trivial
/-- what the machine does next -/
def Mv (w : World) : Move → Prop
  | .goroutine m _ => w.drawn ≤ m.world.drawn
  | .machine s _ => Nx w s
theorem Mv.trans {a b : World} {s : Move} (h : a.drawn ≤ b.drawn) (k : Mv b s) : Mv a s := by
  cases s with
  | goroutine m i => exact Nat.le_trans h k
  | machine s o => exact Nx.trans h k
theorem Mv_ite {c : Prop} [Decidable c] {w : World} {a b : Move} (h1 : Mv w a) (h2 : Mv w b) : Mv w (if c then a else b) := by
  split
  · exact h1
  · exact h2
theorem askOn_drawn (p : Program) (m : Machine) : Mv m.world (askOn p m) := by
  have hpick : ∀ m2 : Machine, m.world.drawn ≤ m2.world.drawn → Mv m.world (match (choose (.sched (runnable m.gs m.world.os.mono).length)).run p m2.world with
      | .halt _ w => .machine (.ended (.stuck "sched" "") w)
      | .ok k world =>
        if (runnable m.gs m.world.os.mono).length ≤ 1 then .goroutine { m2 with world } ((runnable m.gs m.world.os.mono).getD k 0) else
        match (choose (.extern "sched.slice" 65536)).run p world with
        | .halt _ w => .machine (.ended (.stuck "sched.slice" "") w)
        | .ok n world => .goroutine { m2 with world, rest := { m2.rest with slice := if n = 0 then none else some ((runnable m.gs m.world.os.mono).getD k 0, n) } } ((runnable m.gs m.world.os.mono).getD k 0)) := by
    intro m2 h2
    split
    · trivial
    · rename_i h
      have e1 := run_ok h
      refine Mv_ite (Nat.le_trans h2 e1) ?_
      split
      · trivial
      · rename_i h3
        have e2 := run_ok h3
        exact Nat.le_trans h2 (Nat.le_trans e1 e2)
  unfold askOn
  simp only
  split
  · trivial
  · rename_i k w1 h
    have e1 := run_ok h
    refine Mv_ite ?_ ?_
    · exact Nx.trans e1 (serve_drawn p { m with world := w1 } _)
    · split
      · split
        · exact e1
        · refine Mv_ite e1 ?_
          split
          · trivial
          · trivial
      · split
        · exact hpick { m with world := w1 } e1
        · split
          · trivial
          · rename_i w2 h2
            exact hpick { m with world := w2 } (Nat.le_trans e1 (run_ok h2))
          · rename_i w2 h2
            have e3 := Nat.le_trans e1 (run_ok h2)
            exact e3
          · rename_i k2 w2 h2
            have e3 : m.world.drawn ≤ w2.drawn := Nat.le_trans e1 (run_ok h2)
            exact hpick (Machine.advanceTo { m with world := w2 } _) e3
theorem ask_move (p : Program) (m : Machine) : Mv m.world (ask p m) := by
  unfold ask
  split
  · split
    · trivial
    · rename_i w1 h
      have e1 := run_ok h
      have e2 := look_drawn p m.gs m.rest w1
      split
      · rename_i m2 h2
        rw [h2] at e2
        exact Mv.trans (Nat.le_trans e1 e2) (askOn_drawn p m2)
      · exact Nx.trans e1 e2
    · rename_i h
      have e1 := run_ok h
      exact Mv.trans e1 (askOn_drawn p _)
  · exact askOn_drawn p m
theorem move_drawn (p : Program) (m : Machine) : Mv m.world (move p m) := by
  unfold move
  split
  · exact Mv_ite (Nat.le_refl _) trivial
  · split
    · exact Mv_ite (Nat.le_refl _) (Mv.trans (Nat.le_refl _) (ask_move p _))
    · exact ask_move p m
theorem step_drawn {p : Program} {m m' : Machine} (h : step p m = .next m') : m.world.drawn ≤ m'.world.drawn := by
  have hm := move_drawn p m
  unfold step stepT at h
  split at h
  · rename_i m2 i h2
    rw [h2] at hm
    have hr := runT_step p m2 i true
    rw [h] at hr
    exact Nat.le_trans hm hr
  · rename_i s o h2
    rw [h2] at hm
    simp only at h
    rw [h] at hm
    exact hm
theorem runN_drawn {p : Program} : ∀ (n : Nat) {m m' : Machine}, runN p n m = .next m' → m.world.drawn ≤ m'.world.drawn
  | 0, m, m', h => by
    simp only [runN, Stepped.next.injEq] at h
    rw [h]
    exact Nat.le_refl _
  | n + 1, m, m', h => by
    simp only [runN] at h
    split at h
    · rename_i m2 h2
      exact Nat.le_trans (step_drawn h2) (runN_drawn n h)
    · rename_i h2
      cases hs : step p m with
      | next m2 => exact absurd hs (h2 m2)
      | ended o w => rw [hs] at h; cases h
theorem steps_drawn {p : Program} {m m' : Machine} (h : Steps p m m') : m.world.drawn ≤ m'.world.drawn := by
  obtain ⟨n, hn⟩ := h
  exact runN_drawn n hn
/-- what a call's contract says may be said with its draws -/
theorem calls_drawn {P : Program} {f : FuncId} {args : Array Value} {w : World} {R : Ending → World → Prop} (h : Calls P f args w R) : Calls P f args w fun e w' => R e w' ∧ ((∃ v, e = .returned v) → w.drawn ≤ w'.drawn) := by
  intro cs
  obtain ⟨e, w', fr, hR, hc, hf, hl⟩ := h cs
  refine ⟨e, w', fr, ⟨hR, ?_⟩, hc, hf, hl⟩
  rintro ⟨v, rfl⟩
  exact steps_drawn (p := P) hc
theorem grow_of {w w' : World} (h : Below w.heap.size w w') (hd : w.drawn ≤ w'.drawn) : ∃ q os, w' = grow (w.drewN q) os := by
  refine ⟨w'.drawn - w.drawn, w'.heap.extract w.heap.size w'.heap.size, ?_⟩
  obtain ⟨h1, h2, h3, h4, h5⟩ := h
  have hheap : w'.heap = w.heap ++ w'.heap.extract w.heap.size w'.heap.size := by
    apply Array.ext_getElem?
    intro i
    by_cases hi : i < w.heap.size
    · rw [Array.getElem?_append_left hi]
      exact h5 i hi
    · rw [Array.getElem?_append_right (by omega), Array.getElem?_extract]
      split
      · rw [show w.heap.size + (i - w.heap.size) = i by omega]
      · rw [Array.getElem?_eq_none (by omega)]
  obtain ⟨heap, tape, drawn, os, output⟩ := w'
  simp only at h1 h2 h3 hd hheap
  subst h1 h2 h3
  unfold grow World.drewN
  simp only [World.mk.injEq, and_true, true_and]
  exact ⟨hheap, by omega⟩
/-- a contract that leaves old memory alone, in the form that the sort asks for -/
theorem calls_grow {P : Program} {f : FuncId} {args : Array Value} {w : World} {v : Value} (h : Calls P f args w fun e w' => e = .returned v ∧ Below w.heap.size w w') : Calls P f args w fun e w' => e = .returned v ∧ ∃ q os, w' = grow (w.drewN q) os :=
  (calls_drawn h).mono fun e w' ⟨⟨he, hb⟩, hd⟩ => ⟨he, grow_of hb (hd ⟨v, he⟩)⟩
end Go.Drw

/- Pick: the contract of pick.order: the names' order as a number. -/
namespace Go.Proofs.YtkpcmnckdappnaaGreat
open Go.RowKit
set_option maxRecDepth 100000
set_option linter.unusedVariables false

/-- names' order as a number -/
def cmpN (a b : List UInt8) : Int := if Nm.lessN a b then -1 else if Nm.lessN b a then 1 else 0
theorem cmpN_lt (a b : List UInt8) : decide (cmpN a b < 0) = Nm.lessN a b := by
  unfold cmpN
  cases h : Nm.lessN a b with
  | true => rfl
  | false =>
    cases h2 : Nm.lessN b a <;> rfl
end Go.Proofs.YtkpcmnckdappnaaGreat

/- Pick: rows of one-cell elements that the library sorts and compacts; pick.told: a name's addresses. -/
namespace Go.Proofs.YtkpcmnckdappnaaGreat
open Go.RowKit Go.Sort Go.Lib
set_option maxRecDepth 100000
set_option linter.unusedVariables false
set_option linter.unusedSimpArgs false

section
variable {α : Type} [Inhabited α] {enc : α → Value}
theorem put_heap {w : World} {g : Nat} {C : Array Value} {e : TypeId} {f : Nat × Nat} (h : w.heap[g]? = some (.cells C e f)) (d : Array α) (n off : Nat) (os : Array Obj) : (grow (putRow enc (Sort.ahead w n) g off d) os).heap[g]? = some (.cells (putCells enc off d C) e f) := by
  have hlt := (Array.getElem?_eq_some_iff.1 h).1
  have hs : (putRow enc (Sort.ahead w n) g off d).heap.size = w.heap.size := by unfold putRow mapBlock; simp [Sort.ahead]
  rw [heap_grow_old _ _ (by rw [hs]; exact hlt)]
  unfold putRow mapBlock
  simp only [Sort.ahead, Array.getElem?_modify, if_true, h, Option.map_some, onCells]
theorem put_other {w : World} {g q : Nat} (hq : q ≠ g) (hl : q < w.heap.size) (d : Array α) (n off : Nat) (os : Array Obj) : (grow (putRow enc (Sort.ahead w n) g off d) os).heap[q]? = w.heap[q]? := by
  have hs : (putRow enc (Sort.ahead w n) g off d).heap.size = w.heap.size := by unfold putRow mapBlock; simp [Sort.ahead]
  rw [heap_grow_old _ _ (by rw [hs]; exact hl)]
  unfold putRow mapBlock
  simp only [Sort.ahead, Array.getElem?_modify, if_neg (Ne.symm hq)]
theorem put_row {w : World} {g : Nat} {cs : List Value} (h : Row w g cs) (d : Array α) (hs : d.size = cs.length) (n : Nat) (os : Array Obj) : Row (grow (putRow enc (Sort.ahead w n) g 0 d) os) g (d.toList.map enc) := by
  obtain ⟨C, e, lo, hi, hg, ht, hl, hf⟩ := h
  refine ⟨putCells enc 0 d C, e, lo, hi, put_heap hg d n 0 os, ?_, by unfold putCells; simp; omega, by simpa [hs] using hf⟩
  refine List.ext_getElem? fun i => ?_
  rw [List.length_map, Array.length_toList]
  by_cases hi2 : i < d.size
  · rw [List.getElem?_take_of_lt hi2, List.getElem?_map, Array.getElem?_toList, Array.getElem?_toList]
    unfold putCells
    rw [Array.getElem?_mapIdx, Array.getElem?_eq_getElem (by omega), Array.getElem?_eq_getElem hi2, Option.map_some, Option.map_some, if_pos ⟨Nat.zero_le _, by omega⟩, Nat.sub_zero, getElem!_pos d i hi2]
  · rw [List.getElem?_eq_none (by rw [List.length_take]; omega), List.getElem?_eq_none (by simp; omega)]
theorem below_put {B g : Nat} {w0 w : World} (h : Below B w0 w) (hg : B ≤ g) (hB : B ≤ w.heap.size) (d : Array α) (n : Nat) (os : Array Obj) : Below B w0 (grow (putRow enc (Sort.ahead w n) g 0 d) os) := by
  have hs : (putRow enc (Sort.ahead w n) g 0 d).heap.size = w.heap.size := by unfold putRow mapBlock; simp [Sort.ahead]
  refine ⟨h.os, h.tape, h.output, Nat.le_trans h.size (by rw [size_grow, hs]; exact Nat.le_add_right _ _), fun k hk => ?_⟩
  rw [put_other (by omega) (by omega)]
  exact h.block k hk
theorem holds_of {w : World} {g : Nat} {d : Array α} (h : Row w g (d.toList.map enc)) : Holds enc w g 0 d := fun j hj => by
  have hl : j < (d.toList.map enc).length := by simpa using hj
  rw [Nat.zero_add]
  refine ⟨?_, h.free hl⟩
  rw [h.cell hl, List.getElem?_map, Array.getElem?_toList, Array.getElem?_eq_getElem hj, Option.map_some, getElem!_pos d j hj]
theorem Row_pre {w : World} {g : Nat} {a b : List Value} (h : Row w g (a ++ b)) : Row w g a := by
  obtain ⟨C, e, lo, hi, hg, ht, hl, hf⟩ := h
  rw [List.length_append] at ht hl hf
  refine ⟨C, e, lo, hi, hg, ?_, by omega, by omega⟩
  have := congrArg (List.take a.length) ht
  rw [List.take_take, List.take_left, Nat.min_eq_left (by omega)] at this
  exact this
end
theorem own_base {w : World} {b b' e sz n : Nat} {v : Value} {xs : List Value} (h : w.ownsRow b e sz v n xs) (hb : b' ≤ b) : w.ownsRow b' e sz v n xs := by
  refine ⟨h.1, ?_⟩
  rcases h.2 with h2 | ⟨g, cap, cur, h1, h2, h3⟩
  · exact .inl h2
  · exact .inr ⟨g, cap, cur, h1, Nat.le_trans hb h2, h3⟩
theorem own_put {α : Type} [Inhabited α] {enc : α → Value} {w : World} {base e g n cap : Nat} {xs : List Value} (h : w.ownsRow base e 1 (.slice (some ⟨g, 0, none⟩) n cap) n xs) (d : Array α) (hd : d.size = n) (k : Nat) (os : Array Obj) : (grow (putRow enc (Sort.ahead w k) g 0 d) os).ownsRow base e 1 (.slice (some ⟨g, 0, none⟩) n cap) n (d.toList.map enc) := by
  obtain ⟨h1, h2⟩ := h
  refine ⟨by rw [List.length_map, Array.length_toList, hd, Nat.mul_one], ?_⟩
  rcases h2 with ⟨h2, _⟩ | ⟨g', cap', cur, hv, hb, hg, hn, hm, hs, ht⟩
  · cases h2
  · simp only [Value.slice.injEq, Option.some.injEq, Addr.mk.injEq] at hv
    obtain ⟨⟨rfl, _⟩, _, rfl⟩ := hv
    refine .inr ⟨g, cap, putCells enc 0 d cur, rfl, hb, put_heap hg d k 0 os, hn, hm, by unfold putCells; rw [Array.size_mapIdx]; exact hs, ?_⟩
    rw [Nat.mul_one] at hs ⊢
    refine List.ext_getElem? fun i => ?_
    by_cases hi2 : i < n
    · rw [List.getElem?_take_of_lt hi2, List.getElem?_map, Array.getElem?_toList, Array.getElem?_toList]
      unfold putCells
      rw [Array.getElem?_mapIdx, Array.getElem?_eq_getElem (by omega), Array.getElem?_eq_getElem (by omega), Option.map_some, Option.map_some, if_pos ⟨Nat.zero_le _, by omega⟩, Nat.sub_zero, getElem!_pos d i (by omega)]
    · rw [List.getElem?_eq_none (by rw [List.length_take]; omega), List.getElem?_eq_none (by simp; omega)]
theorem own_cut {w : World} {base e g n cap : Nat} {a b : List Value} (h : w.ownsRow base e 1 (.slice (some ⟨g, 0, none⟩) n cap) n (a ++ b)) : w.ownsRow base e 1 (.slice (some ⟨g, 0, none⟩) a.length cap) a.length a := by
  obtain ⟨h1, h2⟩ := h
  rw [List.length_append] at h1
  refine ⟨by omega, ?_⟩
  rcases h2 with ⟨h2, _⟩ | ⟨g', cap', cur, hv, hb, hg, hn, hm, hs, ht⟩
  · cases h2
  · simp only [Value.slice.injEq, Option.some.injEq, Addr.mk.injEq] at hv
    obtain ⟨⟨rfl, _⟩, _, rfl⟩ := hv
    refine .inr ⟨g, cap, cur, rfl, hb, hg, by omega, hm, hs, ?_⟩
    have := congrArg (List.take a.length) ht
    rw [List.take_take, List.take_left, Nat.min_eq_left (by omega)] at this
    rw [Nat.mul_one]
    exact this
theorem told_merge (zs : List Int) : compact (zs.mergeSort fun x y => decide (x ≤ y)) = toldN zs := by
  have hl : (zs.mergeSort fun x y => decide (x ≤ y)).length = zs.length := List.length_mergeSort _
  have h := sort_compact (lt := ltI) (P := fun _ => True) od_ints (d := zs.toArray) (d' := (zs.mergeSort fun x y => decide (x ≤ y)).toArray) (fun _ _ => trivial) ?_ ?_
  · exact h
  · refine ⟨by simp [hl], fun i hi => ?_, ?_⟩
    · have hi2 : zs.length ≤ i := by rcases hi with h | h; omega; simpa using h
      rw [getElem!_neg _ _ (by simp; omega), getElem!_neg _ _ (by simp; omega)]
    · rw [Array.extract_eq_self_of_le (by simp [hl]), Array.extract_eq_self_of_le (by simp)]
      exact List.mergeSort_perm _ _
  · intro i j _ hij hj
    have hj2 : j < (zs.mergeSort fun x y => decide (x ≤ y)).length := by rw [hl]; simpa using hj
    have hp := List.pairwise_mergeSort (le := fun x y : Int => decide (x ≤ y)) (fun a b c h1 h2 => by simp at *; omega) (fun a b => by simp; omega) zs
    have := List.pairwise_iff_getElem.1 hp i j (by omega) hj2 hij
    rw [getElem!_pos _ j (by simpa using hj2), getElem!_pos _ i (by simp; omega)]
    unfold ltI
    simp at this ⊢
    exact this
/-- what a function tells of a name's addresses -/
def TellsA (P : Program) (g : FuncId) (cb : Array Value) (n : List UInt8) (zs : List Int) (w : World) : Prop :=
  ∀ W, Below w.heap.size w W → Calls P g (#[.string (mk n)] ++ cb) W fun e w' => ∃ v, e = .returned v ∧ Ints w' v zs ∧ Below W.heap.size W w'
def RetInts (w : World) (zs : List Int) (e : Ending) (w' : World) : Prop := ∃ v, e = .returned v ∧ w'.ownsRow w.heap.size 3 1 v zs.length (zs.map (Value.int .i64)) ∧ Below w.heap.size w w'
theorem run_eql_func {P : Program} (t : TypeId) (f : Fn) (a b : Array Value) {ps rs : Array TypeId} {va : Bool} (h : P.underlying t = some (.func ps rs va)) (w : World) : (binOp .eql t (.func f a b) .nilFunc).run P w = .ok (.bool false) w := by
  have h1 : ∀ d : Nat, (Op.equalIn (d + 1) t (.func f a b) .nilFunc).run P w = .ok false w := fun d => by
    simp [Op.equalIn, run_underlying h]
  simp only [binOp]
  simp [Op.equal, Op.maxDepth, h1 9999]
end Go.Proofs.YtkpcmnckdappnaaGreat

/- Pick: names are sorted: slices.SortFunc at []string with pick.order, then slices.Compact. -/
namespace Go.Proofs.YtkpcmnckdappnaaGreat
open Go.RowKit Go.Sort Go.Lib
set_option maxRecDepth 100000
set_option linter.unusedVariables false

/-- folded names -/
abbrev FN := { x : List UInt8 // PN x }
instance : Inhabited FN := ⟨⟨[0], by decide +kernel, by decide +kernel⟩⟩
instance : DecidableEq FN := fun a b => decidable_of_iff (a.1 = b.1) ⟨Subtype.ext, fun h => by rw [h]⟩
def encN' (x : FN) : Value := .string (mk x.1)
theorem one_encN : OneCell encN' := fun _ => rfl
theorem od_fn : Od (fun x y : FN => Nm.lessN x.1 y.1) fun _ => True where
  irr x _ := od_names.irr x.1 x.2
  tr x y z _ _ _ := od_names.tr _ _ _ x.2 y.2 z.2
  tot x y _ _ h1 h2 := Subtype.ext (od_names.tot _ _ x.2 y.2 h1 h2)
theorem swo_of {α : Type} {lt : α → α → Bool} (O : Od lt fun _ => True) : SWO lt where
  irrefl x := O.irr x trivial
  trans x y z := O.tr x y z trivial trivial trivial
  ntrans x y z h1 h2 := by
    cases h : lt x z with
    | false => rfl
    | true =>
      exfalso
      cases h3 : lt y x with
      | true =>
        have := O.tr y x z trivial trivial trivial h3 h
        rw [h2] at this
        cases this
      | false =>
        have := O.tot x y trivial trivial h1 h3
        subst this
        rw [h2] at h
        cases h
theorem lt_cmpN : (ltOf fun x y : FN => cmpN x.1 y.1) = fun x y : FN => Nm.lessN x.1 y.1 := by
  funext x y
  unfold ltOf
  exact cmpN_lt _ _
/-- names with proofs -/
def fnL : (l : List (List UInt8)) → (∀ x ∈ l, PN x) → List FN
  | [], _ => []
  | x :: l, h => ⟨x, h x (List.mem_cons_self ..)⟩ :: fnL l fun y hy => h y (List.mem_cons_of_mem _ hy)
theorem fnL_val : ∀ (l : List (List UInt8)) (h : ∀ x ∈ l, PN x), (fnL l h).map (·.1) = l
  | [], _ => rfl
  | x :: l, h => by unfold fnL; rw [List.map_cons, fnL_val l]
theorem fnL_len (l : List (List UInt8)) (h : ∀ x ∈ l, PN x) : (fnL l h).length = l.length := by
  have := congrArg List.length (fnL_val l h)
  rwa [List.length_map] at this
theorem fnL_enc (l : List (List UInt8)) (h : ∀ x ∈ l, PN x) : (fnL l h).map encN' = encS l := by
  have : (fnL l h).map encN' = ((fnL l h).map (·.1)).map fun x => Value.string (mk x) := by rw [List.map_map]; rfl
  rw [this, fnL_val]
  rfl
theorem insL_val (x : FN) : ∀ (l : List FN), (insL (fun x y : FN => Nm.lessN x.1 y.1) x l).map (·.1) = insL Nm.lessN x.1 (l.map (·.1))
  | [] => rfl
  | y :: l => by
    simp only [insL, List.map_cons]
    by_cases h : Nm.lessN y.1 x.1 = true
    · rw [if_pos h, if_pos h, List.map_cons, insL_val x l]
    · rw [if_neg h, if_neg h]
      by_cases h2 : y = x
      · rw [if_pos h2, if_pos (by rw [h2])]; rfl
      · rw [if_neg h2, if_neg (fun e => h2 (Subtype.ext e))]; rfl
theorem insAll_val (l : List FN) : (insAll (fun x y : FN => Nm.lessN x.1 y.1) l).map (·.1) = insAll Nm.lessN (l.map (·.1)) := by
  have h : ∀ (l o : List FN), (l.foldl (fun o x => insL (fun x y : FN => Nm.lessN x.1 y.1) x o) o).map (·.1) = (l.map (·.1)).foldl (fun o x => insL Nm.lessN x o) (o.map (·.1)) := fun l => by
    induction l with
    | nil => intro o; rfl
    | cons x l ih => intro o; rw [List.foldl_cons, ih, insL_val]; rfl
  exact h l []
end Go.Proofs.YtkpcmnckdappnaaGreat

/- Pick: the contract of pick.Targets: where a set leads to, each once, in order. -/
namespace Go.Proofs.YtkpcmnckdappnaaGreat
open Go.RowKit Go.Sort Go.Lib
set_option maxRecDepth 100000
set_option linter.unusedVariables false

theorem row_cell {W : World} {g : Nat} {cs : Array Value} {T : TypeId} {fr : Nat × Nat} (hr : W.heap[g]? = some (.cells cs T fr)) (i : Nat) (v : Value) (h : cs[i]? = some v) : W.cell? ⟨g, i, none⟩ = some v := by
  simp [World.cell?, hr, h]
theorem row_frozen {w : World} {g : Nat} {cur : Array Value} {e : TypeId} (h : w.heap[g]? = some (.cells cur e (0, 0))) (j : Nat) : w.frozen? ⟨g, j, none⟩ = false := by simp [World.frozen?, h]
abbrev setC (kn : List UInt8) (kt : Int) (v : Value) (kd : Int) (zn : List UInt8) : Array Value := #[.string (mk kn), .int .i64 kt, v, .int .i64 kd, .string (mk zn)]
abbrev setV (kn : List UInt8) (kt : Int) (v : Value) (kd : Int) (zn : List UInt8) : Value := .agg (setC kn kt v kd zn)
theorem compact_map {α β : Type} [Inhabited α] [DecidableEq α] [Inhabited β] [DecidableEq β] (f : α → β) (hf : ∀ a b, f a = f b → a = b) (d : Array α) : compactUpTo (d.map f) (d.map f).size = (compactUpTo d d.size).map f := by
  have hg : ∀ i, i < d.size → (d.map f)[i]! = f d[i]! := fun i hi => by
    rw [getElem!_pos (d.map f) i (by rw [Array.size_map]; exact hi), getElem!_pos d i hi, Array.getElem_map]
  unfold compactUpTo
  rw [Array.size_map, List.map_map]
  have e : (List.range d.size).filter (keeps (d.map f)) = (List.range d.size).filter (keeps d) := by
    refine List.filter_congr fun j hj => ?_
    rw [List.mem_range] at hj
    unfold keeps
    rw [hg j hj, hg (j - 1) (by omega)]
    refine decide_eq_decide.2 ⟨?_, ?_⟩
    · rintro (h | h)
      · exact .inl h
      · exact .inr fun e => h (by rw [e])
    · rintro (h | h)
      · exact .inl h
      · exact .inr fun e => h (hf _ _ e)
  rw [e]
  refine List.map_congr_left fun j hj => ?_
  exact hg j (List.mem_range.1 (List.mem_filter.1 hj).1)
theorem insAll_nil {α : Type} [DecidableEq α] {lt : α → α → Bool} : insAll lt ([] : List α) = [] := rfl
theorem targL_len (rs : List Rc.RR) : (targL rs).length ≤ rs.length := List.length_filterMap_le _ _
theorem targL_take {rs : List Rc.RR} {k : Nat} (h : k < rs.length) : targL (rs.take (k + 1)) = targL (rs.take k) ++ (if (targP (rs.getD k r0).ty (rs.getD k r0).data).2 then [Nm.foldN (targP (rs.getD k r0).ty (rs.getD k r0).data).1] else []) := by
  rw [List.take_succ_eq_append_getElem h, targL_snoc, List.getD_eq_getElem?_getD, List.getElem?_eq_getElem h]
  rfl
end Go.Proofs.YtkpcmnckdappnaaGreat

/- 'append' of one row to a slice of the call's own: where the new slice lies (where the old one lay, or in new memory). Conditions: the lengths' sum is within what Go's growslice bears. -/
namespace Go.Proofs.YtkpcmnckdappnaaGreat
open Go.RowKit

/-- where it lay, or in new memory -/
def SameOrNew (N : Nat) (v v' : Value) : Prop := v'.ownBlock = v.ownBlock ∨ ∃ g, v'.ownBlock = some g ∧ N ≤ g
theorem new_block {w : World} {base e sz n : Nat} {v : Value} {xs : List Value} (h : w.ownsRow base e sz v n xs) (hn : 0 < n) : ∃ g, v.ownBlock = some g ∧ base ≤ g := by
  rcases h.2 with ⟨rfl, h0⟩ | ⟨g, cap, cur, rfl, hb, _⟩
  · omega
  · exact ⟨g, rfl, hb⟩

theorem run_app2 {P : Program} {t e sz bytes : Nat} (ei : EI P t e sz bytes) (w : World) (ty base : Nat) {v : Value} {n m c : Nat} {a : Addr} {xs news : List Value} (hown : w.ownsRow base e sz v n xs)
    (hl : news.length = m * sz) (hc : ∀ j u, news[j]? = some u → w.cell? (a.add j) = some u) (h1 : ∀ u ∈ news, u.oneCell' = true) (hm : 0 < m) (h63 : n + m ≤ maxLen) (hbytes : (n + m) * bytes ≤ 140737488355328) (hbase : base ≤ w.heap.size) :
    ∃ v' w', (Builtin.append_ #[t, t] ty #[v, .slice (some a) m c]).run P w = .ok v' w' ∧ w'.ownsRow base e sz v' (n + m) (xs ++ news) ∧ w.grownBy w' v.ownBlock ∧ SameOrNew w.heap.size v v' := by
  obtain ⟨i, z, ht, hi, hz, hsz, hby, hzs, hpos⟩ := ei
  obtain ⟨v', w', hrun, ho, hg, _⟩ := run_append_own (P := P) w base t ty e i z sz bytes ht hi hz hsz hby hzs hpos v n xs hown a m c news hl hc h1 h63 hbytes hbase
  refine ⟨v', w', hrun, ho, hg, ?_⟩
  rcases hown.2 with ⟨rfl, rfl⟩ | ⟨g, cap, cur, rfl, hbg, hgh, hnc, hcm, hcs, htake⟩
  · have hx : xs = [] := List.eq_nil_of_length_eq_zero (by simpa using hown.1)
    subst hx
    obtain ⟨v2, w2, hrun2, ho2, _⟩ := run_append_own (P := P) w w.heap.size t ty e i z sz bytes ht hi hz hsz hby hzs hpos _ 0 [] (World.ownsRow_nil _ _ _ _) a m c news hl hc h1 h63 hbytes (Nat.le_refl _)
    have he := hrun.symm.trans hrun2
    simp only [Result.ok.injEq] at he
    obtain ⟨rfl, rfl⟩ := he
    obtain ⟨g, hg1, hg2⟩ := new_block ho2 (by omega)
    exact .inr ⟨g, hg1, hg2⟩
  · by_cases hroom : n + m ≤ cap
    · have hfit : n * i.size + news.length ≤ cur.size := by rw [hsz, hl, hcs, ← Nat.add_mul]; exact Nat.mul_le_mul_right _ hroom
      have hr := run_append_room (P := P) w t ty e i ht hi g n cap cur hgh a m c news (by rw [hsz]; exact hl) hc h1 hroom hfit
      have he := hrun.symm.trans hr
      simp only [Result.ok.injEq] at he
      obtain ⟨rfl, _⟩ := he
      exact .inl rfl
    · have holds : ∀ j u, xs[j]? = some u → w.cell? ((⟨g, 0, none⟩ : Addr).add j) = some u := hown.cells (g := g) rfl
      obtain ⟨v2, w2, hrun2, ho2, _⟩ := run_append_arg_grows (P := P) (w := w) t ty e i z sz bytes ht hi hz hsz hby hzs hpos ⟨g, 0, none⟩ n cap xs hown.1 holds a m c news hl hc (by omega) h63 hbytes
      have he := hrun.symm.trans hrun2
      simp only [Result.ok.injEq] at he
      obtain ⟨rfl, rfl⟩ := he
      obtain ⟨g2, hg1, hg2⟩ := new_block ho2 (by omega)
      exact .inr ⟨g2, hg1, hg2⟩

/-- one element, of a slice that was built just now, appended in a region whose order is open -/
theorem mixT_app1 {P : Program} {t e sz bytes : Nat} (ei : EI P t e sz bytes) {w : World} {ops : Array Oper} {rest : List Oper} {o : Oper} {a : Act} {Es : List Nat} {C : World → Prop} {Q : Act → World → Prop} {k tl : Nat} (s x : Operand)
    (hk : (Es.contains k && !(k == tl)) = true) (hgd : Region.wanted o (yielded ops a.tmps) = true)
    (ho : o.op = .call { callee := .builtin .append, args := #[s, x], argTypes := #[t, t] }) (base : Nat) {v : Value} {n c : Nat} {ad : Addr} {xs news : List Value} (hs : a.eval s = v) (hx : a.eval x = .slice (some ad) 1 c)
    (hown : w.ownsRow base e sz v n xs) (hl : news.length = sz) (hc : ∀ j u, news[j]? = some u → w.cell? (ad.add j) = some u) (h1 : ∀ u ∈ news, u.oneCell' = true) (h63 : n + 1 ≤ maxLen) (hbytes : (n + 1) * bytes ≤ 140737488355328) (hbase : base ≤ w.heap.size)
    (h : ∀ v' w', w'.ownsRow base e sz v' (n + 1) (xs ++ news) → w.grownBy w' v.ownBlock → SameOrNew w.heap.size v v' → C w' ∧ Go.Mix.MixT P ops (fun k => Es.contains k) C Q tl (k + 1) rest (a.put o.dst v') w') :
    Go.Mix.MixT P ops (fun k => Es.contains k) C Q tl k (o :: rest) a w :=
  Go.Mix.mixT_eff hk fun K hK => by
    rw [if_pos hgd]
    obtain ⟨v', w', hrun, ho1, hg1, hn1⟩ := run_app2 (c := c) ei w o.type base hown (by rw [Nat.one_mul]; exact hl) hc h1 (by omega) h63 hbytes hbase
    unfold Oper.wp execOp
    simp only [ho, resolve, invoke, builtin, Sem.run_bind, Sem.run_pure, Result.andThen_ok, List.map_toArray, List.map_cons, List.map_nil, hs, hx, hrun]
    exact hK _ _ (h v' w' ho1 hg1 hn1).1 (h v' w' ho1 hg1 hn1).2
end Go.Proofs.YtkpcmnckdappnaaGreat

/- Pick: lists of servers; the contract of pick.Servers. -/
namespace Go.Proofs.YtkpcmnckdappnaaGreat
open Go.RowKit Go.Sort Go.Lib
set_option maxRecDepth 100000
set_option linter.unusedVariables false
set_option linter.unusedSimpArgs false

theorem rows_apart {w : World} {b1 b2 e1 e2 s1 s2 n1 n2 : Nat} {v1 v2 : Value} {x1 x2 : List Value} (h1 : w.ownsRow b1 e1 s1 v1 n1 x1) (h2 : w.ownsRow b2 e2 s2 v2 n2 x2) (he : e1 ≠ e2) : v1.ownBlock = none ∨ v1.ownBlock ≠ v2.ownBlock := by
  rcases h1.2 with ⟨rfl, _⟩ | ⟨g, cap, cur, rfl, _, hg, _⟩
  · exact .inl (by simp [Value.ownBlock])
  · right
    rcases h2.2 with ⟨rfl, _⟩ | ⟨g2, cap2, cur2, rfl, _, hg2, _⟩
    · simp [Value.ownBlock]
    · intro e
      simp only [Value.ownBlock, Option.some.injEq] at e
      subst e
      rw [hg] at hg2
      simp only [Option.some.injEq, Obj.cells.injEq] at hg2
      exact he hg2.2.1
theorem new_cells (W : World) (cs : List Value) (T : TypeId) : ∀ j u, cs[j]? = some u → (W.alloc (.cells cs.toArray T)).cell? ((⟨W.heap.size, 0, none⟩ : Addr).add j) = some u := fun j u h => by
  rw [Addr.add_lit, World.cell?_alloc_at (hn := rfl)]
  simpa using h
theorem wpList_app1 {P : Program} {t e sz bytes : Nat} (ei : EI P t e sz bytes) {w : World} {ops : Array Oper} {rest : List Oper} {o : Oper} {a : Act} {Q : Exit → Act → World → Prop} (s x : Operand)
    (hgd : Region.wanted o (yielded ops a.tmps) = true)
    (ho : o.op = .call { callee := .builtin .append, args := #[s, x], argTypes := #[t, t] }) (base : Nat) {v : Value} {n c : Nat} {ad : Addr} {xs news : List Value} (hs : a.eval s = v) (hx : a.eval x = .slice (some ad) 1 c)
    (hown : w.ownsRow base e sz v n xs) (hl : news.length = sz) (hc : ∀ j u, news[j]? = some u → w.cell? (ad.add j) = some u) (h1 : ∀ u ∈ news, u.oneCell' = true) (h63 : n + 1 ≤ maxLen) (hbytes : (n + 1) * bytes ≤ 140737488355328) (hbase : base ≤ w.heap.size)
    (h : ∀ v' w', w'.ownsRow base e sz v' (n + 1) (xs ++ news) → w.grownBy w' v.ownBlock → SameOrNew w.heap.size v v' → wpList P ops Q rest (a.put o.dst v') w') : wpList P ops Q (o :: rest) a w :=
  wpList_step fun K hK => by
    rw [if_pos hgd]
    obtain ⟨v', w', hrun, ho1, hg1, hn1⟩ := run_app2 (c := c) ei w o.type base hown (by rw [Nat.one_mul]; exact hl) hc h1 (by omega) h63 hbytes hbase
    unfold Oper.wp execOp
    simp only [ho, resolve, invoke, builtin, Sem.run_bind, Sem.run_pure, Result.andThen_ok, List.map_toArray, List.map_cons, List.map_nil, hs, hx, hrun]
    exact hK _ _ (h v' w' ho1 hg1 hn1)

/-- servers as cells -/
def encV (l : List Sv) : List Value := l.flatMap fun s => [.string (mk s.1), .int .i64 s.2]
theorem encV_snoc (l : List Sv) (s : Sv) : encV (l ++ [s]) = encV l ++ [.string (mk s.1), .int .i64 s.2] := by simp [encV]
theorem encV_length (l : List Sv) : (encV l).length = l.length * 2 := by
  induction l with
  | nil => rfl
  | cons s l ih => simp only [encV, List.flatMap_cons, List.length_append, List.length_cons, List.length_nil] at *; omega
theorem one_sv (s : Sv) : ∀ u ∈ [Value.string (mk s.1), .int .i64 s.2], u.oneCell' = true := by
  intro u hu
  simp at hu
  rcases hu with rfl | rfl <;> rfl
def Svs (w : World) (v : Value) (l : List Sv) : Prop := SlC w 2 v l.length (encV l)
theorem infoSv : (Tryz.prog.info? 55).map (fun i => (i.zero, i.size, i.bytes)) = some (some (.agg #[.string ⟨#[]⟩, .int .i64 0]), 2, 24) := by kernel_rfl
theorem eiSv : EI Tryz.prog 48 55 2 24 := ei_of Tryz.underlying48 infoSv rfl (by decide)
def RetSvs (w : World) (l : List Sv) (e : Ending) (w' : World) : Prop := ∃ v, e = .returned v ∧ Svs w' v l ∧ Below w.heap.size w w'
/-- the servers of the first names -/
def servK (f : List UInt8 → List Int) (T : List (List UInt8)) (k : Nat) : List Sv := (T.take k).flatMap fun n => (toldN (f n)).map fun a => (n, a)
theorem servK_all (f : List UInt8 → List Int) (rs : List Rc.RR) : servK f (targsN rs) (targsN rs).length = servN f rs := by unfold servK servN; rw [List.take_length]
theorem servK_step {f : List UInt8 → List Int} {T : List (List UInt8)} {k : Nat} (h : k < T.length) : servK f T (k + 1) = servK f T k ++ (toldN (f (T.getD k []))).map fun a => (T.getD k [], a) := by
  unfold servK
  rw [List.take_succ_eq_append_getElem h, List.flatMap_append, List.getD_eq_getElem?_getD, List.getElem?_eq_getElem h]
  simp
theorem servK_len {f : List UInt8 → List Int} {T : List (List UInt8)} (hf : ∀ n ∈ T, (toldN (f n)).length ≤ 1000) : ∀ k, k ≤ T.length → (servK f T k).length ≤ k * 1000
  | 0, _ => by simp [servK]
  | k + 1, h => by
    rw [servK_step (by omega), List.length_append, List.length_map]
    have h1 := servK_len hf k (by omega)
    have h2 := hf (T.getD k []) (by rw [List.getD_eq_getElem?_getD, List.getElem?_eq_getElem (by omega)]; exact List.getElem_mem _)
    omega
end Go.Proofs.YtkpcmnckdappnaaGreat

/- Pick: slices.ContainsFunc at names and at servers; who is next; whose address is missing. -/
namespace Go.Proofs.YtkpcmnckdappnaaGreat
open Go.RowKit Go.Sort Go.Lib
set_option maxRecDepth 100000
set_option linter.unusedVariables false
set_option linter.unusedSimpArgs false

abbrev svV (s : Sv) : Value := .agg #[.string (mk s.1), .int .i64 s.2]
def s0 : Sv := ([], 0)
theorem encV_get : ∀ (l : List Sv) (j : Nat), j < l.length → (encV l)[j * 2]? = some (.string (mk (l.getD j s0).1)) ∧ (encV l)[j * 2 + 1]? = some (.int .i64 (l.getD j s0).2)
  | [], _, h => by simp at h
  | s :: l, 0, _ => ⟨rfl, rfl⟩
  | s :: l, j + 1, h => by
    have := encV_get l j (by simpa using h)
    rw [show (j + 1) * 2 = j * 2 + 2 by omega]
    exact this
theorem Svs.at {w : World} {a : Option Addr} {m cap : Nat} {l : List Sv} (h : Svs w (.slice a m cap) l) (hn : 0 < l.length) :
    ∃ b off, a = some ⟨b, off, none⟩ ∧ b < w.heap.size ∧ ∀ j, j < l.length → w.cell? ⟨b, off + j * 2, none⟩ = some (.string (mk (l.getD j s0).1)) ∧ w.cell? ⟨b, off + j * 2 + 1, none⟩ = some (.int .i64 (l.getD j s0).2) := by
  obtain ⟨_, b, off, ha, hlt, h4⟩ := SlC.at h hn
  refine ⟨b, off, ha, hlt, fun j hj => ?_⟩
  obtain ⟨e0, e1⟩ := encV_get l j hj
  refine ⟨by rw [h4 (j * 2) (by omega), e0], ?_⟩
  rw [Nat.add_assoc, h4 (j * 2 + 1) (by omega), e1]
theorem Svs.below {B : Nat} {w w' : World} {v : Value} {l : List Sv} (h : Svs w v l) (hb : Below B w w') (hB : w.heap.size ≤ B) : Svs w' v l := SlC.below h hb hB

set_option maxRecDepth 100000 in
set_option maxHeartbeats 2000000 in
theorem idxV_any (f : FuncId) (lb : Array Value) (p : Sv → Bool) (a : Option Addr) (cap : Nat) (l : List Sv) (w : World) (hst : Svs w (.slice a l.length cap) l) (hn : l.length ≤ 1099511627776)
    (hent : ∀ args w, (callFunc f args).run Tryz.prog w = .ok (.enter f args) w)
    (hf : ∀ W r, r ∈ l → Below w.heap.size w W → Calls Tryz.prog f (#[svV r] ++ lb) W fun e W' => e = .returned (.bool (p r)) ∧ Below W.heap.size W W') :
    Calls Tryz.prog 80 #[.slice a l.length cap, .func (.func f) #[] lb] w fun e w' => e = .returned (.int .i64 (idx p l)) ∧ Below w.heap.size w w' := by
  have HB := Go.Lib.hid (Below.refl w.heap.size w)
  have HST := Go.Lib.hid hst
  have HF := Go.Lib.hid hf
  clear hst hf
  generalize hN : l.length = N at *
  have HN := Go.Lib.hid hN
  clear hN
  go_enter Tryz.func80, Tryz.ntmps80
  go_wp2_with fail
  go_loopw [8] (fun i wr => ∃ k : Nat, i = .int .i64 k ∧ k ≤ N ∧ (∀ x ∈ l.take k, p x = false) ∧ Below w.heap.size w wr) (fun i _ => N - (intOf i).toNat)
  case atStart => exact ⟨0, rfl, by omega, by simp, HB.out⟩
  case round =>
    obtain ⟨k, rfl, hk, hall, hbr⟩ := hrel
    clear HB
    have hix := idx_drop p l k hall
    have HALL := Go.Lib.hid hall
    have HB := Go.Lib.hid hbr
    have HIX := Go.Lib.hid hix
    clear hall hbr hix
    by_cases hlt : k < N
    · have hst := HST.out.below HB.out (Nat.le_refl _)
      rw [← HN.out] at hst
      obtain ⟨b, off, rfl, hbw, hcell⟩ := Svs.at hst (by rw [HN.out]; omega)
      obtain ⟨e0, e1⟩ := hcell k (by rw [HN.out]; exact hlt)
      have hmem : l.getD k s0 ∈ l := by
        rw [List.getD_eq_getElem?_getD, List.getElem?_eq_getElem (by rw [HN.out]; exact hlt)]
        simp
      have hcl := HF.out wr _ hmem HB.out
      have hdr : l.drop k = l.getD k s0 :: l.drop (k + 1) := by
        rw [List.drop_eq_getElem_cons (by rw [HN.out]; exact hlt)]
        simp [HN.out, hlt]
      have hsn : l.take (k + 1) = l.take k ++ [l.getD k s0] := by
        rw [List.take_succ_eq_append_getElem (by rw [HN.out]; exact hlt)]
        simp [HN.out, hlt]
      have HCL := Go.Lib.hid hcl
      have HDR := Go.Lib.hid hdr
      have HSN := Go.Lib.hid hsn
      clear hcl hdr hsn
      clear hcell hst hmem
      generalize l.getD k s0 = r at *
      have hpr := HIX.out
      rw [HDR.out] at hpr
      simp only [idx] at hpr
      have HPR := Go.Lib.hid hpr
      clear hpr
      cases hp : p r with
      | true =>
        have hfin : Hid (idx p l = (k : Int)) := Go.Lib.hid (by rw [HPR.out]; simp [hp])
        rw [hp] at HCL
        clear hp HPR HIX
        go_wp2_with fail
        refine HCL.out.mono ?_; rintro e wb ⟨rfl, hx⟩
        have HX := Go.Lib.hid hx
        clear hx
        go_wp2_with fail
        go_ret
        exact ⟨ret_int hfin.out.symm, HB.out.trans (HX.out.mono HB.out.size)⟩
      | false =>
        have hall2 : ∀ x ∈ l.take (k + 1), p x = false := fun x hx => by
          rw [HSN.out] at hx
          rcases List.mem_append.1 hx with h | h
          · exact HALL.out x h
          · simp at h; rw [h]; exact hp
        have HALL2 := Go.Lib.hid hall2
        clear hall2
        rw [hp] at HCL
        clear hp HPR HIX
        go_wp2_with fail
        refine HCL.out.mono ?_; rintro e wb ⟨rfl, hx⟩
        have HX := Go.Lib.hid hx
        clear hx
        go_wp2_with fail
        go_roundw
        case rel => exact ⟨k + 1, by go_num, by omega, HALL2.out, HB.out.trans (HX.out.mono HB.out.size)⟩
        case measure => simp [intOf]; omega
    · have hfin : Hid (idx p l = -1) := Go.Lib.hid (by
        rw [HIX.out, List.drop_of_length_le (by rw [HN.out]; omega)]
        simp [idx])
      clear HIX
      go_wp2_with fail
      go_ret
      exact ⟨ret_int hfin.out.symm, HB.out⟩

set_option maxRecDepth 100000 in
theorem hasV_any (f : FuncId) (lb : Array Value) (p : Sv → Bool) (a : Option Addr) (cap : Nat) (l : List Sv) (w : World) (hst : Svs w (.slice a l.length cap) l) (hn : l.length ≤ 1099511627776)
    (hent : ∀ args w, (callFunc f args).run Tryz.prog w = .ok (.enter f args) w)
    (hf : ∀ W r, r ∈ l → Below w.heap.size w W → Calls Tryz.prog f (#[svV r] ++ lb) W fun e W' => e = .returned (.bool (p r)) ∧ Below W.heap.size W W') :
    Calls Tryz.prog 52 #[.slice a l.length cap, .func (.func f) #[] lb] w fun e w' => e = .returned (.bool (l.any p)) ∧ Below w.heap.size w w' := by
  have hi := idxV_any f lb p a cap l w hst hn hent hf
  have h1 := idx_any p l
  have h2 := idx_lt p l
  have HI := Go.Lib.hid hi
  have HST := Go.Lib.hid hst
  have HF := Go.Lib.hid hf
  clear hi hst hf
  by_cases h : 0 ≤ idx p l
  · have hfin : Hid (l.any p = true) := Go.Lib.hid (h1.1 h)
    clear h1 h2
    generalize idx p l = v at *
    generalize l.length = N at *
    go_enter Tryz.func52, Tryz.ntmps52
    go_wp2_with fail
    refine HI.out.mono ?_; rintro e wb ⟨rfl, hx⟩
    have HX := Go.Lib.hid hx
    clear hx
    go_wp2_with fail
    go_ret
    exact ⟨ret_bool hfin.out.symm, HX.out⟩
  · have hfin : Hid (l.any p = false) := Go.Lib.hid (by
      cases hb : l.any p with
      | false => rfl
      | true => exact absurd (h1.2 hb) h)
    clear h1 h2
    generalize idx p l = v at *
    have hd : decide (0 ≤ v) = false := decide_eq_false h
    have hv : v < 0 := by omega
    clear h
    generalize l.length = N at *
    go_enter Tryz.func52, Tryz.ntmps52
    go_wp2_with fail
    refine HI.out.mono ?_; rintro e wb ⟨rfl, hx⟩
    have HX := Go.Lib.hid hx
    clear hx
    go_wp2_with fail
    go_ret
    exact ⟨ret_bool hfin.out.symm, HX.out⟩

end Go.Proofs.YtkpcmnckdappnaaGreat

/- Tree: zones in memory. -/
namespace Go.Proofs.YtkpcmnckdappnaaGreat
open Go.RowKit Go.Sort Go.Lib
set_option maxRecDepth 100000
set_option linter.unusedVariables false

/-- a zone, and where its lists lie -/
structure Zn where
  nm : List UInt8
  ra : Option Addr
  rc : Nat
  rs : List Rc.RR
  sa : Option Addr
  sc : Nat
  sv : List Sv
def Zn.p (z : Zn) : Zp := ⟨z.nm, z.rs, z.sv⟩
def zn0 : Zn := ⟨[], none, 0, [], none, 0, []⟩
def znC (z : Zn) : List Value := [.string (mk z.nm), .slice z.ra z.rs.length z.rc, .slice z.sa z.sv.length z.sc]
def znA (z : Zn) : Array Value := #[.string (mk z.nm), .slice z.ra z.rs.length z.rc, .slice z.sa z.sv.length z.sc]
abbrev znV (z : Zn) : Value := .agg #[.string (mk z.nm), .slice z.ra z.rs.length z.rc, .slice z.sa z.sv.length z.sc]
/-- its lists lie there; they are not too long, nor are its names -/
structure ZnAt (w : World) (z : Zn) : Prop where
  rs : RRs w (.slice z.ra z.rs.length z.rc) z.rs
  sv : Svs w (.slice z.sa z.sv.length z.sc) z.sv
structure ZnOk (z : Zn) : Prop where
  nm : z.nm.length ≤ 1000
  rs : ∀ r ∈ z.rs, RROk r
  sv : ∀ s ∈ z.sv, s.1.length ≤ 1000
  l1 : z.rs.length ≤ 1000
  l2 : z.sv.length ≤ 1000
theorem ZnAt.below {w w' : World} {z : Zn} (h : ZnAt w z) (hb : Below w.heap.size w w') : ZnAt w' z := ⟨h.rs.below hb (Nat.le_refl _), SlC.below h.sv hb (Nat.le_refl _)⟩
def Zns (w : World) (v : Value) (l : List Zn) : Prop := SlC w 3 v l.length (l.flatMap znC) ∧ ∀ z ∈ l, ZnAt w z
theorem Zns.below {w w' : World} {v : Value} {l : List Zn} (h : Zns w v l) (hb : Below w.heap.size w w') : Zns w' v l :=
  ⟨SlC.below h.1 hb (Nat.le_refl _), fun k hk => (h.2 k hk).below hb⟩
theorem znC_get (l : List Zn) : ∀ j, j < l.length → (l.flatMap znC)[j * 3]? = some (.string (mk (l.getD j zn0).nm)) ∧ (l.flatMap znC)[j * 3 + 1]? = some (.slice (l.getD j zn0).ra (l.getD j zn0).rs.length (l.getD j zn0).rc) ∧ (l.flatMap znC)[j * 3 + 2]? = some (.slice (l.getD j zn0).sa (l.getD j zn0).sv.length (l.getD j zn0).sc) := by
  induction l with
  | nil => intro j h; simp at h
  | cons x l ih =>
    intro j h
    cases j with
    | zero => exact ⟨rfl, rfl, rfl⟩
    | succ j =>
      have h2 := ih j (by simpa using h)
      rw [show (j + 1) * 3 = j * 3 + 1 + 1 + 1 by omega]
      exact h2
theorem znC_length (l : List Zn) : (l.flatMap znC).length = l.length * 3 := by
  induction l with
  | nil => rfl
  | cons x l ih => rw [List.flatMap_cons, List.length_append, ih, List.length_cons]; show 3 + _ = _; omega
theorem znC_snoc (l : List Zn) (z : Zn) : (l ++ [z]).flatMap znC = l.flatMap znC ++ [.string (mk z.nm), .slice z.ra z.rs.length z.rc, .slice z.sa z.sv.length z.sc] := by simp [znC]
theorem one_znC (z : Zn) : ∀ u ∈ [Value.string (mk z.nm), .slice z.ra z.rs.length z.rc, .slice z.sa z.sv.length z.sc], u.oneCell' = true := by
  intro u hu
  simp only [List.mem_cons, List.not_mem_nil, or_false] at hu
  rcases hu with rfl | rfl | rfl <;> rfl
theorem one_zns (l : List Zn) : ∀ u ∈ l.flatMap znC, u.oneCell' = true := by
  intro u hu
  obtain ⟨z, _, hz⟩ := List.mem_flatMap.1 hu
  exact one_znC z u hz
theorem Zns.at {w : World} {a : Option Addr} {m cap : Nat} {l : List Zn} (h : Zns w (.slice a m cap) l) (hn : 0 < l.length) :
    ∃ b off, a = some ⟨b, off, none⟩ ∧ b < w.heap.size ∧ ∀ j, j < l.length → w.cell? ⟨b, off + j * 3, none⟩ = some (.string (mk (l.getD j zn0).nm)) ∧ w.cell? ⟨b, off + j * 3 + 1, none⟩ = some (.slice (l.getD j zn0).ra (l.getD j zn0).rs.length (l.getD j zn0).rc) ∧
      w.cell? ⟨b, off + j * 3 + 2, none⟩ = some (.slice (l.getD j zn0).sa (l.getD j zn0).sv.length (l.getD j zn0).sc) ∧ ZnAt w (l.getD j zn0) := by
  obtain ⟨_, b, off, ha, hlt, h4⟩ := SlC.at h.1 hn
  refine ⟨b, off, ha, hlt, fun j hj => ?_⟩
  obtain ⟨e0, e1, e2⟩ := znC_get l j hj
  refine ⟨by rw [h4 (j * 3) (by omega), e0], by rw [Nat.add_assoc, h4 (j * 3 + 1) (by omega), e1], by rw [Nat.add_assoc, h4 (j * 3 + 2) (by omega), e2], ?_⟩
  exact h.2 _ (by rw [List.getD_eq_getElem?_getD, List.getElem?_eq_getElem hj]; exact List.getElem_mem _)
theorem infoZn : (Tryz.prog.info? 50).map (fun i => (i.zero, i.size, i.bytes)) = some (some (.agg #[.string ⟨#[]⟩, .slice none 0 0, .slice none 0 0]), 3, 64) := by kernel_rfl
theorem eiZn : EI Tryz.prog 26 50 3 64 := ei_of Tryz.underlying26 infoZn rfl (by decide)
/-- a tree: its block, its zones -/
structure TR (tb : Nat) (a : Option Addr) (c : Nat) (T : List Zn) (w : World) : Prop where
  bx : w.heap[tb]? = some (.cells #[.slice a T.length c] 61 (0, 0))
  zs : Zns w (.slice a T.length c) T
theorem TR.lt {tb : Nat} {a : Option Addr} {c : Nat} {T : List Zn} {w : World} (h : TR tb a c T w) : tb < w.heap.size := (Array.getElem?_eq_some_iff.1 h.bx).1
theorem TR.below {tb : Nat} {a : Option Addr} {c : Nat} {T : List Zn} {w w' : World} (h : TR tb a c T w) (hb : Below w.heap.size w w') : TR tb a c T w' :=
  ⟨(hb.block tb h.lt).trans h.bx, h.zs.below hb⟩
theorem TR.cell {tb : Nat} {a : Option Addr} {c : Nat} {T : List Zn} {w : World} (h : TR tb a c T w) : w.cell? ⟨tb, 0, none⟩ = some (.slice a T.length c) := by
  have := h.bx
  simp [World.cell?, this]
end Go.Proofs.YtkpcmnckdappnaaGreat

/- slices.IndexFunc, ContainsFunc at zones, for whatever closure has a contract. -/
namespace Go.Proofs.YtkpcmnckdappnaaGreat
open Go.RowKit Go.Sort Go.Lib
set_option linter.unusedVariables false

set_option maxRecDepth 100000 in
set_option maxHeartbeats 2000000 in
theorem idxZ_any (f : FuncId) (lb : Array Value) (p : Zn → Bool) (a : Option Addr) (cap : Nat) (l : List Zn) (w : World) (hst : Zns w (.slice a l.length cap) l) (hn : l.length ≤ 1099511627776)
    (hent : ∀ args w, (callFunc f args).run Tryz.prog w = .ok (.enter f args) w)
    (hf : ∀ W r, r ∈ l → Below w.heap.size w W → Calls Tryz.prog f (#[znV r] ++ lb) W fun e W' => e = .returned (.bool (p r)) ∧ Below W.heap.size W W') :
    Calls Tryz.prog 55 #[.slice a l.length cap, .func (.func f) #[] lb] w fun e w' => e = .returned (.int .i64 (idx p l)) ∧ Below w.heap.size w w' := by
  have HB := Go.Lib.hid (Below.refl w.heap.size w)
  have HST := Go.Lib.hid hst
  have HF := Go.Lib.hid hf
  clear hst hf
  generalize hN : l.length = N at *
  have HN := Go.Lib.hid hN
  clear hN
  go_enter Tryz.func55, Tryz.ntmps55
  go_wp2_with fail
  go_loopw [8] (fun i wr => ∃ k : Nat, i = .int .i64 k ∧ k ≤ N ∧ (∀ x ∈ l.take k, p x = false) ∧ Below w.heap.size w wr) (fun i _ => N - (intOf i).toNat)
  case atStart => exact ⟨0, rfl, by omega, by simp, HB.out⟩
  case round =>
    obtain ⟨k, rfl, hk, hall, hbr⟩ := hrel
    clear HB
    have hix := idx_drop p l k hall
    have HALL := Go.Lib.hid hall
    have HB := Go.Lib.hid hbr
    have HIX := Go.Lib.hid hix
    clear hall hbr hix
    by_cases hlt : k < N
    · have hst := HST.out.below HB.out
      rw [← HN.out] at hst
      obtain ⟨b, off, rfl, hbw, hcell⟩ := Zns.at hst (by rw [HN.out]; omega)
      obtain ⟨e0, e1, e2, _⟩ := hcell k (by rw [HN.out]; exact hlt)
      have hmem : l.getD k zn0 ∈ l := by
        rw [List.getD_eq_getElem?_getD, List.getElem?_eq_getElem (by rw [HN.out]; exact hlt)]
        simp
      have hcl := HF.out wr _ hmem HB.out
      have hdr : l.drop k = l.getD k zn0 :: l.drop (k + 1) := by
        rw [List.drop_eq_getElem_cons (by rw [HN.out]; exact hlt)]
        simp [HN.out, hlt]
      have hsn : l.take (k + 1) = l.take k ++ [l.getD k zn0] := by
        rw [List.take_succ_eq_append_getElem (by rw [HN.out]; exact hlt)]
        simp [HN.out, hlt]
      have HCL := Go.Lib.hid hcl
      have HDR := Go.Lib.hid hdr
      have HSN := Go.Lib.hid hsn
      clear hcl hdr hsn
      clear hcell hst hmem
      generalize l.getD k zn0 = r at *
      have hpr := HIX.out
      rw [HDR.out] at hpr
      simp only [idx] at hpr
      have HPR := Go.Lib.hid hpr
      clear hpr
      cases hp : p r with
      | true =>
        have hfin : Hid (idx p l = (k : Int)) := Go.Lib.hid (by rw [HPR.out]; simp [hp])
        rw [hp] at HCL
        clear hp HPR HIX
        go_wp2_with fail
        refine HCL.out.mono ?_; rintro e wb ⟨rfl, hx⟩
        have HX := Go.Lib.hid hx
        clear hx
        go_wp2_with fail
        go_ret
        exact ⟨ret_int hfin.out.symm, HB.out.trans (HX.out.mono HB.out.size)⟩
      | false =>
        have hall2 : ∀ x ∈ l.take (k + 1), p x = false := fun x hx => by
          rw [HSN.out] at hx
          rcases List.mem_append.1 hx with h | h
          · exact HALL.out x h
          · simp at h; rw [h]; exact hp
        have HALL2 := Go.Lib.hid hall2
        clear hall2
        rw [hp] at HCL
        clear hp HPR HIX
        go_wp2_with fail
        refine HCL.out.mono ?_; rintro e wb ⟨rfl, hx⟩
        have HX := Go.Lib.hid hx
        clear hx
        go_wp2_with fail
        go_roundw
        case rel => exact ⟨k + 1, by go_num, by omega, HALL2.out, HB.out.trans (HX.out.mono HB.out.size)⟩
        case measure => simp [intOf]; omega
    · have hfin : Hid (idx p l = -1) := Go.Lib.hid (by
        rw [HIX.out, List.drop_of_length_le (by rw [HN.out]; omega)]
        simp [idx])
      clear HIX
      go_wp2_with fail
      go_ret
      exact ⟨ret_int hfin.out.symm, HB.out⟩

set_option maxRecDepth 100000 in
theorem hasZ_any (f : FuncId) (lb : Array Value) (p : Zn → Bool) (a : Option Addr) (cap : Nat) (l : List Zn) (w : World) (hst : Zns w (.slice a l.length cap) l) (hn : l.length ≤ 1099511627776)
    (hent : ∀ args w, (callFunc f args).run Tryz.prog w = .ok (.enter f args) w)
    (hf : ∀ W r, r ∈ l → Below w.heap.size w W → Calls Tryz.prog f (#[znV r] ++ lb) W fun e W' => e = .returned (.bool (p r)) ∧ Below W.heap.size W W') :
    Calls Tryz.prog 29 #[.slice a l.length cap, .func (.func f) #[] lb] w fun e w' => e = .returned (.bool (l.any p)) ∧ Below w.heap.size w w' := by
  have hi := idxZ_any f lb p a cap l w hst hn hent hf
  have h1 := idx_any p l
  have h2 := idx_lt p l
  have HI := Go.Lib.hid hi
  have HST := Go.Lib.hid hst
  have HF := Go.Lib.hid hf
  clear hi hst hf
  by_cases h : 0 ≤ idx p l
  · have hfin : Hid (l.any p = true) := Go.Lib.hid (h1.1 h)
    clear h1 h2
    generalize idx p l = v at *
    generalize l.length = N at *
    go_enter Tryz.func29, Tryz.ntmps29
    go_wp2_with fail
    refine HI.out.mono ?_; rintro e wb ⟨rfl, hx⟩
    have HX := Go.Lib.hid hx
    clear hx
    go_wp2_with fail
    go_ret
    exact ⟨ret_bool hfin.out.symm, HX.out⟩
  · have hfin : Hid (l.any p = false) := Go.Lib.hid (by
      cases hb : l.any p with
      | false => rfl
      | true => exact absurd (h1.2 hb) h)
    clear h1 h2
    generalize idx p l = v at *
    have hd : decide (0 ≤ v) = false := decide_eq_false h
    have hv : v < 0 := by omega
    clear h
    generalize l.length = N at *
    go_enter Tryz.func29, Tryz.ntmps29
    go_wp2_with fail
    refine HI.out.mono ?_; rintro e wb ⟨rfl, hx⟩
    have HX := Go.Lib.hid hx
    clear hx
    go_wp2_with fail
    go_ret
    exact ⟨ret_bool hfin.out.symm, HX.out⟩

end Go.Proofs.YtkpcmnckdappnaaGreat

/- Tree: zones by their place; name's contracts at lists; the contracts of servers, find and their closures. -/
namespace Go.Proofs.YtkpcmnckdappnaaGreat
open Go.RowKit Go.Sort Go.Lib
set_option maxRecDepth 100000
set_option linter.unusedVariables false
set_option linter.unusedSimpArgs false

/-- a zone that lies at a place -/
structure ZP (w : World) (b o : Nat) (z : Zn) : Prop where
  lt : b < w.heap.size
  c0 : w.cell? ⟨b, o, none⟩ = some (.string (mk z.nm))
  c1 : w.cell? ⟨b, o + 1, none⟩ = some (.slice z.ra z.rs.length z.rc)
  c2 : w.cell? ⟨b, o + 2, none⟩ = some (.slice z.sa z.sv.length z.sc)
  zt : ZnAt w z
theorem ZP.below {w w' : World} {b o : Nat} {z : Zn} (h : ZP w b o z) (hb : Below w.heap.size w w') : ZP w' b o z :=
  ⟨Nat.lt_of_lt_of_le h.lt hb.size, (hb.cell h.lt).trans h.c0, (hb.cell h.lt).trans h.c1, (hb.cell h.lt).trans h.c2, h.zt.below hb⟩
/-- a pointer at a zone, or none -/
def PZ (w : World) (o : Option Zp) (v : Value) : Prop := match o with
  | none => v = .pointer none
  | some z => ∃ zn b off, zn.p = z ∧ v = .pointer (some ⟨b, off, none⟩) ∧ ZP w b off zn ∧ ZnOk zn
theorem PZ.below {w w' : World} {o : Option Zp} {v : Value} (h : PZ w o v) (hb : Below w.heap.size w w') : PZ w' o v := by
  cases o with
  | none => exact h
  | some z =>
    obtain ⟨zn, b, off, h1, h2, h3, h4⟩ := h
    exact ⟨zn, b, off, h1, h2, h3.below hb, h4⟩
/-- a tree whose zones are good -/
structure TRo (tb : Nat) (T : List Zn) (w : World) : Prop where
  at_ : ∃ a c, TR tb a c T w
  ok : ∀ z ∈ T, ZnOk z
  len : T.length ≤ 100
theorem TRo.below {tb : Nat} {T : List Zn} {w w' : World} (h : TRo tb T w) (hb : Below w.heap.size w w') : TRo tb T w' := by
  obtain ⟨⟨a, c, h1⟩, h2, h3⟩ := h
  exact ⟨⟨a, c, h1.below hb⟩, h2, h3⟩
theorem Zns.place {w : World} {a : Option Addr} {m cap : Nat} {l : List Zn} (h : Zns w (.slice a m cap) l) {k : Nat} (hk : k < l.length) : ∃ b off, a = some ⟨b, off, none⟩ ∧ ZP w b (off + k * 3) (l.getD k zn0) := by
  obtain ⟨b, off, ha, hlt, hc⟩ := Zns.at h (by omega)
  obtain ⟨e0, e1, e2, e3⟩ := hc k hk
  exact ⟨b, off, ha, ⟨hlt, e0, e1, e2, e3⟩⟩
theorem zn_mem {l : List Zn} {k : Nat} (hk : k < l.length) : l.getD k zn0 ∈ l := by
  rw [List.getD_eq_getElem?_getD, List.getElem?_eq_getElem hk]
  exact List.getElem_mem _
theorem idx_find {α : Type} (p : α → Bool) (d : α) : ∀ l : List α, (idx p l < 0 → l.find? p = none) ∧ (0 ≤ idx p l → l.find? p = some (l.getD (idx p l).toNat d) ∧ (idx p l).toNat < l.length)
  | [] => ⟨fun _ => rfl, fun h => by simp [idx] at h⟩
  | x :: l => by
    obtain ⟨h1, h2⟩ := idx_find p d l
    cases hp : p x with
    | true => exact ⟨fun h => by simp [idx, hp] at h, fun _ => by simp [idx, hp]⟩
    | false =>
      by_cases hl : idx p l < 0
      · have hi : idx p (x :: l) = -1 := by simp [idx, hp]; omega
        exact ⟨fun _ => by rw [List.find?_cons_of_neg (by simp [hp])]; exact h1 hl, fun h => by omega⟩
      · have hi : idx p (x :: l) = idx p l + 1 := by simp [idx, hp]; omega
        obtain ⟨h3, h4⟩ := h2 (by omega)
        refine ⟨fun h => by omega, fun _ => ?_⟩
        have hn : (idx p l + 1).toNat = (idx p l).toNat + 1 := by omega
        rw [hi, hn, List.find?_cons_of_neg (by simp [hp]), h3]
        exact ⟨rfl, by rw [List.length_cons]; omega⟩
theorem findP_map (T : List Zn) (n : List UInt8) : findP (T.map Zn.p) n = (T.find? fun z => Nm.sameN z.nm n).map Zn.p := by
  unfold findP
  rw [List.find?_map]
  rfl

/-! ### name's contracts -/
theorem sameM (a b : List UInt8) (w : World) (ha : a.length ≤ maxLen) (hb : b.length ≤ maxLen) : Calls Tryz.prog 57 #[.string (mk a), .string (mk b)] w fun e w' => e = .returned (.bool (Nm.sameN a b)) ∧ Below w.heap.size w w' := by
  have h := Same_any (mk a) (mk b) w (by rw [size_mk]; exact ha) (by rw [size_mk]; exact hb)
  simp only [bl_mk] at h
  exact h
theorem underM (a b : List UInt8) (w : World) (ha : a.length ≤ maxLen) (hb : b.length ≤ maxLen) : Calls Tryz.prog 32 #[.string (mk a), .string (mk b)] w fun e w' => e = .returned (.bool (Nm.underN a b)) ∧ Below w.heap.size w w' := by
  have h := Under_any (mk a) (mk b) w (by rw [size_mk]; exact ha) (by rw [size_mk]; exact hb)
  simp only [bl_mk] at h
  exact h
theorem foldM (a : List UInt8) (w : World) (ha : a.length ≤ maxLen) : Calls Tryz.prog 40 #[.string (mk a)] w fun e w' => e = .returned (.string (mk (Nm.foldN a))) ∧ Below w.heap.size w w' := by
  have h := Fold_any (mk a) w (by rw [size_mk]; exact ha)
  simp only [bl_mk] at h
  exact h
theorem validM (a : List UInt8) (w : World) (ha : a.length ≤ maxLen) : Calls Tryz.prog 26 #[.string (mk a)] w fun e w' => e = .returned (.bool (Nm.valid a)) ∧ w = w' := by
  have h := valid_any (mk a) w (by rw [size_mk]; exact ha)
  simp only [bl_mk] at h
  exact h
theorem ZnOk.nmM {z : Zn} (h : ZnOk z) : z.nm.length ≤ maxLen := by have := h.nm; unfold maxLen; omega

/-! ### servers -/
set_option maxHeartbeats 1000000 in
theorem srv1_any (s : Sv) (w : World) (hs : s.1.length ≤ maxLen) :
    Calls Tryz.prog 81 #[svV s] w fun e w' => e = .returned (.bool (!Nm.valid s.1 || (decide (s.2 < 0) || decide (4294967295 < s.2)))) ∧ Below w.heap.size w w' := by
  obtain ⟨n, x⟩ := s
  obtain ⟨Y, hY⟩ : ∃ Y, w.alloc (.cells #[.string (mk n), .int .i64 x] 55) = Y := ⟨_, rfl⟩
  have gY : Y.heap[w.heap.size]? = some (.cells #[.string (mk n), .int .i64 x] 55 (0, 0)) := by rw [← hY]; exact World.alloc_heap_new _ _
  have hbY : Below w.heap.size w Y := by rw [← hY]; exact (Below.refl _ w).alloc (Nat.le_refl _) _
  have k0 : Y.cell? ⟨w.heap.size, 0, none⟩ = some (.string (mk n)) := row_cell gY 0 _ rfl
  have k1 : Y.cell? ⟨w.heap.size, 1, none⟩ = some (.int .i64 x) := row_cell gY 1 _ rfl
  have hv := validM n Y hs
  clear gY
  simp only at hs ⊢
  have HBY := Go.Lib.hid hbY
  clear hbY
  cases hc : Nm.valid n with
  | false =>
    rw [hc] at hv
    have HV := Go.Lib.hid hv
    clear hv
    clear hc
    go_enter Tryz.func81, Tryz.ntmps81
    go_wp2_with fail
    refine (HV.out).mono ?_; rintro e _ ⟨rfl, rfl⟩
    go_wp2_with fail
    go_ret
    exact ⟨rfl, HBY.out⟩
  | true =>
    rw [hc] at hv
    have HV := Go.Lib.hid hv
    clear hv
    clear hc
    by_cases h1 : x < 0
    · have hr : Hid ((!true || (decide (x < 0) || decide (4294967295 < x))) = true) := Go.Lib.hid (by simp [h1])
      go_enter Tryz.func81, Tryz.ntmps81
      go_wp2_with fail
      refine (HV.out).mono ?_; rintro e _ ⟨rfl, rfl⟩
      go_wp2_with fail
      go_ret
      exact ⟨ret_bool hr.out.symm, HBY.out⟩
    · by_cases h2 : 4294967295 < x
      · have hr : Hid ((!true || (decide (x < 0) || decide (4294967295 < x))) = true) := Go.Lib.hid (by simp [h2])
        go_enter Tryz.func81, Tryz.ntmps81
        go_wp2_with fail
        refine (HV.out).mono ?_; rintro e _ ⟨rfl, rfl⟩
        go_wp2_with fail
        go_ret
        exact ⟨ret_bool hr.out.symm, HBY.out⟩
      · go_enter Tryz.func81, Tryz.ntmps81
        go_wp2_with fail
        refine (HV.out).mono ?_; rintro e _ ⟨rfl, rfl⟩
        go_wp2_with fail
        go_ret
        exact ⟨by simp [h1, h2], HBY.out⟩
set_option maxHeartbeats 1000000 in
theorem servers_any (l : List Sv) (a : Option Addr) (c : Nat) (w : World) (hl : Svs w (.slice a l.length c) l) (hs : ∀ s ∈ l, s.1.length ≤ maxLen) (hn : l.length ≤ 1000) :
    Calls Tryz.prog 60 #[.slice a l.length c] w fun e w' => e = .returned (.bool (srvP l)) ∧ Below w.heap.size w w' := by
  have hh := fun W (hb : Below w.heap.size w W) => hasV_any 81 #[] (fun s => !Nm.valid s.1 || (decide (s.2 < 0) || decide (4294967295 < s.2))) a c l W (hl.below hb (Nat.le_refl _)) (by omega) (enters_of Tryz.func81 (by kernel_rfl) rfl) (fun W' r hr _ => srv1_any r W' (hs r hr))
  have hr : srvP l = (decide (1 ≤ l.length) && (decide (l.length ≤ 4) && !l.any fun s => !Nm.valid s.1 || (decide (s.2 < 0) || decide (4294967295 < s.2)))) := rfl
  generalize srvP l = R at *
  generalize (l.any fun s => !Nm.valid s.1 || (decide (s.2 < 0) || decide (4294967295 < s.2))) = q at *
  generalize l.length = N at *
  clear hl hs
  have HH := Go.Lib.hid hh
  clear hh
  by_cases h1 : 1 ≤ N
  · by_cases h2 : N ≤ 4
    · have hr2 : R = !q := by rw [hr]; simp [h1, h2]
      have h3 : (1 : Int) ≤ (N : Int) := by omega
      have h4 : (N : Int) ≤ 4 := by omega
      have HR := Go.Lib.hid hr2
      clear hr2
      clear hr h1 h2
      cases q with
      | false =>
        go_enter Tryz.func60, Tryz.ntmps60
        go_wp2_with fail
        refine (HH.out _ (Below.refl _ _)).mono ?_; rintro e wb ⟨rfl, hx⟩
        have HX := Go.Lib.hid hx
        clear hx
        go_wp2_with fail
        go_ret
        exact ⟨ret_bool HR.out.symm, HX.out⟩
      | true =>
        go_enter Tryz.func60, Tryz.ntmps60
        go_wp2_with fail
        refine (HH.out _ (Below.refl _ _)).mono ?_; rintro e wb ⟨rfl, hx⟩
        have HX := Go.Lib.hid hx
        clear hx
        go_wp2_with fail
        go_ret
        exact ⟨ret_bool HR.out.symm, HX.out⟩
    · have hr2 : R = false := by rw [hr]; simp; omega
      have h3 : (1 : Int) ≤ (N : Int) := by omega
      have h4 : ¬ (N : Int) ≤ 4 := by omega
      have HR := Go.Lib.hid hr2
      clear hr2
      clear hr h1 h2
      go_enter Tryz.func60, Tryz.ntmps60
      go_wp2_with fail
      go_ret
      exact ⟨ret_bool HR.out.symm, Below.refl _ _⟩
  · have hr2 : R = false := by rw [hr]; simp; omega
    have h3 : ¬ (1 : Int) ≤ (N : Int) := by omega
    have HR := Go.Lib.hid hr2
    clear hr2
    clear hr h1
    go_enter Tryz.func60, Tryz.ntmps60
    go_wp2_with fail
    go_ret
    exact ⟨ret_bool HR.out.symm, Below.refl _ _⟩

/-! ### find -/
theorem find1_any (z : Zn) (n : List UInt8) (B : Nat) (W : World) (hz : z.nm.length ≤ maxLen) (hn : n.length ≤ maxLen) (hB : W.heap[B]? = some (.cells #[.string (mk n)] 9 (0, 0))) :
    Calls Tryz.prog 56 #[znV z, .pointer (some ⟨B, 0, none⟩)] W fun e w' => e = .returned (.bool (Nm.sameN z.nm n)) ∧ Below W.heap.size W w' := by
  obtain ⟨zn, ra, rc, rs, sa, sc, sv⟩ := z
  simp only at hz
  obtain ⟨Y, hY⟩ : ∃ Y, W.alloc (.cells #[.string (mk zn), .slice ra rs.length rc, .slice sa sv.length sc] 50) = Y := ⟨_, rfl⟩
  have gY : Y.heap[W.heap.size]? = some (.cells #[.string (mk zn), .slice ra rs.length rc, .slice sa sv.length sc] 50 (0, 0)) := by rw [← hY]; exact World.alloc_heap_new _ _
  have hbY : Below W.heap.size W Y := by rw [← hY]; exact (Below.refl _ W).alloc (Nat.le_refl _) _
  have gB := (hbY.block B (Array.getElem?_eq_some_iff.1 hB).1).trans hB
  have k1 : Y.cell? ⟨W.heap.size, 0, none⟩ = some (.string (mk zn)) := row_cell gY 0 _ rfl
  have k2 : Y.cell? ⟨B, 0, none⟩ = some (.string (mk n)) := row_cell gB 0 _ rfl
  have hs := sameM zn n Y hz hn
  simp only
  generalize Nm.sameN zn n = r at *
  clear hB gY gB
  have HBY := Go.Lib.hid hbY
  have HS := Go.Lib.hid hs
  clear hbY hs
  go_enter Tryz.func56, Tryz.ntmps56
  go_wp2_with fail
  refine HS.out.mono ?_; rintro e wb ⟨rfl, hx⟩
  have HX := Go.Lib.hid hx
  clear hx
  go_wp2_with fail
  go_ret
  exact ⟨rfl, HBY.out.trans (HX.out.mono HBY.out.size)⟩
set_option maxHeartbeats 2000000 in
theorem find_any (tb : Nat) (T : List Zn) (n : List UInt8) (w : World) (ht : TRo tb T w) (hn : n.length ≤ maxLen) :
    Calls Tryz.prog 27 #[.pointer (some ⟨tb, 0, none⟩), .string (mk n)] w fun e w' => ∃ v, e = .returned v ∧ PZ w' (findP (T.map Zn.p) n) v ∧ Below w.heap.size w w' := by
  obtain ⟨Y, hY⟩ : ∃ Y, w.alloc (.cells #[.string (mk n)] 9) = Y := ⟨_, rfl⟩
  have gY : Y.heap[w.heap.size]? = some (.cells #[.string (mk n)] 9 (0, 0)) := by rw [← hY]; exact World.alloc_heap_new _ _
  have hbY : Below w.heap.size w Y := by rw [← hY]; exact (Below.refl _ w).alloc (Nat.le_refl _) _
  have htY := ht.below hbY
  obtain ⟨⟨a, c, hta⟩, hok, hlen⟩ := htY
  have k0 := hta.cell
  have hfd := findP_map T n
  have hif := idx_find (fun z : Zn => Nm.sameN z.nm n) zn0 T
  have hix := idxZ_any 56 #[.pointer (some ⟨w.heap.size, 0, none⟩)] (fun z => Nm.sameN z.nm n) a c T Y hta.zs (by omega) (enters_of Tryz.func56 (by kernel_rfl) rfl)
    (fun W' r hr hb => find1_any r n w.heap.size W' (hok r hr).nmM hn ((hb.block _ (Array.getElem?_eq_some_iff.1 gY).1).trans gY))
  have hzs := hta.zs
  have hcw := hta.cell
  generalize findP (T.map Zn.p) n = R at *
  generalize idx (fun z : Zn => Nm.sameN z.nm n) T = i at *
  generalize hN : T.length = N at *
  clear ht gY
  have HBY := Go.Lib.hid hbY
  have HTA := Go.Lib.hid hta
  have HOK := Go.Lib.hid hok
  have HFD := Go.Lib.hid hfd
  have HIF := Go.Lib.hid hif
  have HIX := Go.Lib.hid hix
  have HZS := Go.Lib.hid hzs
  have HN := Go.Lib.hid hN
  clear hbY hta hok hfd hif hix hzs hN
  by_cases hi : i < 0
  · go_enter Tryz.func27, Tryz.ntmps27
    go_wp2_with fail
    refine HIX.out.mono ?_; rintro e wb ⟨rfl, hx⟩
    have HX := Go.Lib.hid hx
    clear hx
    go_wp2_with fail
    go_ret
    refine ⟨_, rfl, ?_, HBY.out.trans (HX.out.mono HBY.out.size)⟩
    rw [HFD.out, HIF.out.1 hi]
    exact rfl
  · obtain ⟨h3, h4⟩ := HIF.out.2 (by omega)
    obtain ⟨j, hj⟩ : ∃ j : Nat, i = (j : Int) := ⟨i.toNat, by omega⟩
    subst hj
    rw [Int.toNat_natCast] at h3 h4
    obtain ⟨b, off, rfl, hzp⟩ := Zns.place HZS.out (by rw [HN.out]; exact h4)
    have h5 : (j : Int) < (N : Int) := by have := HN.out; omega
    have h6 := HOK.out _ (zn_mem (by rw [HN.out]; exact h4))
    clear HIF
    have H3 := Go.Lib.hid h3
    have HZP := Go.Lib.hid hzp
    have H4 := Go.Lib.hid h4
    have H6 := Go.Lib.hid h6
    clear h3 hzp h4 h6
    go_enter Tryz.func27, Tryz.ntmps27
    go_wp2_with fail
    refine HIX.out.mono ?_; rintro e wb ⟨rfl, hx⟩
    have k9 : wb.cell? ⟨tb, 0, none⟩ = some (.slice (some ⟨b, off, none⟩) N c) := (hx.cell HTA.out.lt).trans hcw
    have HX := Go.Lib.hid hx
    clear hx
    go_wp2_with fail
    go_ret
    refine ⟨_, rfl, ?_, HBY.out.trans (HX.out.mono HBY.out.size)⟩
    rw [HFD.out, H3.out]
    exact ⟨_, _, _, rfl, rfl, HZP.out.below HX.out, H6.out⟩
end Go.Proofs.YtkpcmnckdappnaaGreat

/- Tree: the contract of below. -/
namespace Go.Proofs.YtkpcmnckdappnaaGreat
open Go.RowKit Go.Sort Go.Lib
set_option maxRecDepth 100000
set_option linter.unusedVariables false
set_option linter.unusedSimpArgs false

/-- as far as the first zones go -/
def blwK (T : List Zn) (zone n : List UInt8) (k : Nat) : Option Zp := ((T.take k).map Zn.p).foldl (fun out z => if btwP zone n out z then some z else out) none
theorem blwK_all (T : List Zn) (zone n : List UInt8) : blwK T zone n T.length = belowP (T.map Zn.p) zone n := by unfold blwK belowP; rw [List.take_length]
theorem blwK_step {T : List Zn} {zone n : List UInt8} {k : Nat} (hk : k < T.length) : blwK T zone n (k + 1) = if btwP zone n (blwK T zone n k) (T.getD k zn0).p then some (T.getD k zn0).p else blwK T zone n k := by
  unfold blwK
  rw [List.take_succ_eq_append_getElem hk, List.map_append, List.foldl_append, List.getD_eq_getElem?_getD, List.getElem?_eq_getElem hk]
  rfl
set_option maxHeartbeats 8000000 in
theorem below_any (tb : Nat) (T : List Zn) (zone n : List UInt8) (w : World) (ht : TRo tb T w) (hz : zone.length ≤ maxLen) (hn : n.length ≤ maxLen) :
    Calls Tryz.prog 35 #[.pointer (some ⟨tb, 0, none⟩), .string (mk zone), .string (mk n)] w fun e w' => ∃ v, e = .returned v ∧ PZ w' (belowP (T.map Zn.p) zone n) v ∧ Below w.heap.size w w' := by
  have mixed : Tryz.prog.follows .mixedOrders = true := by kernel_rfl
  obtain ⟨⟨a, c, hta⟩, hok, hlen⟩ := ht
  have k0 := hta.cell
  have hall := blwK_all T zone n
  have hstep := fun k (hk : k < T.length) => blwK_step (T := T) (zone := zone) (n := n) (k := k) hk
  have h0 : blwK T zone n 0 = none := rfl
  generalize belowP (T.map Zn.p) zone n = R at *
  generalize hN : T.length = N at *
  have HTA := Go.Lib.hid hta
  have HOK := Go.Lib.hid hok
  have HALL := Go.Lib.hid hall
  have HSTEP := Go.Lib.hid hstep
  have HN := Go.Lib.hid hN
  clear hta hok hall hstep hN
  go_enter Tryz.func35, Tryz.ntmps35
  go_wp2_with fail
  go_loopw [6, 14] (fun v i wr => ∃ k : Nat, i = .int .i64 k ∧ k ≤ N ∧ PZ wr (blwK T zone n k) v ∧ Below w.heap.size w wr) (fun _ i _ => N - (intOf i).toNat)
  case atStart => exact ⟨0, rfl, Nat.zero_le _, by rw [h0]; exact rfl, Below.refl _ _⟩
  case round =>
    obtain ⟨k, rfl, hk, hpz, hbr⟩ := hrel
    clear h0
    by_cases hlt : k < N
    · have hta2 := HTA.out.below hbr
      have k1 := hta2.cell
      have hlt0 : k < T.length := by rw [HN.out]; exact hlt
      obtain ⟨b, off, rfl, hzp⟩ := Zns.place hta2.zs hlt0
      have hzo := HOK.out _ (zn_mem hlt0)
      have hst := HSTEP.out k hlt
      have hlt2 : (k : Int) < (N : Int) := by omega
      have hws := hbr.size
      rw [HN.out] at k1
      clear k0 hta2 hlt0
      generalize T.getD k zn0 = z at *
      have hzp2 := hzp
      have hzo2 := hzo
      obtain ⟨zn, ra, rc, rs, sa, sc, sv⟩ := z
      have hnm := hzo.nmM
      have hs1 := fun W => sameM zn zone W hnm hz
      have hu1 := fun W => underM zn zone W hnm hz
      have hu2 := fun W => underM n zn W hn hnm
      have e0 : wr.cell? ⟨b, off + k * 3, none⟩ = some (.string (mk zn)) := hzp.c0
      have hbl := hzp.lt
      have D0 := BelowC.cell (W := wr) e0 hbl
      have hne : Nonempty (Subtype (Below wr.heap.size wr)) := ⟨⟨wr, Below.refl _ _⟩⟩
      have HBC := Go.Lib.hid (show Below wr.heap.size wr wr.drew from (Below.refl wr.heap.size wr).drew)
      have hsz1 := size_mk zn
      have hnew : PZ wr (some (Zn.p ⟨zn, ra, rc, rs, sa, sc, sv⟩)) (.pointer (some ⟨b, off + k * 3, none⟩)) := ⟨_, _, _, rfl, rfl, hzp2, hzo2⟩
      have HBR := Go.Lib.hid hbr
      have HS1 := Go.Lib.hid hs1
      have HU1 := Go.Lib.hid hu1
      have HU2 := Go.Lib.hid hu2
      have HNEW := Go.Lib.hid hnew
      have HZP := Go.Lib.hid hzp2
      have HZO := Go.Lib.hid hzo2
      clear hbr hs1 hu1 hu2 hnew hzp2 hzo2
      clear hzp hzo
      generalize hnxE : blwK T zone n (k + 1) = nx at *
      have HNX := Go.Lib.hid hnxE
      clear hnxE
      generalize blwK T zone n k = o at *
      clear hnm
      cases hc1 : Nm.sameN zn zone with
      | true =>
        rw [hc1] at HS1
        have hnx : o = nx := by rw [hst]; simp [btwP, Zn.p, hc1]
        rw [hnx] at hpz
        have HPZ := Go.Lib.hid hpz
        clear hpz hnx hc1 hst
        go_wp2_with fail
        refine Go.Mix.wp_region_mix (Es := [5, 13, 21]) (Below wr.heap.size wr) mixed (by kernel_rfl) (Below.refl _ _).drew (fun _ => ?_)
        iterate 5 (refine Go.Mix.mix_step rfl (fun K hK => ?_); have HKK := Go.Lib.hid hK; clear hK; go_simp; refine HKK.out _ _ ?_; clear HKK K)
        refine Go.Mix.mix_eff rfl (fun K hK => ?_)
        have HKK := Go.Lib.hid hK
        clear hK
        go_simp
        refine (HS1.out _).mono ?_; rintro e wb1 ⟨rfl, hx⟩
        have hb := HBC.out.trans (hx.mono HBC.out.size)
        clear HBC
        have HBC := Go.Lib.hid hb
        clear hx hb
        go_simp
        refine HKK.out _ _ HBC.out ?_
        clear HKK K
        iterate 7 (refine Go.Mix.mix_step rfl (fun K hK => ?_); have HKK := Go.Lib.hid hK; clear hK; go_simp; refine HKK.out _ _ ?_; clear HKK K)
        refine Go.Mix.mix_eff rfl (fun K hK => ?_)
        have HKK := Go.Lib.hid hK
        clear hK
        go_simp
        refine HKK.out _ _ HBC.out ?_
        clear HKK K
        iterate 7 (refine Go.Mix.mix_step rfl (fun K hK => ?_); have HKK := Go.Lib.hid hK; clear hK; go_simp; refine HKK.out _ _ ?_; clear HKK K)
        refine Go.Mix.mix_eff rfl (fun K hK => ?_)
        have HKK := Go.Lib.hid hK
        clear hK
        go_simp
        refine HKK.out _ _ HBC.out ?_
        clear HKK K
        iterate 18 (refine Go.Mix.mix_step rfl (fun K hK => ?_); have HKK := Go.Lib.hid hK; clear hK; go_simp; refine HKK.out _ _ ?_; clear HKK K)
        refine Go.Mix.mix_nil ?_
        go_wp2_with fail
        go_roundw
        case rel => exact ⟨k + 1, by go_num, by omega, by rw [HNX.out]; exact HPZ.out.below HBC.out, HBR.out.trans (HBC.out.mono HBR.out.size)⟩
        case measure => simp [intOf]; omega
      | false =>
      cases hc2 : Nm.underN zn zone with
      | false =>
        rw [hc1] at HS1
        rw [hc2] at HU1
        have hnx : o = nx := by rw [hst]; simp [btwP, Zn.p, hc1, hc2]
        rw [hnx] at hpz
        have HPZ := Go.Lib.hid hpz
        clear hpz hnx hc1 hc2 hst
        go_wp2_with fail
        refine Go.Mix.wp_region_mix (Es := [5, 13, 21]) (Below wr.heap.size wr) mixed (by kernel_rfl) (Below.refl _ _).drew (fun _ => ?_)
        iterate 5 (refine Go.Mix.mix_step rfl (fun K hK => ?_); have HKK := Go.Lib.hid hK; clear hK; go_simp; refine HKK.out _ _ ?_; clear HKK K)
        refine Go.Mix.mix_eff rfl (fun K hK => ?_)
        have HKK := Go.Lib.hid hK
        clear hK
        go_simp
        refine (HS1.out _).mono ?_; rintro e wb2 ⟨rfl, hx⟩
        have hb := HBC.out.trans (hx.mono HBC.out.size)
        clear HBC
        have HBC := Go.Lib.hid hb
        clear hx hb
        go_simp
        refine HKK.out _ _ HBC.out ?_
        clear HKK K
        iterate 7 (refine Go.Mix.mix_step rfl (fun K hK => ?_); have HKK := Go.Lib.hid hK; clear hK; go_simp; refine HKK.out _ _ ?_; clear HKK K)
        refine Go.Mix.mix_eff rfl (fun K hK => ?_)
        have HKK := Go.Lib.hid hK
        clear hK
        go_simp
        refine (HU1.out _).mono ?_; rintro e wb3 ⟨rfl, hx⟩
        have hb := HBC.out.trans (hx.mono HBC.out.size)
        clear HBC
        have HBC := Go.Lib.hid hb
        clear hx hb
        go_simp
        refine HKK.out _ _ HBC.out ?_
        clear HKK K
        iterate 7 (refine Go.Mix.mix_step rfl (fun K hK => ?_); have HKK := Go.Lib.hid hK; clear hK; go_simp; refine HKK.out _ _ ?_; clear HKK K)
        refine Go.Mix.mix_eff rfl (fun K hK => ?_)
        have HKK := Go.Lib.hid hK
        clear hK
        go_simp
        refine HKK.out _ _ HBC.out ?_
        clear HKK K
        iterate 18 (refine Go.Mix.mix_step rfl (fun K hK => ?_); have HKK := Go.Lib.hid hK; clear hK; go_simp; refine HKK.out _ _ ?_; clear HKK K)
        refine Go.Mix.mix_nil ?_
        go_wp2_with fail
        go_roundw
        case rel => exact ⟨k + 1, by go_num, by omega, by rw [HNX.out]; exact HPZ.out.below HBC.out, HBR.out.trans (HBC.out.mono HBR.out.size)⟩
        case measure => simp [intOf]; omega
      | true =>
      cases hc3 : Nm.underN n zn with
      | false =>
        rw [hc1] at HS1
        rw [hc2] at HU1
        rw [hc3] at HU2
        have hnx : o = nx := by rw [hst]; simp [btwP, Zn.p, hc1, hc2, hc3]
        rw [hnx] at hpz
        have HPZ := Go.Lib.hid hpz
        clear hpz hnx hc1 hc2 hc3 hst
        go_wp2_with fail
        refine Go.Mix.wp_region_mix (Es := [5, 13, 21]) (Below wr.heap.size wr) mixed (by kernel_rfl) (Below.refl _ _).drew (fun _ => ?_)
        iterate 5 (refine Go.Mix.mix_step rfl (fun K hK => ?_); have HKK := Go.Lib.hid hK; clear hK; go_simp; refine HKK.out _ _ ?_; clear HKK K)
        refine Go.Mix.mix_eff rfl (fun K hK => ?_)
        have HKK := Go.Lib.hid hK
        clear hK
        go_simp
        refine (HS1.out _).mono ?_; rintro e wb4 ⟨rfl, hx⟩
        have hb := HBC.out.trans (hx.mono HBC.out.size)
        clear HBC
        have HBC := Go.Lib.hid hb
        clear hx hb
        go_simp
        refine HKK.out _ _ HBC.out ?_
        clear HKK K
        iterate 7 (refine Go.Mix.mix_step rfl (fun K hK => ?_); have HKK := Go.Lib.hid hK; clear hK; go_simp; refine HKK.out _ _ ?_; clear HKK K)
        refine Go.Mix.mix_eff rfl (fun K hK => ?_)
        have HKK := Go.Lib.hid hK
        clear hK
        go_simp
        refine (HU1.out _).mono ?_; rintro e wb5 ⟨rfl, hx⟩
        have hb := HBC.out.trans (hx.mono HBC.out.size)
        clear HBC
        have HBC := Go.Lib.hid hb
        clear hx hb
        go_simp
        refine HKK.out _ _ HBC.out ?_
        clear HKK K
        iterate 7 (refine Go.Mix.mix_step rfl (fun K hK => ?_); have HKK := Go.Lib.hid hK; clear hK; go_simp; refine HKK.out _ _ ?_; clear HKK K)
        refine Go.Mix.mix_eff rfl (fun K hK => ?_)
        have HKK := Go.Lib.hid hK
        clear hK
        go_simp
        refine (HU2.out _).mono ?_; rintro e wb6 ⟨rfl, hx⟩
        have hb := HBC.out.trans (hx.mono HBC.out.size)
        clear HBC
        have HBC := Go.Lib.hid hb
        clear hx hb
        go_simp
        refine HKK.out _ _ HBC.out ?_
        clear HKK K
        iterate 18 (refine Go.Mix.mix_step rfl (fun K hK => ?_); have HKK := Go.Lib.hid hK; clear hK; go_simp; refine HKK.out _ _ ?_; clear HKK K)
        refine Go.Mix.mix_nil ?_
        go_wp2_with fail
        go_roundw
        case rel => exact ⟨k + 1, by go_num, by omega, by rw [HNX.out]; exact HPZ.out.below HBC.out, HBR.out.trans (HBC.out.mono HBR.out.size)⟩
        case measure => simp [intOf]; omega
      | true =>
        rw [hc1] at HS1
        rw [hc2] at HU1
        rw [hc3] at HU2
        cases o with
        | none =>
          have hv : _ = Value.pointer none := hpz
          clear hpz
          subst hv
          have hnx : some (Zn.p ⟨zn, ra, rc, rs, sa, sc, sv⟩) = nx := by rw [hst]; simp [btwP, Zn.p, hc1, hc2, hc3]
          have hpz := HNEW.out
          rw [hnx] at hpz
          have HPZ := Go.Lib.hid hpz
          clear hnx
          clear hpz hc1 hc2 hc3 hst
          go_wp2_with fail
          refine Go.Mix.wp_region_mix (Es := [5, 13, 21]) (Below wr.heap.size wr) mixed (by kernel_rfl) (Below.refl _ _).drew (fun _ => ?_)
          iterate 5 (refine Go.Mix.mix_step rfl (fun K hK => ?_); have HKK := Go.Lib.hid hK; clear hK; go_simp; refine HKK.out _ _ ?_; clear HKK K)
          refine Go.Mix.mix_eff rfl (fun K hK => ?_)
          have HKK := Go.Lib.hid hK
          clear hK
          go_simp
          refine (HS1.out _).mono ?_; rintro e wb7 ⟨rfl, hx⟩
          have hb := HBC.out.trans (hx.mono HBC.out.size)
          clear HBC
          have HBC := Go.Lib.hid hb
          clear hx hb
          go_simp
          refine HKK.out _ _ HBC.out ?_
          clear HKK K
          iterate 7 (refine Go.Mix.mix_step rfl (fun K hK => ?_); have HKK := Go.Lib.hid hK; clear hK; go_simp; refine HKK.out _ _ ?_; clear HKK K)
          refine Go.Mix.mix_eff rfl (fun K hK => ?_)
          have HKK := Go.Lib.hid hK
          clear hK
          go_simp
          refine (HU1.out _).mono ?_; rintro e wb8 ⟨rfl, hx⟩
          have hb := HBC.out.trans (hx.mono HBC.out.size)
          clear HBC
          have HBC := Go.Lib.hid hb
          clear hx hb
          go_simp
          refine HKK.out _ _ HBC.out ?_
          clear HKK K
          iterate 7 (refine Go.Mix.mix_step rfl (fun K hK => ?_); have HKK := Go.Lib.hid hK; clear hK; go_simp; refine HKK.out _ _ ?_; clear HKK K)
          refine Go.Mix.mix_eff rfl (fun K hK => ?_)
          have HKK := Go.Lib.hid hK
          clear hK
          go_simp
          refine (HU2.out _).mono ?_; rintro e wb9 ⟨rfl, hx⟩
          have hb := HBC.out.trans (hx.mono HBC.out.size)
          clear HBC
          have HBC := Go.Lib.hid hb
          clear hx hb
          go_simp
          refine HKK.out _ _ HBC.out ?_
          clear HKK K
          iterate 18 (refine Go.Mix.mix_step rfl (fun K hK => ?_); have HKK := Go.Lib.hid hK; clear hK; go_simp; refine HKK.out _ _ ?_; clear HKK K)
          refine Go.Mix.mix_nil ?_
          go_wp2_with fail
          go_roundw
          case rel => exact ⟨k + 1, by go_num, by omega, by rw [HNX.out]; exact HPZ.out.below HBC.out, HBR.out.trans (HBC.out.mono HBR.out.size)⟩
          case measure => simp [intOf]; omega
        | some y =>
          have hpz2 := hpz
          obtain ⟨yn, b2, o2, rfl, rfl, hyp, hyo⟩ := hpz
          have f0 := hyp.c0
          have hbl2 := hyp.lt
          have D1 := BelowC.cell (W := wr) f0 hbl2
          have hsz2 := size_mk yn.nm
          by_cases hl : zn.length < yn.nm.length
          · have hnx : some (Zn.p ⟨zn, ra, rc, rs, sa, sc, sv⟩) = nx := by rw [hst]; simp [btwP, Zn.p, hc1, hc2, hc3, hl]
            have hpz := HNEW.out
            rw [hnx] at hpz
            have HPZ := Go.Lib.hid hpz
            clear hpz hnx
            have hl2 : (zn.length : Int) < (yn.nm.length : Int) := by omega
            clear hpz2 hyp hyo hc1 hc2 hc3 hst hl
            generalize yn.nm = ym at *
            go_wp2_with fail
            refine Go.Mix.wp_region_mix (Es := [5, 13, 21]) (Below wr.heap.size wr) mixed (by kernel_rfl) (Below.refl _ _).drew (fun _ => ?_)
            iterate 5 (refine Go.Mix.mix_step rfl (fun K hK => ?_); have HKK := Go.Lib.hid hK; clear hK; go_simp; refine HKK.out _ _ ?_; clear HKK K)
            refine Go.Mix.mix_eff rfl (fun K hK => ?_)
            have HKK := Go.Lib.hid hK
            clear hK
            go_simp
            refine (HS1.out _).mono ?_; rintro e wb10 ⟨rfl, hx⟩
            have hb := HBC.out.trans (hx.mono HBC.out.size)
            clear HBC
            have HBC := Go.Lib.hid hb
            clear hx hb
            go_simp
            refine HKK.out _ _ HBC.out ?_
            clear HKK K
            iterate 7 (refine Go.Mix.mix_step rfl (fun K hK => ?_); have HKK := Go.Lib.hid hK; clear hK; go_simp; refine HKK.out _ _ ?_; clear HKK K)
            refine Go.Mix.mix_eff rfl (fun K hK => ?_)
            have HKK := Go.Lib.hid hK
            clear hK
            go_simp
            refine (HU1.out _).mono ?_; rintro e wb11 ⟨rfl, hx⟩
            have hb := HBC.out.trans (hx.mono HBC.out.size)
            clear HBC
            have HBC := Go.Lib.hid hb
            clear hx hb
            go_simp
            refine HKK.out _ _ HBC.out ?_
            clear HKK K
            iterate 7 (refine Go.Mix.mix_step rfl (fun K hK => ?_); have HKK := Go.Lib.hid hK; clear hK; go_simp; refine HKK.out _ _ ?_; clear HKK K)
            refine Go.Mix.mix_eff rfl (fun K hK => ?_)
            have HKK := Go.Lib.hid hK
            clear hK
            go_simp
            refine (HU2.out _).mono ?_; rintro e wb12 ⟨rfl, hx⟩
            have hb := HBC.out.trans (hx.mono HBC.out.size)
            clear HBC
            have HBC := Go.Lib.hid hb
            clear hx hb
            go_simp
            refine HKK.out _ _ HBC.out ?_
            clear HKK K
            iterate 18 (refine Go.Mix.mix_step rfl (fun K hK => ?_); have HKK := Go.Lib.hid hK; clear hK; go_simp; refine HKK.out _ _ ?_; clear HKK K)
            refine Go.Mix.mix_nil ?_
            go_wp2_with fail
            go_roundw
            case rel => exact ⟨k + 1, by go_num, by omega, by rw [HNX.out]; exact HPZ.out.below HBC.out, HBR.out.trans (HBC.out.mono HBR.out.size)⟩
            case measure => simp [intOf]; omega
          · have hnx : some (Zn.p yn) = nx := by rw [hst]; simp [btwP, Zn.p, hc1, hc2, hc3, hl]
            rw [hnx] at hpz2
            have HPZ := Go.Lib.hid hpz2
            clear hnx
            have hl2 : ¬ (zn.length : Int) < (yn.nm.length : Int) := by omega
            clear hpz2 hyp hyo hc1 hc2 hc3 hst hl
            generalize yn.nm = ym at *
            go_wp2_with fail
            refine Go.Mix.wp_region_mix (Es := [5, 13, 21]) (Below wr.heap.size wr) mixed (by kernel_rfl) (Below.refl _ _).drew (fun _ => ?_)
            iterate 5 (refine Go.Mix.mix_step rfl (fun K hK => ?_); have HKK := Go.Lib.hid hK; clear hK; go_simp; refine HKK.out _ _ ?_; clear HKK K)
            refine Go.Mix.mix_eff rfl (fun K hK => ?_)
            have HKK := Go.Lib.hid hK
            clear hK
            go_simp
            refine (HS1.out _).mono ?_; rintro e wb13 ⟨rfl, hx⟩
            have hb := HBC.out.trans (hx.mono HBC.out.size)
            clear HBC
            have HBC := Go.Lib.hid hb
            clear hx hb
            go_simp
            refine HKK.out _ _ HBC.out ?_
            clear HKK K
            iterate 7 (refine Go.Mix.mix_step rfl (fun K hK => ?_); have HKK := Go.Lib.hid hK; clear hK; go_simp; refine HKK.out _ _ ?_; clear HKK K)
            refine Go.Mix.mix_eff rfl (fun K hK => ?_)
            have HKK := Go.Lib.hid hK
            clear hK
            go_simp
            refine (HU1.out _).mono ?_; rintro e wb14 ⟨rfl, hx⟩
            have hb := HBC.out.trans (hx.mono HBC.out.size)
            clear HBC
            have HBC := Go.Lib.hid hb
            clear hx hb
            go_simp
            refine HKK.out _ _ HBC.out ?_
            clear HKK K
            iterate 7 (refine Go.Mix.mix_step rfl (fun K hK => ?_); have HKK := Go.Lib.hid hK; clear hK; go_simp; refine HKK.out _ _ ?_; clear HKK K)
            refine Go.Mix.mix_eff rfl (fun K hK => ?_)
            have HKK := Go.Lib.hid hK
            clear hK
            go_simp
            refine (HU2.out _).mono ?_; rintro e wb15 ⟨rfl, hx⟩
            have hb := HBC.out.trans (hx.mono HBC.out.size)
            clear HBC
            have HBC := Go.Lib.hid hb
            clear hx hb
            go_simp
            refine HKK.out _ _ HBC.out ?_
            clear HKK K
            iterate 18 (refine Go.Mix.mix_step rfl (fun K hK => ?_); have HKK := Go.Lib.hid hK; clear hK; go_simp; refine HKK.out _ _ ?_; clear HKK K)
            refine Go.Mix.mix_nil ?_
            go_wp2_with fail
            go_roundw
            case rel => exact ⟨k + 1, by go_num, by omega, by rw [HNX.out]; exact HPZ.out.below HBC.out, HBR.out.trans (HBC.out.mono HBR.out.size)⟩
            case measure => simp [intOf]; omega
    · have hke : k = N := by omega
      rw [hke, HALL.out] at hpz
      have hlt2 : ¬ (k : Int) < (N : Int) := by omega
      have HPZ := Go.Lib.hid hpz
      have HBR := Go.Lib.hid hbr
      clear hpz hbr
      go_wp2_with fail
      go_ret
      exact ⟨_, rfl, HPZ.out, HBR.out⟩
end Go.Proofs.YtkpcmnckdappnaaGreat

/- Tree: the contracts of aliases and may. -/
namespace Go.Proofs.YtkpcmnckdappnaaGreat
open Go.RowKit Go.Sort Go.Lib
set_option maxRecDepth 100000
set_option linter.unusedVariables false
set_option linter.unusedSimpArgs false

theorem encR_appT (a b : List Rc.RR) : encR (a ++ b) = encR a ++ encR b := by
  unfold encR
  exact List.flatMap_append ..
theorem encR_len' (l : List Rc.RR) : (encR l).length = l.length * 5 := by
  have := encR_length l
  omega
theorem encR_dropL (l : List Rc.RR) : ∀ k : Nat, (encR l).drop (k * 5) = encR (l.drop k) := by
  intro k
  by_cases hk : k ≤ l.length
  · have h := encR_appT (l.take k) (l.drop k)
    rw [List.take_append_drop] at h
    rw [h, List.drop_left' (by rw [encR_len', List.length_take, Nat.min_eq_left hk])]
  · rw [List.drop_of_length_le (by rw [encR_len']; omega), List.drop_of_length_le (by omega)]
    rfl
theorem encR_takeL (l : List Rc.RR) (k : Nat) (hk : k ≤ l.length) : (encR l).take (k * 5) = encR (l.take k) := by
  have h := encR_appT (l.take k) (l.drop k)
  rw [List.take_append_drop] at h
  rw [h, List.take_left' (by rw [encR_len', List.length_take, Nat.min_eq_left hk])]
theorem RRs_part {w : World} {b off cap : Nat} {l : List Rc.RR} (h : RRs w (.slice (some ⟨b, off, none⟩) l.length cap) l) {i j : Nat} (hij : i ≤ j) (hj : j ≤ l.length) {a' : Option Addr}
    (ha : i < j → a' = some ⟨b, off + i * 5, none⟩) (hz : a' = none → cap - i = 0) : RRs w (.slice a' (j - i) (cap - i)) ((l.drop i).take (j - i)) := by
  have := SlC.sub h hij hj (a' := a') ha hz
  rw [encR_dropL, encR_takeL _ _ (by rw [List.length_drop]; omega)] at this
  unfold RRs
  rw [List.length_take, List.length_drop, show min (j - i) (l.length - i) = j - i by omega]
  exact this

/-- is the k-th record good as an alias? -/
def aliG (nm : List UInt8) (rs : List Rc.RR) (k : Nat) : Bool := let r := rs.getD k r0; !decide (r.ty = 5) || !(Nm.sameN r.name nm || ((rs.take k).any (fun x => Nm.sameN x.name r.name) || (rs.drop (k + 1)).any fun x => Nm.sameN x.name r.name))
theorem aliP_all {z : Zp} : aliP z = true ↔ ∀ k, k < z.rs.length → aliG z.nm z.rs k = true := by
  unfold aliP
  rw [List.all_eq_true]
  exact ⟨fun h k hk => h k (List.mem_range.2 hk), fun h k hk => h k (List.mem_range.1 hk)⟩
theorem aliP_no {z : Zp} {k : Nat} (hk : k < z.rs.length) (h : aliG z.nm z.rs k = false) : aliP z = false := by
  cases hp : aliP z with
  | false => rfl
  | true =>
    rw [aliP_all.1 hp k hk] at h
    cases h

theorem ali1_any (x r : Rc.RR) (B : Nat) (W : World) (hx : x.name.length ≤ maxLen) (hr : r.name.length ≤ maxLen) (hB : W.heap[B]? = some (.cells (rrC r) 43 (0, 0))) :
    Calls Tryz.prog 82 #[rrV x, .pointer (some ⟨B, 0, none⟩)] W fun e w' => e = .returned (.bool (Nm.sameN x.name r.name)) ∧ Below W.heap.size W w' := by
  obtain ⟨xn, xt, xc, xl, xd⟩ := x
  obtain ⟨rn, rt, rc, rl, rd⟩ := r
  obtain ⟨Y, hY⟩ : ∃ Y, W.alloc (.cells #[.string (mk xn), .int .i64 xt, .int .i64 xc, .int .i64 xl, .string (mk xd)] 43) = Y := ⟨_, rfl⟩
  have gY : Y.heap[W.heap.size]? = some (.cells #[.string (mk xn), .int .i64 xt, .int .i64 xc, .int .i64 xl, .string (mk xd)] 43 (0, 0)) := by rw [← hY]; exact World.alloc_heap_new _ _
  have hbY : Below W.heap.size W Y := by rw [← hY]; exact (Below.refl _ W).alloc (Nat.le_refl _) _
  have gB := (hbY.block B (Array.getElem?_eq_some_iff.1 hB).1).trans hB
  have k1 : Y.cell? ⟨W.heap.size, 0, none⟩ = some (.string (mk xn)) := row_cell gY 0 _ rfl
  have k2 : Y.cell? ⟨B, 0, none⟩ = some (.string (mk rn)) := row_cell gB 0 _ rfl
  have hs := sameM xn rn Y hx hr
  simp only [rrV]
  generalize Nm.sameN xn rn = q at *
  clear hB gY gB
  have HBY := Go.Lib.hid hbY
  have HS := Go.Lib.hid hs
  clear hbY hs
  go_enter Tryz.func82, Tryz.ntmps82
  go_wp2_with fail
  refine HS.out.mono ?_; rintro e wb ⟨rfl, hx⟩
  have HX := Go.Lib.hid hx
  clear hx
  go_wp2_with fail
  go_ret
  exact ⟨rfl, HBY.out.trans (HX.out.mono HBY.out.size)⟩
set_option maxHeartbeats 8000000 in
theorem aliases_any (z : Zn) (w : World) (hz : ZnAt w z) (hzo : ZnOk z) :
    Calls Tryz.prog 61 #[znV z] w fun e w' => e = .returned (.bool (aliP z.p)) ∧ Below w.heap.size w w' := by
  have hno := fun k (h : k < z.p.rs.length) => aliP_no (z := z.p) (k := k) h
  have hyes := (aliP_all (z := z.p)).2
  have hnm := hzo.nmM
  have hok := hzo.rs
  have hl1 := hzo.l1
  have hrr := hz.rs
  generalize aliP z.p = R at *
  obtain ⟨zn, ra, rc, rs, sa, sc, sv⟩ := z
  simp only [Zn.p] at hno hyes hnm hok hl1 hrr
  clear hz hzo
  show Calls Tryz.prog 61 #[.agg #[.string (mk zn), .slice ra rs.length rc, .slice sa sv.length sc]] w _
  obtain ⟨X, hX⟩ : ∃ X, w.alloc (.cells #[.string (mk zn), .slice ra rs.length rc, .slice sa sv.length sc] 50) = X := ⟨_, rfl⟩
  have gX : X.heap[w.heap.size]? = some (.cells #[.string (mk zn), .slice ra rs.length rc, .slice sa sv.length sc] 50 (0, 0)) := by rw [← hX]; exact World.alloc_heap_new _ _
  have hbX : Below w.heap.size w X := by rw [← hX]; exact (Below.refl _ w).alloc (Nat.le_refl _) _
  have e0 : X.cell? ⟨w.heap.size, 0, none⟩ = some (.string (mk zn)) := row_cell gX 0 _ rfl
  have e1 : X.cell? ⟨w.heap.size, 1, none⟩ = some (.slice ra rs.length rc) := row_cell gX 1 _ rfl
  have hrX := hrr.below hbX (Nat.le_refl _)
  obtain ⟨hnc, hcm⟩ := slc_bounds hrX
  generalize hN : rs.length = N at *
  clear hrr
  have HNO := Go.Lib.hid hno
  have HYES := Go.Lib.hid hyes
  have HOK := Go.Lib.hid hok
  have GX := Go.Lib.hid gX
  have HBX := Go.Lib.hid hbX
  have HRX := Go.Lib.hid hrX
  have HN := Go.Lib.hid hN
  clear hno hyes hok gX hbX hrX hN
  go_enter Tryz.func61, Tryz.ntmps61
  go_wp2_with fail
  clear hX
  go_loopw [9] (fun i wr => ∃ k : Nat, i = .int .i64 k ∧ k ≤ N ∧ (∀ j, j < k → aliG zn rs j = true) ∧ Below X.heap.size X wr) (fun i _ => N - (intOf i).toNat)
  case atStart => exact ⟨0, rfl, Nat.zero_le _, fun j h => by omega, Below.refl _ _⟩
  case round =>
    obtain ⟨k, rfl, hk, hall, hbr⟩ := hrel
    by_cases hlt : k < N
    · have hrw : RRs wr (.slice ra rs.length rc) rs := by rw [HN.out]; exact HRX.out.below hbr (Nat.le_refl _)
      obtain ⟨b, off, rfl, hbw, hcell⟩ := RRs.at hrw (by rw [HN.out]; omega)
      obtain ⟨d0, d1, d2, d3, d4⟩ := hcell k (by rw [HN.out]; exact hlt)
      have hlt0 : k < rs.length := by rw [HN.out]; exact hlt
      have hrk := HOK.out (rs.getD k r0) (by rw [List.getD_eq_getElem?_getD, List.getElem?_eq_getElem hlt0]; exact List.getElem_mem _)
      have hgd : aliG zn rs k = (!decide ((rs.getD k r0).ty = 5) || !(Nm.sameN (rs.getD k r0).name zn || ((rs.take k).any (fun x => Nm.sameN x.name (rs.getD k r0).name) || (rs.drop (k + 1)).any fun x => Nm.sameN x.name (rs.getD k r0).name))) := rfl
      have hno := HNO.out k hlt
      have hwr := hbr.size
      have hlt2 : (k : Int) < (N : Int) := by omega
      obtain ⟨k1, hk1⟩ : ∃ k1, k1 = k + 1 := ⟨_, rfl⟩
      have w1 : IntKind.i64.wrap ((k : Int) + 1) = (k1 : Int) := by rw [wrapi (by omega) (by omega)]; omega
      have f0 : wr.cell? ⟨w.heap.size, 0, none⟩ = some (.string (mk zn)) := (hbr.cell (p := ⟨w.heap.size, 0, none⟩) (Array.getElem?_eq_some_iff.1 GX.out).1).trans e0
      have f1 : wr.cell? ⟨w.heap.size, 1, none⟩ = some (.slice (some ⟨b, off, none⟩) N rc) := (hbr.cell (p := ⟨w.heap.size, 1, none⟩) (Array.getElem?_eq_some_iff.1 GX.out).1).trans e1
      have hxw : w.heap.size < wr.heap.size := Nat.lt_of_lt_of_le (Array.getElem?_eq_some_iff.1 GX.out).1 hwr
      clear hcell hlt0
      generalize rs.getD k r0 = r at *
      obtain ⟨rn, ty, cl, tl, rd⟩ := r
      have hrn := hrk.1
      simp only at d0 d1 d2 d3 d4 hgd hrn
      obtain ⟨Y, hY⟩ : ∃ Y, wr.alloc (.cells #[.string (mk rn), .int .i64 ty, .int .i64 cl, .int .i64 tl, .string (mk rd)] 43) = Y := ⟨_, rfl⟩
      have gY : Y.heap[wr.heap.size]? = some (.cells #[.string (mk rn), .int .i64 ty, .int .i64 cl, .int .i64 tl, .string (mk rd)] 43 (0, 0)) := by rw [← hY]; exact World.alloc_heap_new _ _
      have hbY : Below wr.heap.size wr Y := by rw [← hY]; exact (Below.refl _ wr).alloc (Nat.le_refl _) _
      have m0 : Y.cell? ⟨wr.heap.size, 0, none⟩ = some (.string (mk rn)) := row_cell gY 0 _ rfl
      have m1 : Y.cell? ⟨wr.heap.size, 1, none⟩ = some (.int .i64 ty) := row_cell gY 1 _ rfl
      have f0 := (hbY.cell (p := ⟨w.heap.size, 0, none⟩) hxw).trans f0
      have f1 := (hbY.cell (p := ⟨w.heap.size, 1, none⟩) hxw).trans f1
      have hlY := (Array.getElem?_eq_some_iff.1 gY).1
      have hbXY := hbr.trans (hbY.mono hwr)
      by_cases h5 : ty = 5
      · subst h5
        have hrwY := hrw.below hbY (Nat.le_refl _)
        have htk := RRs_part hrwY (i := 0) (j := k) (by omega) (by rw [HN.out]; omega) (a' := some ⟨b, off, none⟩) (fun _ => by simp) (fun h => by cases h)
        simp only [Nat.sub_zero, List.drop_zero] at htk
        have htl : (rs.take k).length = k := by rw [List.length_take, HN.out]; omega
        have hdl : (rs.drop k1).length = N - k1 := by rw [List.length_drop, HN.out]
        have hcl := fun W x (hx : x ∈ rs) (hb : Below Y.heap.size Y W) => ali1_any x ⟨rn, 5, cl, tl, rd⟩ wr.heap.size W (HOK.out x hx).1 hrn ((hb.block _ hlY).trans gY)
        have hh1 := fun W (hb : Below Y.heap.size Y W) => hasR_any 82 #[.pointer (some ⟨wr.heap.size, 0, none⟩)] (fun x => Nm.sameN x.name rn) (some ⟨b, off, none⟩) rc (rs.take k) W (by rw [htl]; exact htk.below hb (Nat.le_refl _)) (by omega) (enters_of Tryz.func82 (by kernel_rfl) rfl) (fun W' x hx hb' => hcl W' x (List.mem_of_mem_take hx) (hb.trans (hb'.mono hb.size)))
        have hh2 := fun a' c' W (hb : Below Y.heap.size Y W) (h : RRs Y (.slice a' (N - k1) c') (rs.drop k1)) => hasR_any 82 #[.pointer (some ⟨wr.heap.size, 0, none⟩)] (fun x => Nm.sameN x.name rn) a' c' (rs.drop k1) W (by rw [hdl]; exact h.below hb (Nat.le_refl _)) (by omega) (enters_of Tryz.func82 (by kernel_rfl) rfl) (fun W' x hx hb' => hcl W' x (List.mem_of_mem_drop hx) (hb.trans (hb'.mono hb.size)))
        rw [htl] at hh1
        rw [hdl] at hh2
        rw [← hk1] at hgd
        have hsm := fun W => sameM rn zn W hrn hnm
        have f1L : ∀ W, Below Y.heap.size Y W → W.cell? ⟨w.heap.size, 1, none⟩ = some (.slice (some ⟨b, off, none⟩) N rc) := fun W hb => (hb.cell (p := ⟨w.heap.size, 1, none⟩) (Nat.lt_of_lt_of_le hxw hbY.size)).trans f1
        have q1 : k ≤ rc := by omega
        have q2 : k1 ≤ rc := by omega
        have q3 : k1 ≤ N := by omega
        clear hcl htk hrw hrk hbY
        generalize ((rs.take k).any fun x => Nm.sameN x.name rn) = p1 at *
        generalize ((rs.drop k1).any fun x => Nm.sameN x.name rn) = p2 at *
        generalize Nm.sameN rn zn = s1 at *
        have HNO2 := Go.Lib.hid hno
        have HALL := Go.Lib.hid hall
        have HBR := Go.Lib.hid hbr
        have HGD := Go.Lib.hid hgd
        have HH1 := Go.Lib.hid hh1
        have HH2 := Go.Lib.hid hh2
        have HSM := Go.Lib.hid hsm
        have HF1 := Go.Lib.hid f1L
        have HBXY := Go.Lib.hid hbXY
        have HRWY := Go.Lib.hid hrwY
        have HTL := Go.Lib.hid htl
        have HDL := Go.Lib.hid hdl
        have GY := Go.Lib.hid gY
        have HK1 := Go.Lib.hid hk1
        clear hno hall hbr hgd hh1 hh2 hsm f1L hbXY hrwY htl hdl gY hk1
        cases s1 with
        | true =>
          have hfin : Hid (R = false) := Go.Lib.hid (HNO2.out (by rw [HGD.out]; rfl))
          go_wp2_with fail
          refine (HSM.out _).mono ?_; rintro e wb ⟨rfl, hx⟩
          have HX := Go.Lib.hid hx
          clear hx
          go_wp2_with fail
          go_ret
          exact ⟨ret_bool hfin.out.symm, HBX.out.trans ((HBXY.out.trans (HX.out.mono HBXY.out.size)).mono HBX.out.size)⟩
        | false =>
        cases p1 with
        | true =>
          have hfin : Hid (R = false) := Go.Lib.hid (HNO2.out (by rw [HGD.out]; rfl))
          go_wp2_with fail
          refine (HSM.out _).mono ?_; rintro e wb ⟨rfl, hx⟩
          have g1 := HF1.out wb hx
          have HX := Go.Lib.hid hx
          clear hx
          go_wp2_with fail
          refine (HH1.out _ HX.out).mono ?_; rintro e wb2 ⟨rfl, hx2⟩
          have HX2 := Go.Lib.hid (HX.out.trans (hx2.mono HX.out.size))
          clear hx2
          go_wp2_with fail
          go_ret
          exact ⟨ret_bool hfin.out.symm, HBX.out.trans ((HBXY.out.trans (HX2.out.mono HBXY.out.size)).mono HBX.out.size)⟩
        | false =>
        by_cases hcap : rc = k1
        · have hN1 : N - k1 = 0 := by omega
          have hdr : rs.drop k1 = [] := List.eq_nil_of_length_eq_zero (by rw [HDL.out]; exact hN1)
          have hh3 := fun W hb => HH2.out (some ⟨b, off, none⟩) 0 W hb (by
            rw [hdr, hN1]
            show SlC Y 5 (.slice (some ⟨b, off, none⟩) 0 0) 0 []
            exact ⟨rfl, some ⟨b, off, none⟩, 0, rfl, Nat.le_refl _, Nat.zero_le _, fun h => (by cases h), Or.inl rfl⟩)
          rw [hN1] at hh3
          have q4 : rc - k1 = 0 := by omega
          have hNk : N = k1 := by omega
          have HH3 := Go.Lib.hid hh3
          clear hh3
          clear hdr
          subst hcap
          clear hN1
          obtain rfl := hNk
          cases p2 with
          | true =>
            have hfin : Hid (R = false) := Go.Lib.hid (HNO2.out (by rw [HGD.out]; rfl))
            go_wp2_with fail
            refine (HSM.out _).mono ?_; rintro e wb ⟨rfl, hx⟩
            have g1 := HF1.out wb hx
            have HX := Go.Lib.hid hx
            clear hx
            go_wp2_with fail
            refine (HH1.out _ HX.out).mono ?_; rintro e wb2 ⟨rfl, hx2⟩
            have HX2 := Go.Lib.hid (HX.out.trans (hx2.mono HX.out.size))
            have g2 := HF1.out wb2 HX2.out
            clear hx2
            go_wp2_with fail
            refine (HH3.out _ HX2.out).mono ?_; rintro e wb3 ⟨rfl, hx3⟩
            have HX3 := Go.Lib.hid (HX2.out.trans (hx3.mono HX2.out.size))
            clear hx3
            go_wp2_with fail
            go_ret
            exact ⟨ret_bool hfin.out.symm, HBX.out.trans ((HBXY.out.trans (HX3.out.mono HBXY.out.size)).mono HBX.out.size)⟩
          | false =>
            have hgk : Hid (aliG zn rs k = true) := Go.Lib.hid (by rw [HGD.out]; rfl)
            go_wp2_with fail
            refine (HSM.out _).mono ?_; rintro e wb ⟨rfl, hx⟩
            have g1 := HF1.out wb hx
            have HX := Go.Lib.hid hx
            clear hx
            go_wp2_with fail
            refine (HH1.out _ HX.out).mono ?_; rintro e wb2 ⟨rfl, hx2⟩
            have HX2 := Go.Lib.hid (HX.out.trans (hx2.mono HX.out.size))
            have g2 := HF1.out wb2 HX2.out
            clear hx2
            go_wp2_with fail
            refine (HH3.out _ HX2.out).mono ?_; rintro e wb3 ⟨rfl, hx3⟩
            have HX3 := Go.Lib.hid (HX2.out.trans (hx3.mono HX2.out.size))
            clear hx3
            go_wp2_with fail
            go_roundw
            case rel => exact ⟨_, rfl, by omega, fun j hj => by
              have := HK1.out
              by_cases hjk : j = k
              · rw [hjk]; exact hgk.out
              · exact HALL.out j (by omega), HBXY.out.trans (HX3.out.mono HBXY.out.size)⟩
            case measure => have := HK1.out; simp [intOf]; omega
        · have hdr := RRs_part HRWY.out (i := k1) (j := rs.length) (by rw [HN.out]; exact q3) (Nat.le_refl _) (a' := some ⟨b, off + k1 * 5, none⟩) (fun _ => rfl) (fun h => by cases h)
          rw [List.take_of_length_le (by rw [List.length_drop]; exact Nat.le_refl _), HN.out] at hdr
          have hh3 := fun W hb => HH2.out _ _ W hb hdr
          have HH3 := Go.Lib.hid hh3
          clear hh3
          clear hdr
          cases p2 with
          | true =>
            have hfin : Hid (R = false) := Go.Lib.hid (HNO2.out (by rw [HGD.out]; rfl))
            go_wp2_with fail
            refine (HSM.out _).mono ?_; rintro e wb ⟨rfl, hx⟩
            have g1 := HF1.out wb hx
            have HX := Go.Lib.hid hx
            clear hx
            go_wp2_with fail
            refine (HH1.out _ HX.out).mono ?_; rintro e wb2 ⟨rfl, hx2⟩
            have HX2 := Go.Lib.hid (HX.out.trans (hx2.mono HX.out.size))
            have g2 := HF1.out wb2 HX2.out
            clear hx2
            go_wp2_with fail
            refine (HH3.out _ HX2.out).mono ?_; rintro e wb3 ⟨rfl, hx3⟩
            have HX3 := Go.Lib.hid (HX2.out.trans (hx3.mono HX2.out.size))
            clear hx3
            go_wp2_with fail
            go_ret
            exact ⟨ret_bool hfin.out.symm, HBX.out.trans ((HBXY.out.trans (HX3.out.mono HBXY.out.size)).mono HBX.out.size)⟩
          | false =>
            have hgk : Hid (aliG zn rs k = true) := Go.Lib.hid (by rw [HGD.out]; rfl)
            go_wp2_with fail
            refine (HSM.out _).mono ?_; rintro e wb ⟨rfl, hx⟩
            have g1 := HF1.out wb hx
            have HX := Go.Lib.hid hx
            clear hx
            go_wp2_with fail
            refine (HH1.out _ HX.out).mono ?_; rintro e wb2 ⟨rfl, hx2⟩
            have HX2 := Go.Lib.hid (HX.out.trans (hx2.mono HX.out.size))
            have g2 := HF1.out wb2 HX2.out
            clear hx2
            go_wp2_with fail
            refine (HH3.out _ HX2.out).mono ?_; rintro e wb3 ⟨rfl, hx3⟩
            have HX3 := Go.Lib.hid (HX2.out.trans (hx3.mono HX2.out.size))
            clear hx3
            go_wp2_with fail
            go_roundw
            case rel => exact ⟨_, rfl, by omega, fun j hj => by
              have := HK1.out
              by_cases hjk : j = k
              · rw [hjk]; exact hgk.out
              · exact HALL.out j (by omega), HBXY.out.trans (HX3.out.mono HBXY.out.size)⟩
            case measure => have := HK1.out; simp [intOf]; omega
      · have hgk : Hid (aliG zn rs k = true) := Go.Lib.hid (by rw [hgd]; simp [h5])
        have h5b : (ty == 5) = false := beq_eq_false_iff_ne.2 h5
        have HNO2 := Go.Lib.hid hno
        have HALL := Go.Lib.hid hall
        have HBR := Go.Lib.hid hbr
        have HGD := Go.Lib.hid hgd
        have HBXY := Go.Lib.hid hbXY
        have GY := Go.Lib.hid gY
        have HK1 := Go.Lib.hid hk1
        have HRW := Go.Lib.hid hrw
        have HRK := Go.Lib.hid hrk
        have HBY := Go.Lib.hid hbY
        clear hno hall hbr hgd hbXY gY hk1 hrw hrk hbY
        go_wp2_with fail
        go_roundw
        case rel => exact ⟨_, rfl, by have := HK1.out; omega, fun j hj => by
          have := HK1.out
          by_cases hjk : j = k
          · rw [hjk]; exact hgk.out
          · exact HALL.out j (by omega), HBXY.out⟩
        case measure => have := HK1.out; simp [intOf]; omega
    · have hke : k = N := by omega
      have hlt2 : ¬ (k : Int) < (N : Int) := by omega
      have hfin : Hid (R = true) := Go.Lib.hid (HYES.out fun j hj => hall j (by omega))
      have HBR := Go.Lib.hid hbr
      have HALL := Go.Lib.hid hall
      clear hbr hall
      go_wp2_with fail
      go_ret
      exact ⟨ret_bool hfin.out.symm, HBX.out.trans (HBR.out.mono HBX.out.size)⟩
end Go.Proofs.YtkpcmnckdappnaaGreat

