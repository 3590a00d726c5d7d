/- A region whose order is left open and whose last operation waits for all others, in a round of a range over a function: walked once, in the order of the text. No conditions beside. -/
import Derived.Test.YtblbphnmflbepaaOrdT
import Derived.OrdersIn
import Derived.TacticsIn
import Derived.RangeFuncCalls
namespace Go.Mix
open Go
section
variable {P : Program} {ops : Array Oper} {md : Region.Mode} {E : Nat → Bool} {C : World → Prop}

theorem operIn_of_wp {l n : Nat} {o : Oper} {a : Act} {w : World} {K K' : Act → World → Prop} {Q : Exit → Act → World → Prop} (hd : ∀ c, o.op ≠ .defer c) (h : ∀ a w, K a w → K' a w)
    (hh : o.wp P a w K NoExit) : o.wpIn (Fence.wide.inRound l) n P a w K' Q := by
  refine ⟨fun _ _ => trivial, ?_⟩
  rw [show (Fence.wide.inRound l).round = some l from rfl, Oper.semAt_some l _ _ hd]
  unfold Oper.wp at hh
  generalize (execOp a.eval o).run P w = r at *
  cases r with
  | ok x w' =>
    cases x <;> simp only [Oper.upon] at hh
    case value v => exact h _ _ hh
    case skip => exact h _ _ hh
    case defer d => exact h _ _ hh
    case enter f args =>
      refine ⟨(fun hx => by cases hx), CallsIn.inRound l (callsIn_wide.2 (hh.mono fun e w'' he => ?_))⟩
      cases e with
      | returned v => exact h _ _ he
      | panicked c => exact he.elim
      | outgrown => exact (letsOut_noExit he).elim
    case row r args =>
      refine ⟨(fun hx => by cases hx), fun c cs _ => ?_⟩
      obtain ⟨v, w'', hr, hs⟩ := hh c cs
      exact ⟨v, w'', h _ _ hr, stepsIn_wide.2 hs⟩
  | halt x w' => cases x <;> simp only [Oper.upon] at hh <;> exact hh.elim

def noDeferB (ops : Array Oper) : Bool := ops.all fun o => match o.op with | .defer _ => false | _ => true
theorem noDefer_spec (h : noDeferB ops = true) {i : Nat} {o : Oper} (hi : ops[i]? = some o) : ∀ c, o.op ≠ .defer c := by
  intro c e
  obtain ⟨hlt, rfl⟩ := Array.getElem?_eq_some_iff.1 hi
  have := Array.all_eq_true.1 h i hlt
  rw [e] at this
  cases this

theorem wpOpIn_of_mOp {l n i : Nat} {a : Act} {w : World} {K K' : Act → World → Prop} {Q : Exit → Act → World → Prop} (hnd : noDeferB ops = true) (hw : C w) (h : ∀ a w, C w → K a w → K' a w)
    (hh : mOp P ops E C i K a w) : wpOpIn (Fence.wide.inRound l) n P ops Q i K' a w := by
  unfold mOp at hh
  unfold wpOpIn
  split
  · rename_i ho; simp only [ho] at hh; exact h _ _ hw hh
  · rename_i o ho
    simp only [ho] at hh
    split
    · rename_i hwt
      simp only [hwt, if_true] at hh
      split at hh
      · exact operIn_of_wp (noDefer_spec hnd ho) (fun a w hk => h _ _ hk.1 hk.2) hh
      · obtain ⟨v, h1, h2⟩ := hh
        refine operIn_of_wp (K := fun a' w' => C w' ∧ K a' w') (noDefer_spec hnd ho) (fun a w hk => h _ _ hk.1 hk.2) ?_
        unfold Oper.wp
        rw [h1 w hw]
        exact ⟨hw, h2⟩
    · rename_i hwt
      simp only [hwt] at hh
      exact ⟨fun _ _ => trivial, h _ _ hw hh⟩

theorem wpOpIn_of_tOp {l n i : Nat} {a : Act} {w : World} {K K' : Act → World → Prop} {Q : Exit → Act → World → Prop} (hnd : noDeferB ops = true) (h : ∀ a w, K a w → K' a w)
    (hh : tOp P ops i K a w) : wpOpIn (Fence.wide.inRound l) n P ops Q i K' a w := by
  unfold tOp at hh
  unfold wpOpIn
  split
  · rename_i ho; simp only [ho] at hh; exact h _ _ hh
  · rename_i o ho
    simp only [ho] at hh
    split
    · rename_i hwt
      simp only [hwt, if_true] at hh
      exact operIn_of_wp (noDefer_spec hnd ho) h hh
    · rename_i hwt
      simp only [hwt] at hh
      exact ⟨fun _ _ => trivial, h _ _ hh⟩

theorem wpAnyIn_end {F : Fence} {n : Nat} {Q : Exit → Act → World → Prop} {listed : Array Bool} (h : Region.ready md ops listed = []) (fuel : Nat) {a : Act} {w : World} (hq : Q .normal a w) : wpAnyIn F n P md ops Q fuel listed a w := by
  cases fuel with
  | zero => exact ⟨h, hq⟩
  | succ n => exact ⟨fun _ => hq, fun i hi => (by rw [h] at hi; cases hi)⟩

theorem wpAnyIn_of_wpAnyT {l n : Nat} {Q : Act → World → Prop} {Q' : Exit → Act → World → Prop} {tl : Nat} (hnd : noDeferB ops = true) (hQ : ∀ a w, Q a w → Q' .normal a w) :
    ∀ (fuel : Nat) (listed : Array Bool) (a : Act) (w : World), C w → wpAnyT P md ops E C Q tl fuel listed a w → wpAnyIn (Fence.wide.inRound l) n P md ops Q' fuel listed a w
  | 0, _, _, _, _, h => ⟨h.1, hQ _ _ h.2⟩
  | fuel + 1, listed, a, w, hw, h => ⟨fun h0 => hQ _ _ (h.1 h0), fun i hi => by
      by_cases hit : i = tl
      · obtain ⟨h1, h2⟩ := (h.2 i hi).1 hit
        exact wpOpIn_of_tOp hnd (fun a' w' hq => wpAnyIn_end h1 fuel (hQ _ _ hq)) h2
      · exact wpOpIn_of_mOp hnd hw (fun a' w' hw' => wpAnyIn_of_wpAnyT hnd hQ fuel _ a' w' hw') ((h.2 i hi).2 hit)⟩

theorem wpIn_region_mixT {ro n : Nat} {id : Nat} {l : List Oper} {Es : List Nat} (tl : Nat) (C : World → Prop) {Q : Exit → Act → World → Prop} {a : Act} {w : World} (hm : P.follows .mixedOrders = true)
    (hB : (Region.lexB .any l.toArray && chainB .any l.toArray Es && tailB .any l.toArray tl && noDeferB l.toArray) = true) (hC : C w.drew)
    (h : MixT P l.toArray (fun k => Es.contains k) C (fun a' w' => Q .normal a' w') tl 0 l a w.drew) : (Code.region id l.toArray true).wpIn (Fence.wide.inRound ro) n P Q a w := by
  simp only [Region.lexB, Bool.and_eq_true] at hB
  obtain ⟨ht1, ht2⟩ := tail_of hB.1.2
  refine wpIn_region_any hm (wpAnyIn_of_wpAnyT (Q := fun a' w' => Q .normal a' w') (C := C) (E := fun k => Es.contains k) (tl := tl) hB.2 (fun _ _ h => h) _ _ _ _ hC ?_)
  have := wpAnyT_lex (P := P) (C := C) (Q := fun a' w' => Q .normal a' w') (md := .any) (chain_of hB.1.1.2) ht1 ht2 hB.1.1.1.1 l 0 (Array.replicate l.toArray.size false) a w.drew (by simp) (fun j hj => by omega) (Down.start _) hC (by simpa using hB.1.1.1.2) h.out
  simpa using this
end
end Go.Mix
