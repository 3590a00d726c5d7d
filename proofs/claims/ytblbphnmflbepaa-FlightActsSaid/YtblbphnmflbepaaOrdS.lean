/- A region whose order is left open, with several effects that need not wait for one another (calls, new variables), and several last ones that wait for all of these, one behind the other (stores), but not for every load: each load is the same in every world of a class C. Rely and guarantee for the first ones, and what they make anew is told apart; the last ones as they stand. No conditions beside. -/
import Derived.Test.YtblbphnmflbepaaOrdR
namespace Go.Mix
open Go
section
variable {P : Program} {ops : Array Oper} {md : Region.Mode} {E : Nat → Bool} {G : World → World → Prop} {w0 : World} {F : Nat → Value → World → Prop} {Sp : Nat → Value → Prop} {C : World → Prop}

/-- what is new in a world, and what is apart -/
def NewIn (w : World) (v : Value) : Prop := ∀ kb, v = .pointer (some ⟨kb, 0, none⟩) → w.heap.size ≤ kb
def Unlike (v u : Value) : Prop := ∀ kb kb', v = .pointer (some ⟨kb, 0, none⟩) → u = .pointer (some ⟨kb', 0, none⟩) → kb ≠ kb'
theorem Unlike.symm {v u : Value} (h : Unlike v u) : Unlike u v := fun kb kb' h1 h2 e => h kb' kb h2 h1 e.symm
theorem NewIn.mono {w w' : World} (h : w.heap.size ≤ w'.heap.size) {u : Value} (hn : NewIn w' u) : NewIn w u := fun kb hk => Nat.le_trans h (hn kb hk)

/-- what an effect leaves -/
def Left (w : World) (v : Value) (w' : World) : Prop := NewIn w v ∧ ∀ u, NewIn w' u → Unlike v u
theorem Left.alloc (w : World) (o : Obj) : Left w (.pointer (some ⟨w.heap.size, 0, none⟩)) (w.alloc o) := by
  refine ⟨fun kb h => ?_, fun u hu kb kb' h1 h2 e => ?_⟩
  · simp only [Value.pointer.injEq, Option.some.injEq, Addr.mk.injEq, and_true] at h; omega
  · simp only [Value.pointer.injEq, Option.some.injEq, Addr.mk.injEq, and_true] at h1
    have := hu kb' h2
    rw [World.size_alloc] at this
    omega
theorem Left.slice (w w' : World) (a : Option Addr) (n c : Nat) : Left w (.slice a n c) w' := ⟨fun kb h => (by cases h), fun u hu kb kb' h1 => (by cases h1)⟩
theorem Left.str (w w' : World) (s : ByteArray) : Left w (.string s) w' := ⟨fun kb h => (by cases h), fun u hu kb kb' h1 => (by cases h1)⟩
theorem Left.int (w w' : World) (k : IntKind) (n : Int) : Left w (.int k n) w' := ⟨fun kb h => (by cases h), fun u hu kb kb' h1 => (by cases h1)⟩
theorem Left.bool (w w' : World) (b : Bool) : Left w (.bool b) w' := ⟨fun kb h => (by cases h), fun u hu kb kb' h1 => (by cases h1)⟩
theorem Left.agg (w w' : World) (b : Array Value) : Left w (.agg b) w' := ⟨fun kb h => (by cases h), fun u hu kb kb' h1 => (by cases h1)⟩
theorem Left.tuple (w w' : World) (b : Array Value) : Left w (.tuple b) w' := ⟨fun kb h => (by cases h), fun u hu kb kb' h1 => (by cases h1)⟩

/-- all but some few -/
def Cof (N : Value → Prop) : Prop := ∃ b, ∀ u, (∀ kb, u = .pointer (some ⟨kb, 0, none⟩) → b ≤ kb) → N u
theorem Cof.all : Cof (fun _ => True) := ⟨0, fun _ _ => trivial⟩
theorem Cof.unlike {N : Value → Prop} (h : Cof N) (v : Value) : Cof (fun u => N u ∧ Unlike v u) := by
  obtain ⟨b, hb⟩ := h
  by_cases hv : ∃ kb, v = .pointer (some ⟨kb, 0, none⟩)
  · obtain ⟨k0, rfl⟩ := hv
    refine ⟨b + k0 + 1, fun u hu => ⟨hb u fun kb hk => by have := hu kb hk; omega, fun kb kb' h1 h2 e => ?_⟩⟩
    simp only [Value.pointer.injEq, Option.some.injEq, Addr.mk.injEq, and_true] at h1
    have := hu kb' h2
    omega
  · exact ⟨b, fun u hu => ⟨hb u hu, fun kb kb' h1 => absurd ⟨kb, h1⟩ hv⟩⟩
theorem Cof.mono {N N' : Value → Prop} (h : Cof N) (hi : ∀ v, N v → N' v) : Cof N' := by
  obtain ⟨b, hb⟩ := h
  exact ⟨b, fun u hu => hi u (hb u hu)⟩

def EffN (P : Program) (G : World → World → Prop) (w0 : World) (Fi : Value → World → Prop) (x : Sem Next) : Prop := ∀ w, G w0 w → EffR P (fun v w' => G w w' ∧ Fi v w' ∧ Left w v w') (x.run P w)

def nOp (P : Program) (ops : Array Oper) (E : Nat → Bool) (C : World → Prop) (G : World → World → Prop) (w0 : World) (F : Nat → Value → World → Prop) (Sp : Nat → Value → Prop) (i : Nat) (K : Act → (World → Prop) → (Value → Prop) → Prop) (a : Act) (Φ : World → Prop) (N : Value → Prop) : Prop :=
  match ops[i]? with
  | none => K a Φ N
  | some o =>
    if Region.wanted o (yielded ops a.tmps) then
      if E i then EffN P G w0 (fun v w => Sp i v ∧ F i v w) (execOp a.eval o) ∧ ∀ v, Sp i v → N v → K (a.put o.dst v) (fun w => Φ w ∧ F i v w) (fun u => N u ∧ Unlike v u)
      else ∃ v, (∀ w2, C w2 → (execOp a.eval o).run P w2 = .ok (.value v) w2) ∧ K (a.put o.dst v) Φ N
    else K (a.put o.dst undef) Φ N

theorem nOp_mono {i : Nat} {K K' : Act → (World → Prop) → (Value → Prop) → Prop} {a : Act} {Φ : World → Prop} {N : Value → Prop} (hC : Cof N) (h : ∀ a Φ N, Cof N → K a Φ N → K' a Φ N) (hh : nOp P ops E C G w0 F Sp i K a Φ N) : nOp P ops E C G w0 F Sp i K' a Φ N := by
  unfold nOp at *
  split
  · rename_i ho; simp only [ho] at hh; exact h _ _ _ hC hh
  · rename_i o ho
    simp only [ho] at hh
    split
    · rename_i hw
      simp only [hw, if_true] at hh
      split
      · rename_i hE
        simp only [hE, if_true] at hh
        exact ⟨hh.1, fun v hv hn => h _ _ _ (hC.unlike v) (hh.2 v hv hn)⟩
      · rename_i hE
        simp only [hE] at hh
        obtain ⟨v, h1, h2⟩ := hh
        exact ⟨v, h1, h _ _ _ hC h2⟩
    · rename_i hw
      simp only [hw] at hh
      exact h _ _ _ hC hh

def AntiN (K : Act → (World → Prop) → (Value → Prop) → Prop) : Prop := ∀ a (Φ Φ' : World → Prop) (N N' : Value → Prop), K a Φ N → (∀ w, Φ' w → Φ w) → (∀ v, N' v → N v) → K a Φ' N'
theorem nOp_anti {i : Nat} {K : Act → (World → Prop) → (Value → Prop) → Prop} (hK : AntiN K) : AntiN (nOp P ops E C G w0 F Sp i K) := by
  intro a Φ Φ' N N' h hi hn
  unfold nOp at *
  split
  · rename_i ho; simp only [ho] at h; exact hK _ _ _ _ _ h hi hn
  · rename_i o ho
    simp only [ho] at h
    split
    · rename_i hw
      simp only [hw, if_true] at h
      split
      · rename_i hE
        simp only [hE, if_true] at h
        exact ⟨h.1, fun v hv hnv => hK _ _ _ _ _ (h.2 v hv (hn v hnv)) (fun w hw => ⟨hi w hw.1, hw.2⟩) (fun u hu => ⟨hn u hu.1, hu.2⟩)⟩
      · rename_i hE
        simp only [hE] at h
        obtain ⟨v, h1, h2⟩ := h
        exact ⟨v, h1, hK _ _ _ _ _ h2 hi hn⟩
    · rename_i hw
      simp only [hw] at h
      exact hK _ _ _ _ _ h hi hn

/-- what operation i does, apart from its way through 'match'; B: it is an effect that is made -/
def nKind (P : Program) (ops : Array Oper) (E : Nat → Bool) (C : World → Prop) (G : World → World → Prop) (w0 : World) (F : Nat → Value → World → Prop) (Sp : Nat → Value → Prop) (i : Nat) (o : Oper) (a : Act) (S : Value → Prop) (T : Value → World → Prop) (B : Prop) : Prop :=
  (Region.wanted o (yielded ops a.tmps) = true ∧ E i = true ∧ EffN P G w0 (fun v w => Sp i v ∧ F i v w) (execOp a.eval o) ∧ (S = Sp i) ∧ T = F i ∧ B = True) ∨
  (Region.wanted o (yielded ops a.tmps) = true ∧ E i = false ∧ ∃ v, (∀ w2, C w2 → (execOp a.eval o).run P w2 = .ok (.value v) w2) ∧ (S = fun u => u = v) ∧ (T = fun _ _ => True) ∧ B = False) ∨
  (Region.wanted o (yielded ops a.tmps) = false ∧ (S = fun u => u = undef) ∧ (T = fun _ _ => True) ∧ B = False)

theorem nOp_kind {i : Nat} {o : Oper} (hi : ops[i]? = some o) {K : Act → (World → Prop) → (Value → Prop) → Prop} (hK : AntiN K) {a : Act} {Φ : World → Prop} {N : Value → Prop} :
    nOp P ops E C G w0 F Sp i K a Φ N ↔ ∃ S T B, nKind P ops E C G w0 F Sp i o a S T B ∧ ∀ v, S v → (B → N v) → K (a.put o.dst v) (fun w => Φ w ∧ T v w) (fun u => N u ∧ (B → Unlike v u)) := by
  unfold nOp nKind
  rw [hi]
  simp only
  constructor
  · intro h
    split at h
    · rename_i hw
      split at h
      · rename_i hE
        exact ⟨_, _, _, .inl ⟨hw, hE, h.1, rfl, rfl, rfl⟩, fun v hv hn => hK _ _ _ _ _ (h.2 v hv (hn trivial)) (fun w hw => hw) (fun u hu => ⟨hu.1, hu.2 trivial⟩)⟩
      · rename_i hE
        obtain ⟨v, h1, h2⟩ := h
        exact ⟨_, _, _, .inr (.inl ⟨hw, by simpa using hE, v, h1, rfl, rfl, rfl⟩), fun u hu _ => by subst hu; exact hK _ _ _ _ _ h2 (fun w hw => hw.1) (fun u hu => hu.1)⟩
    · rename_i hw
      exact ⟨_, _, _, .inr (.inr ⟨by simpa using hw, rfl, rfl, rfl⟩), fun u hu _ => by subst hu; exact hK _ _ _ _ _ h (fun w hw => hw.1) (fun u hu => hu.1)⟩
  · rintro ⟨S, T, B, (⟨hw, hE, he, rfl, rfl, rfl⟩ | ⟨hw, hE, v, hv, rfl, rfl, rfl⟩ | ⟨hw, rfl, rfl, rfl⟩), hk⟩
    · simp only [hw, hE, if_true]
      exact ⟨he, fun v hv hn => hK _ _ _ _ _ (hk v hv fun _ => hn) (fun w hw => hw) (fun u hu => ⟨hu.1, fun _ => hu.2⟩)⟩
    · simp only [hw, hE, if_true, Bool.false_eq_true, if_false]
      exact ⟨v, hv, hK _ _ _ _ _ (hk v rfl fun h => h.elim) (fun w hw => ⟨hw, trivial⟩) (fun u hu => ⟨hu, fun h => h.elim⟩)⟩
    · simp only [hw, Bool.false_eq_true, if_false]
      exact hK _ _ _ _ _ (hk _ rfl fun h => h.elim) (fun w hw => ⟨hw, trivial⟩) (fun u hu => ⟨hu, fun h => h.elim⟩)

theorem nKind_put {i : Nat} {o : Oper} (hsel : ∀ cs b, o.op ≠ .select cs b) {x : Option Tmp} (h1 : ∀ d, x = some d → d ∉ o.looksAt ops) {a : Act} {u : Value} {S : Value → Prop} {T : Value → World → Prop} {B : Prop} :
    nKind P ops E C G w0 F Sp i o (a.put x u) S T B ↔ nKind P ops E C G w0 F Sp i o a S T B := by
  unfold nKind
  rw [execOp_put (ops := ops) o hsel a x u h1, wanted_put o a x u h1]

theorem nKind_one {i : Nat} {o : Oper} {a : Act} {S S' : Value → Prop} {T T' : Value → World → Prop} {B B' : Prop} (hr : C w0) (h : nKind P ops E C G w0 F Sp i o a S T B) (h' : nKind P ops E C G w0 F Sp i o a S' T' B') : S = S' ∧ T = T' ∧ B = B' := by
  rcases h with ⟨a1, a2, _, rfl, rfl, rfl⟩ | ⟨a1, a2, v, a3, rfl, rfl, rfl⟩ | ⟨a1, rfl, rfl, rfl⟩ <;> rcases h' with ⟨b1, b2, _, rfl, rfl, rfl⟩ | ⟨b1, b2, v', b3, rfl, rfl, rfl⟩ | ⟨b1, rfl, rfl, rfl⟩
  · exact ⟨rfl, rfl, rfl⟩
  · rw [a2] at b2; cases b2
  · rw [a1] at b1; cases b1
  · rw [a2] at b2; cases b2
  · have := (a3 w0 hr).symm.trans (b3 w0 hr)
    simp only [Result.ok.injEq, Next.value.injEq, and_true] at this
    subst this
    exact ⟨rfl, rfl, rfl⟩
  · rw [a1] at b1; cases b1
  · rw [a1] at b1; cases b1
  · rw [a1] at b1; cases b1
  · exact ⟨rfl, rfl, rfl⟩

/-- what comes up, without what was told apart: for the kinds alone -/
theorem nOp_some {i : Nat} {o : Oper} (hi : ops[i]? = some o) {K : Act → (World → Prop) → (Value → Prop) → Prop} {a : Act} {Φ : World → Prop} {N : Value → Prop} (h : nOp P ops E C G w0 F Sp i K a Φ N) : ∃ S T B, nKind P ops E C G w0 F Sp i o a S T B := by
  unfold nOp at h
  rw [hi] at h
  simp only at h
  unfold nKind
  split at h
  · rename_i hw
    split at h
    · rename_i hE
      exact ⟨_, _, _, .inl ⟨hw, hE, h.1, rfl, rfl, rfl⟩⟩
    · rename_i hE
      obtain ⟨v, h1, h2⟩ := h
      exact ⟨_, _, _, .inr (.inl ⟨hw, by simpa using hE, v, h1, rfl, rfl, rfl⟩)⟩
  · rename_i hw
    exact ⟨_, _, _, .inr (.inr ⟨by simpa using hw, rfl, rfl, rfl⟩)⟩

theorem nKind_inh (hS : ∀ i b, ∃ v, Sp i v ∧ ∀ kb, v = .pointer (some ⟨kb, 0, none⟩) → b ≤ kb) {i : Nat} {o : Oper} {a : Act} {S : Value → Prop} {T : Value → World → Prop} {B : Prop} {N : Value → Prop} (hC : Cof N) (h : nKind P ops E C G w0 F Sp i o a S T B) : ∃ v, S v ∧ (B → N v) := by
  obtain ⟨b, hb⟩ := hC
  rcases h with ⟨_, _, _, rfl, _, _⟩ | ⟨_, _, v, _, rfl, _, rfl⟩ | ⟨_, rfl, _, rfl⟩
  · obtain ⟨v, h1, h2⟩ := hS i b
    exact ⟨v, h1, fun _ => hb v h2⟩
  · exact ⟨v, rfl, fun h => h.elim⟩
  · exact ⟨_, rfl, fun h => h.elim⟩
theorem nOp_ex (hS : ∀ i b, ∃ v, Sp i v ∧ ∀ kb, v = .pointer (some ⟨kb, 0, none⟩) → b ≤ kb) {i : Nat} {K : Act → (World → Prop) → (Value → Prop) → Prop} {a : Act} {Φ : World → Prop} {N : Value → Prop} (hC : Cof N) (h : nOp P ops E C G w0 F Sp i K a Φ N) : ∃ a' Φ' N', K a' Φ' N' := by
  unfold nOp at h
  split at h
  · exact ⟨_, _, _, h⟩
  · split at h
    · split at h
      · obtain ⟨b, hb⟩ := hC
        obtain ⟨v, h1, h2⟩ := hS i b
        exact ⟨_, _, _, h.2 v h1 (hb v h2)⟩
      · obtain ⟨v, _, h⟩ := h
        exact ⟨_, _, _, h⟩
    · exact ⟨_, _, _, h⟩

theorem nOp_comm (hS : ∀ i b, ∃ v, Sp i v ∧ ∀ kb, v = .pointer (some ⟨kb, 0, none⟩) → b ≤ kb) {i j : Nat} {oi oj : Oper} (hr : C w0) (hi : ops[i]? = some oi) (hj : ops[j]? = some oj) (hap : oi.apart ops oj = true)
    (hsi : ∀ cs b, oi.op ≠ .select cs b) (hsj : ∀ cs b, oj.op ≠ .select cs b) {K : Act → (World → Prop) → (Value → Prop) → Prop} (hK : AntiN K) {a : Act} {Φ : World → Prop} {N : Value → Prop}
    (hC : Cof N) (h : nOp P ops E C G w0 F Sp i (nOp P ops E C G w0 F Sp j K) a Φ N) : nOp P ops E C G w0 F Sp j (nOp P ops E C G w0 F Sp i K) a Φ N := by
  obtain ⟨h1, h2, h3⟩ := Oper.apart_spec hap
  rw [nOp_kind hi (nOp_anti hK)] at h
  obtain ⟨S, T, B, hk, h⟩ := h
  obtain ⟨v0, hv0, hn0⟩ := nKind_inh hS hC hk
  obtain ⟨S', T', B', hk'⟩ := nOp_some hj (h v0 hv0 hn0)
  rw [nKind_put hsj h1] at hk'
  rw [nOp_kind hj (nOp_anti hK)]
  refine ⟨S', T', B', hk', fun u hu hnu => ?_⟩
  rw [nOp_kind hi hK]
  refine ⟨S, T, B, (nKind_put hsi h3).2 hk, fun v hv hnv => ?_⟩
  have h4 := h v hv (fun hB => (hnv hB).1)
  rw [nOp_kind hj hK] at h4
  obtain ⟨S2, T2, B2, hk2, h5⟩ := h4
  rw [nKind_put hsj h1] at hk2
  obtain ⟨rfl, rfl, rfl⟩ := nKind_one hr hk' hk2
  have h6 := h5 u hu (fun hB' => ⟨hnu hB', fun hB => ((hnv hB).2 hB').symm⟩)
  rw [Act.put_comm a v u h2] at h6
  exact hK _ _ _ _ _ h6 (fun w hw => ⟨⟨hw.1.1, hw.2⟩, hw.1.2⟩) (fun x hx => ⟨⟨hx.1.1, hx.2⟩, hx.1.2⟩)

/-- a quiet operation, at one world -/
theorem nOp_quiet {T : Nat → Bool} {i : Nat} (hE : E i = false) (hT : T i = false) {K : Act → (World → Prop) → (Value → Prop) → Prop} {a : Act} {Φ : World → Prop} {N : Value → Prop} (h : nOp P ops E C G w0 F Sp i K a Φ N) (w : World) :
    mOp P ops T C i (fun a' w' => w' = w ∧ K a' Φ N) a w := by
  unfold nOp at h
  unfold mOp
  split
  · rename_i ho; simp only [ho] at h; exact ⟨rfl, h⟩
  · rename_i o ho
    simp only [ho, hE, Bool.false_eq_true, if_false] at h
    simp only [hT, Bool.false_eq_true, if_false]
    split
    · rename_i hw
      rw [if_pos hw] at h
      obtain ⟨v, h1, h2⟩ := h
      exact ⟨v, h1, by trivial, h2⟩
    · rename_i hw
      rw [if_neg hw] at h
      exact ⟨by trivial, h⟩

/-! ### any order -/
def wpAnyW (P : Program) (md : Region.Mode) (ops : Array Oper) (E T : Nat → Bool) (C : World → Prop) (G : World → World → Prop) (w0 : World) (F : Nat → Value → World → Prop) (Sp : Nat → Value → Prop) (Q : Act → World → Prop) : Nat → Array Bool → Act → (World → Prop) → (Value → Prop) → Prop
  | 0, listed, a, Φ, _ => Region.ready md ops listed = [] ∧ ∀ w, G w0 w → Φ w → Q a w
  | fuel + 1, listed, a, Φ, N =>
    (Region.ready md ops listed = [] → ∀ w, G w0 w → Φ w → Q a w) ∧
    ∀ i ∈ Region.ready md ops listed, (T i = true → ∀ w, G w0 w → Φ w → mOp P ops T C i (wpAnyM P md ops T C Q fuel (listed.setIfInBounds i true)) a w) ∧
      (T i = false → nOp P ops E C G w0 F Sp i (wpAnyW P md ops E T C G w0 F Sp Q fuel (listed.setIfInBounds i true)) a Φ N)

section
variable {T : Nat → Bool}
theorem wpAnyW_anti {Q : Act → World → Prop} : ∀ (fuel : Nat) (listed : Array Bool), AntiN (wpAnyW P md ops E T C G w0 F Sp Q fuel listed)
  | 0, _ => fun _ _ _ _ _ h hi _ => ⟨h.1, fun w hg hw => h.2 w hg (hi w hw)⟩
  | fuel + 1, _ => fun _ _ _ _ _ h hi hn => ⟨fun h0 w hg hw => h.1 h0 w hg (hi w hw), fun i hir => ⟨fun hit w hg hw => (h.2 i hir).1 hit w hg (hi w hw), fun hit => nOp_anti (wpAnyW_anti fuel _) _ _ _ _ _ ((h.2 i hir).2 hit) hi hn⟩⟩

theorem wpAny_of_wpAnyW {Q : Act → World → Prop} {Q' : Exit → Act → World → Prop} (hGC : ∀ w, G w0 w → C w) (hQ : ∀ a w, Q a w → Q' .normal a w) (hGt : ∀ {A B C : World}, G A B → G B C → G A C) (hGs : ∀ {A B : World}, G A B → A.heap.size ≤ B.heap.size) (hF : ∀ i v w w', F i v w → G w w' → F i v w') :
    ∀ (fuel : Nat) (listed : Array Bool) (a : Act) (w : World) (Φ : World → Prop) (N : Value → Prop), G w0 w → Φ w → (∀ w w', Φ w → G w w' → Φ w') → (∀ u, NewIn w u → N u) → wpAnyW P md ops E T C G w0 F Sp Q fuel listed a Φ N → wpAny P md ops Q' fuel listed a w
  | 0, _, _, _, _, _, hw, hp, _, _, h => ⟨h.1, hQ _ _ (h.2 _ hw hp)⟩
  | fuel + 1, listed, a, w, Φ, N, hw, hp, hst, hN, h => ⟨fun h0 => hQ _ _ (h.1 h0 _ hw hp), fun i hi => by
      cases hit : T i with
      | true => exact wpOp_of_mOp (hGC w hw) (fun a' w' hw' hk => wpAny_of_wpAnyM (fun a w _ hq => hQ a w hq) fuel _ a' w' hw' hk) ((h.2 i hi).1 hit w hw hp)
      | false =>
        have h3 := (h.2 i hi).2 hit
        unfold nOp at h3
        unfold wpOp
        split
        · rename_i ho
          simp only [ho] at h3
          exact wpAny_of_wpAnyW hGC hQ hGt hGs hF fuel _ a w Φ N hw hp hst hN h3
        · rename_i o ho
          simp only [ho] at h3
          split
          · rename_i hwt
            simp only [hwt, if_true] at h3
            refine .inl ?_
            split at h3
            · obtain ⟨he, hk⟩ := h3
              unfold Oper.wp
              refine (he w hw).upon fun v w' hv => ?_
              exact wpAny_of_wpAnyW hGC hQ hGt hGs hF fuel _ _ w' _ _ (hGt hw hv.1) ⟨hst _ _ hp hv.1, hv.2.1.2⟩ (fun x y hx hg => ⟨hst _ _ hx.1 hg, hF _ _ _ _ hx.2 hg⟩) (fun u hu => ⟨hN u (hu.mono (hGs hv.1)), hv.2.2.2 u hu⟩) (hk v hv.2.1.1 (hN v hv.2.2.1))
            · obtain ⟨v, h1, h2⟩ := h3
              unfold Oper.wp
              rw [h1 w (hGC w hw)]
              exact wpAny_of_wpAnyW hGC hQ hGt hGs hF fuel _ _ w Φ N hw hp hst hN h2
          · rename_i hwt
            simp only [hwt] at h3
            exact wpAny_of_wpAnyW hGC hQ hGt hGs hF fuel _ _ w Φ N hw hp hst hN h3⟩

/-- the last ones wait for all effects -/
def Waits (md : Region.Mode) (ops : Array Oper) (E T : Nat → Bool) (n : Nat) : Prop := ∀ t i, t < ops.size → i < ops.size → T t = true → E i = true → dep md ops n t i = true

theorem wpAnyW_first (hS : ∀ i b, ∃ v, Sp i v ∧ ∀ kb, v = .pointer (some ⟨kb, 0, none⟩) → b ≤ kb) (hGC : ∀ w, G w0 w → C w) {Q : Act → World → Prop} {n : Nat} (hr0 : G w0 w0) (hch : Chain md ops T n) (hwt : Waits md ops E T n) {i : Nat} {oi : Oper} (hi : ops[i]? = some oi) (hit : T i = false)
    (hsel : ∀ (j : Nat) (o : Oper) cs b, ops[j]? = some o → o.op ≠ .select cs b) :
    ∀ (fuel : Nat) (listed : Array Bool) (a : Act) (Φ : World → Prop) (N : Value → Prop), Cof N → Down md ops listed →
      (∀ j oj, ops[j]? = some oj → j ≠ i → listed.getD j true = false → (∀ e ∈ oj.after, Region.binds md e = true → e.on ≠ i) → oi.apart ops oj = true) →
      i ∈ Region.ready md ops listed →
      nOp P ops E C G w0 F Sp i (wpAnyW P md ops E T C G w0 F Sp Q fuel (listed.setIfInBounds i true)) a Φ N → wpAnyW P md ops E T C G w0 F Sp Q (fuel + 1) listed a Φ N := by
  intro fuel
  induction fuel with
  | zero =>
    intro listed a Φ N hC _ _ hr H
    refine ⟨fun h => (by rw [h] at hr; cases hr), fun j hj => ?_⟩
    by_cases hji : j = i
    · subst hji; exact ⟨fun h => (by rw [hit] at h; cases h), fun _ => H⟩
    · have := ready_mono hj hji
      obtain ⟨a', w', N', hK⟩ := nOp_ex hS hC H
      rw [hK.1] at this
      cases this
  | succ fuel ih =>
    intro listed a Φ N hC hdn hfree hr H
    refine ⟨fun h => (by rw [h] at hr; cases hr), fun j hj => ?_⟩
    by_cases hji : j = i
    · subst hji; exact ⟨fun h => (by rw [hit] at h; cases h), fun _ => H⟩
    · obtain ⟨hjun, oj, hoj, hall⟩ := mem_ready.1 hj
      have hiun := (mem_ready.1 hr).1
      have hilt := (Array.getElem?_eq_some_iff.1 hi).1
      have hjlt := (Array.getElem?_eq_some_iff.1 hoj).1
      have hnot : ∀ e ∈ oj.after, Region.binds md e = true → e.on ≠ i := fun e he hb heq => by
        have h1 := hall e he hb
        rw [heq, getD_true_false hiun] at h1
        cases h1
      have hap := hfree j oj hoj hji hjun hnot
      have hfree' : ∀ k ok, ops[k]? = some ok → k ≠ i → (listed.setIfInBounds j true).getD k true = false →
          (∀ e ∈ ok.after, Region.binds md e = true → e.on ≠ i) → oi.apart ops ok = true := fun k ok hk hki hun hno => by
        refine hfree k ok hk hki ?_ hno
        by_cases hjk : j = k
        · subst hjk; exact hjun
        · rw [getD_set_ne true hjk] at hun; exact hun
      refine ⟨fun hjt w hg hw => ?_, fun hjt => ?_⟩
      · have hEi : E i = false := by
          cases hE : E i with
          | false => rfl
          | true =>
            exfalso
            have h1 := hwt j i hjlt hilt hjt hE
            rw [dep_ready hdn (getD_true_false hiun) hj n] at h1
            cases h1
        have hcw := hGC w hg
        have H1 : mOp P ops T C i (mOp P ops T C j (wpAnyM P md ops T C Q fuel ((listed.setIfInBounds i true).setIfInBounds j true))) a w :=
          mOp_mono hcw (fun a' w' _ hK => by
            obtain ⟨rfl, hK⟩ := hK
            exact (hK.2 j (ready_mono hj hji)).1 hjt _ hg hw) (nOp_quiet hEi hit H w)
        have H2 := mOp_comm hi hoj hap (fun cs b => hsel i oi cs b hi) (fun cs b => hsel j oj cs b hoj) (by rw [hit]; simp) hcw H1
        refine mOp_mono hcw (fun a' w' hw' h3 => wpAnyM_first hch hi hsel fuel (listed.setIfInBounds j true) a' w' (hdn.ready hj) hw' hfree' (ready_mono hr (Ne.symm hji)) ?_) H2
        rw [Array.setIfInBounds_comm _ _ hji]
        exact h3
      · have H1 : nOp P ops E C G w0 F Sp i (nOp P ops E C G w0 F Sp j (wpAnyW P md ops E T C G w0 F Sp Q fuel ((listed.setIfInBounds i true).setIfInBounds j true))) a Φ N :=
          nOp_mono hC (fun a' Φ' N' _ hK => (hK.2 j (ready_mono hj hji)).2 hjt) H
        have H2 := nOp_comm hS (hGC _ hr0) hi hoj hap (fun cs b => hsel i oi cs b hi) (fun cs b => hsel j oj cs b hoj) (wpAnyW_anti fuel _) hC H1
        refine nOp_mono hC (fun a' Φ' N' hC' h3 => ih (listed.setIfInBounds j true) a' Φ' N' hC' (hdn.ready hj) hfree' (ready_mono hr (Ne.symm hji)) ?_) H2
        rw [Array.setIfInBounds_comm _ _ hji]
        exact h3

/-- THE WALK IN THE ORDER OF THE TEXT -/
def wpMixW (P : Program) (ops : Array Oper) (E T : Nat → Bool) (C : World → Prop) (G : World → World → Prop) (w0 : World) (F : Nat → Value → World → Prop) (Sp : Nat → Value → Prop) (Q : Act → World → Prop) : Nat → List Oper → Act → (World → Prop) → (Value → Prop) → Prop
  | _, [], a, Φ, _ => ∀ w, G w0 w → Φ w → Q a w
  | k, o :: rest, a, Φ, N =>
    (T k = true → ∀ w, G w0 w → Φ w → wpMix P ops T C Q k (o :: rest) a w) ∧
    (T k = false → if Region.wanted o (yielded ops a.tmps) then
      if E k then EffN P G w0 (fun v w => Sp k v ∧ F k v w) (execOp a.eval o) ∧ ∀ v, Sp k v → N v → wpMixW P ops E T C G w0 F Sp Q (k + 1) rest (a.put o.dst v) (fun w => Φ w ∧ F k v w) (fun u => N u ∧ Unlike v u)
      else ∃ v, (∀ w2, C w2 → (execOp a.eval o).run P w2 = .ok (.value v) w2) ∧ wpMixW P ops E T C G w0 F Sp Q (k + 1) rest (a.put o.dst v) Φ N
    else wpMixW P ops E T C G w0 F Sp Q (k + 1) rest (a.put o.dst undef) Φ N)

theorem listed_next {k : Nat} {listed : Array Bool} (hbf : ∀ j, j < k → listed.getD j true = true) : ∀ j, j < k + 1 → (listed.setIfInBounds k true).getD j true = true := fun j hj => by
  by_cases hjk : k = j
  · subst hjk
    cases hg : (listed.setIfInBounds k true).getD k true with
    | true => rfl
    | false =>
      exfalso
      rcases Nat.lt_or_ge k listed.size with h1 | h1
      · simp [h1] at hg
      · simp [h1] at hg
  · rw [getD_set_ne true hjk]; exact hbf j (by omega)

theorem wpAnyW_lex (hS : ∀ i b, ∃ v, Sp i v ∧ ∀ kb, v = .pointer (some ⟨kb, 0, none⟩) → b ≤ kb) (hGC : ∀ w, G w0 w → C w) {Q : Act → World → Prop} {n tl : Nat} (hr0 : G w0 w0) (hch : Chain md ops T n) (hwt : Waits md ops E T n) (hT : ∀ k, k < ops.size → T k = decide (tl ≤ k)) (hs : Region.noSelect ops = true) :
    ∀ (l : List Oper) (k : Nat) (listed : Array Bool) (a : Act) (Φ : World → Prop) (N : Value → Prop), Cof N → (∀ j, l[j]? = ops[k + j]?) → (∀ j, j < k → listed.getD j true = true) → Down md ops listed →
      Region.lexFrom md ops l.length k listed = true → wpMixW P ops E T C G w0 F Sp Q k l a Φ N → wpAnyW P md ops E T C G w0 F Sp Q l.length listed a Φ N
  | [], _, _, _, _, _, _, _, _, _, hB, h => ⟨by simpa [Region.lexFrom] using hB, h⟩
  | o :: l, k, listed, a, Φ, N, hC, hl, hbf, hdn, hB, h => by
    have h0 : ops[k]? = some o := by simpa using (hl 0).symm
    have hklt := (Array.getElem?_eq_some_iff.1 h0).1
    cases hkt : T k with
    | true =>
      have hB0 := hB
      simp only [List.length_cons, Region.lexFrom, Bool.and_eq_true] at hB
      obtain ⟨⟨hr, hf⟩, hB'⟩ := hB
      have hr' : k ∈ Region.ready md ops listed := by simpa using hr
      refine ⟨fun h1 => (by rw [h1] at hr'; cases hr'), fun i hi => ?_⟩
      have hti : T i = true := by
        obtain ⟨hun, oi, hoi, _⟩ := mem_ready.1 hi
        have hilt := (Array.getElem?_eq_some_iff.1 hoi).1
        have hik : k ≤ i := Nat.le_of_not_lt fun h1 => by rw [hbf i h1] at hun; cases hun
        rw [hT k hklt, decide_eq_true_eq] at hkt
        rw [hT i hilt, decide_eq_true_eq]
        omega
      refine ⟨fun _ w hg hw => ?_, fun h1 => (by rw [hti] at h1; cases h1)⟩
      unfold wpMixW at h
      have := wpAnyM_lex (md := md) hch hs (o :: l) k listed a w hl hdn (hGC w hg) hB0 (h.1 hkt w hg hw)
      exact this.2 i hi
    | false =>
      simp only [List.length_cons, Region.lexFrom, Bool.and_eq_true] at hB
      obtain ⟨⟨hr, hf⟩, hB'⟩ := hB
      have hr' : k ∈ Region.ready md ops listed := by simpa using hr
      have hm : nOp P ops E C G w0 F Sp k (wpMixW P ops E T C G w0 F Sp Q (k + 1) l) a Φ N := by
        unfold nOp
        rw [h0]
        unfold wpMixW at h
        exact h.2 hkt
      refine wpAnyW_first hS hGC hr0 hch hwt h0 hkt (Region.noSelect_spec hs) l.length listed a Φ N hC hdn (Region.free_spec h0 hf) hr' ?_
      exact nOp_mono hC (fun a' Φ' N' hC' hK => wpAnyW_lex hS hGC hr0 hch hwt hT hs l (k + 1) _ a' Φ' N' hC' (fun j => by have := hl (j + 1); simpa [Nat.add_assoc, Nat.add_comm 1 j] using this) (listed_next hbf) (hdn.ready hr') hB' hK) hm
end

structure MixW (P : Program) (ops : Array Oper) (E T : Nat → Bool) (C : World → Prop) (G : World → World → Prop) (w0 : World) (F : Nat → Value → World → Prop) (Sp : Nat → Value → Prop) (Q : Act → World → Prop) (k : Nat) (rest : List Oper) (a : Act) (Φ : World → Prop) (N : Value → Prop) : Prop where
  out : wpMixW P ops E T C G w0 F Sp Q k rest a Φ N

def waitsB (md : Region.Mode) (ops : Array Oper) (Es Ts : List Nat) (tl : Nat) : Bool :=
  ((List.range ops.size).all fun k => Ts.contains k == decide (tl ≤ k)) && (List.range ops.size).all fun t => !Ts.contains t || (List.range ops.size).all fun i => !Es.contains i || dep md ops ops.size t i
theorem waits_of {Es Ts : List Nat} {tl : Nat} (h : waitsB md ops Es Ts tl = true) : (∀ k, k < ops.size → (fun k => Ts.contains k) k = decide (tl ≤ k)) ∧ Waits md ops (fun k => Es.contains k) (fun k => Ts.contains k) ops.size := by
  unfold waitsB at h
  rw [Bool.and_eq_true, List.all_eq_true, List.all_eq_true] at h
  refine ⟨fun k hk => by simpa using h.1 k (List.mem_range.2 hk), fun t i ht hi h1 h2 => ?_⟩
  have h3 := h.2 t (List.mem_range.2 ht)
  simp only at h1 h2
  rw [h1, Bool.not_true, Bool.false_or, List.all_eq_true] at h3
  have h4 := h3 i (List.mem_range.2 hi)
  rw [h2, Bool.not_true, Bool.false_or] at h4
  exact h4

theorem wp_region_mixW {id : Nat} {l : List Oper} (Es Ts : List Nat) (tl : Nat) (C : World → Prop) (G : World → World → Prop) (F : Nat → Value → World → Prop) (Sp : Nat → Value → Prop) {Q : Exit → Act → World → Prop} {a : Act} {w : World} (hm : P.follows .mixedOrders = true)
    (hB : (Region.lexB .any l.toArray && chainB .any l.toArray Ts && waitsB .any l.toArray Es Ts tl) = true) (hGC : ∀ w', G w.drew w' → C w') (hGt : ∀ {A B C : World}, G A B → G B C → G A C) (hGr : ∀ A, G A A) (hGs : ∀ {A B : World}, G A B → A.heap.size ≤ B.heap.size) (hF : ∀ i v w w', F i v w → G w w' → F i v w') (hS : ∀ i b, ∃ v, Sp i v ∧ ∀ kb, v = .pointer (some ⟨kb, 0, none⟩) → b ≤ kb)
    (h : MixW P l.toArray (fun k => Es.contains k) (fun k => Ts.contains k) C G w.drew F Sp (fun a' w' => Q .normal a' w') 0 l a (fun _ => True) (fun _ => True)) : (Code.region id l.toArray true).wp P Q a w := by
  simp only [Region.lexB, Bool.and_eq_true] at hB
  obtain ⟨h1, h2⟩ := waits_of hB.2
  refine wp_region_any hm (wpAny_of_wpAnyW (Q := fun a' w' => Q .normal a' w') (E := fun k => Es.contains k) (T := fun k => Ts.contains k) (C := C) (w0 := w.drew) (F := F) (G := G) (Sp := Sp) hGC (fun _ _ h => h) hGt hGs hF _ _ _ _ (fun _ => True) (fun _ => True) (hGr _) trivial (fun _ _ _ _ => trivial) (fun _ _ => trivial) ?_)
  have := wpAnyW_lex (P := P) (G := G) (F := F) (Sp := Sp) hS hGC (Q := fun a' w' => Q .normal a' w') (md := .any) (hGr w.drew) (chain_of hB.1.2) h2 h1 hB.1.1.1 l 0 (Array.replicate l.toArray.size false) a (fun _ => True) (fun _ => True) Cof.all (by simp) (fun j hj => by omega) (Down.start _) (by simpa using hB.1.1.2) h.out
  simpa using this

section
variable {Es Ts : List Nat} {Q : Act → World → Prop} {o : Oper} {rest : List Oper} {a : Act} {k : Nat} {Φ : World → Prop} {N : Value → Prop}

theorem mixW_step (hk : (Es.contains k || Ts.contains k) = false) (h : ∀ K : Act → Prop, (∀ a, MixW P ops (fun k => Es.contains k) (fun k => Ts.contains k) C G w0 F Sp Q (k + 1) rest a Φ N → K a) →
      if Region.wanted o (yielded ops a.tmps) then ∃ v, (∀ w2 : Subtype C, (execOp a.eval o).run P w2.1 = .ok (.value v) w2.1) ∧ K (a.put o.dst v) else K (a.put o.dst undef)) :
    MixW P ops (fun k => Es.contains k) (fun k => Ts.contains k) C G w0 F Sp Q k (o :: rest) a Φ N := by
  have := h (fun a => wpMixW P ops (fun k => Es.contains k) (fun k => Ts.contains k) C G w0 F Sp Q (k + 1) rest a Φ N) (fun _ h => h.out)
  rw [Bool.or_eq_false_iff] at hk
  refine ⟨?_⟩
  unfold wpMixW
  refine ⟨fun h => (by rw [hk.2] at h; cases h), fun _ => ?_⟩
  simp only [hk.1]
  split
  · rename_i hw
    rw [if_pos hw] at this
    obtain ⟨v, h1, h2⟩ := this
    exact ⟨v, fun w2 hw2 => h1 ⟨w2, hw2⟩, h2⟩
  · rename_i hw
    rw [if_neg hw] at this
    exact this

/-- an effect that is made -/
theorem mixW_eff (hk : (Es.contains k && !Ts.contains k) = true) (hw : Region.wanted o (yielded ops a.tmps) = true) (he : ∀ w, G w0 w → EffR P (fun v w' => G w w' ∧ (Sp k v ∧ F k v w') ∧ Left w v w') ((execOp a.eval o).run P w))
    (h : ∀ v, Sp k v → N v → MixW P ops (fun k => Es.contains k) (fun k => Ts.contains k) C G w0 F Sp Q (k + 1) rest (a.put o.dst v) (fun w => Φ w ∧ F k v w) (fun u => N u ∧ Unlike v u)) :
    MixW P ops (fun k => Es.contains k) (fun k => Ts.contains k) C G w0 F Sp Q k (o :: rest) a Φ N := by
  rw [Bool.and_eq_true] at hk
  refine ⟨?_⟩
  unfold wpMixW
  refine ⟨fun h => (by rw [h] at hk; simp at hk), fun _ => ?_⟩
  simp only [hk.1, hw, if_true]
  exact ⟨he, fun v hv hn => (h v hv hn).out⟩

/-- the last ones: walked on by 'mix_eff' and 'mix_nil' -/
theorem mixW_tail (hk : Ts.contains k = true) (h : ∀ w, G w0 w → Φ w → MixG P ops (fun k => Ts.contains k) C Q k (o :: rest) a w) :
    MixW P ops (fun k => Es.contains k) (fun k => Ts.contains k) C G w0 F Sp Q k (o :: rest) a Φ N := by
  refine ⟨?_⟩
  unfold wpMixW
  exact ⟨fun _ w hg hw => (h w hg hw).out, fun h => (by rw [hk] at h; cases h)⟩
end
end
end Go.Mix
