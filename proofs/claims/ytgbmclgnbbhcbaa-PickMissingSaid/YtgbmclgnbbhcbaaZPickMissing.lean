/- PickMissing: whose address is not known is told by name, in order, each once; who was asked for is not told again, in whatever letters. For every input; no conditions. -/
import Derived.Test.YtgbmclgnbbhcbaaG5
import Derived.Test.YtgbmclgnbbhcbaaG6
import Derived.Deep.OwnRows
import Derived.WalkSpells
namespace Go.Proofs.Ytgbmclgnbbhcbaa.pickMissing
open Go.ChangeShapes Go.WideShapes Go.ChangeAt Go.RowKit
open Go.ChangeMaps (open_string shut_string)
set_option linter.unusedVariables false
set_option linter.unusedSimpArgs false
set_option maxRecDepth 100000

def cN (l : List (List UInt8)) : List Value := l.map fun l => .string (mk l)
/-- what the law's box holds -/
structure BX (b : Nat) (ha : Option Addr) (M hc : Nat) (H : List Bool) (W : World) : Prop where
  bx : W.heap[b]? = some (.cells #[.slice ha M hc] 47 (0, 0))
  hs : Bools W (.slice ha M hc) H
theorem BX.lt {b M hc : Nat} {ha : Option Addr} {H : List Bool} {W : World} (h : BX b ha M hc H W) : b < W.heap.size := (Array.getElem?_eq_some_iff.1 h.bx).1
theorem BX.below {b M hc : Nat} {ha : Option Addr} {H : List Bool} {W W' : World} (h : BX b ha M hc H W) (hb : Below W.heap.size W W') : BX b ha M hc H W' :=
  ⟨(hb.block b h.lt).trans h.bx, SlC.below h.hs hb (Nat.le_refl _)⟩
theorem BX.cell {b M hc : Nat} {ha : Option Addr} {H : List Bool} {W : World} (h : BX b ha M hc H W) : W.cell? ⟨b, 0, none⟩ = some (.slice ha M hc) := by
  have := h.bx
  simp [World.cell?, this]
theorem setL_ok {L : List (List UInt8)} (h : ∀ d ∈ L, d.length ≤ 1000) : ∀ r ∈ setL L, RROk r := fun r hr => by
  obtain ⟨d, h1, rfl⟩ := List.mem_map.1 hr
  have := h d h1
  exact ⟨by show (1 : Nat) ≤ maxLen; decide, by show d.length ≤ maxLen; unfold maxLen; omega⟩
theorem t1 (ha : Option Addr) (N hc : Nat) (u : Bool) (w : World) (hN : 12 < (N : Int)) (HAW : Hid (∀ W, Calls Try.prog 7 #[] W fun e w' => e = .returned (.bool true) ∧ Below W.heap.size W w')) :
    Calls Try.prog 6 #[.slice ha N hc, .bool u] w fun e w' => e = .returned (.bool true) ∧ Below w.heap.size w w' := by
  obtain ⟨X, hX⟩ : ∃ X, w.alloc (.cells #[.slice ha N hc] 47) = X := ⟨_, rfl⟩
  have hbX : Below w.heap.size w X := by rw [← hX]; exact (Below.refl _ _).alloc (Nat.le_refl _) _
  have hc0 : X.cell? ⟨w.heap.size, 0, none⟩ = some (.slice ha N hc) := by rw [← hX]; simp
  have HB := Go.Lib.hid hbX
  clear hbX
  go_enter Try.func6, Try.ntmps6
  go_wp2_with fail
  refine (HAW.out _).mono ?_; rintro e wb1 ⟨rfl, hx⟩
  have hb := HB.out.trans (hx.mono HB.out.size)
  clear HB
  have HB := Go.Lib.hid hb
  clear hx hb
  go_wp2_with fail
  go_ret
  exact ⟨rfl, HB.out⟩
/-- the two lists of the first loop -/
structure TwoL (X : World) (H : List Bool) (k : Nat) (v5 v6 : Value) (W : World) : Prop where
  o5 : W.ownsRow X.heap.size 9 1 v5 (2 * k) (cN (lM k))
  o6 : W.ownsRow X.heap.size 9 1 v6 (wM H k).length (cN ((wM H k).map nmM))
  ap : v5.ownBlock = none ∨ v5.ownBlock ≠ v6.ownBlock
  be : Below X.heap.size X W
/-- a pair put ahead -/
theorem twoPair {X W W' : World} {H : List Bool} {k : Nat} {v5 v6 v5' : Value} (h : TwoL X H k v5 v6 W) (hb : Below W.heap.size W W')
    (ho : W'.ownsRow W.heap.size 9 1 v5' (2 + 2 * k) ([.string (mk (nmM k)), .string (mk (nmM k))] ++ cN (lM k))) :
    W'.ownsRow X.heap.size 9 1 v5' (2 * (k + 1)) (cN (lM (k + 1))) ∧ W'.ownsRow X.heap.size 9 1 v6 (wM H k).length (cN ((wM H k).map nmM)) ∧ (v5'.ownBlock = none ∨ v5'.ownBlock ≠ v6.ownBlock) ∧ Below X.heap.size X W' := by
  refine ⟨?_, owns_below h.o6 hb, ?_, h.be.trans (hb.mono h.be.size)⟩
  · have h1 := owns_base ho h.be.size
    rw [show 2 + 2 * k = 2 * (k + 1) by omega] at h1
    exact h1
  · cases e : v5'.ownBlock with
    | none => exact .inl rfl
    | some g =>
      refine .inr fun e2 => ?_
      have h1 := (ho.lt g e).1
      have h2 := (h.o6.lt g e2.symm).2
      omega
/-- what the pair left -/
def Pr (X : World) (H : List Bool) (k : Nat) (v5 v6 : Value) (W : World) : Prop :=
  W.ownsRow X.heap.size 9 1 v5 (2 * (k + 1)) (cN (lM (k + 1))) ∧ W.ownsRow X.heap.size 9 1 v6 (wM H k).length (cN ((wM H k).map nmM)) ∧ (v5.ownBlock = none ∨ v5.ownBlock ≠ v6.ownBlock) ∧ Below X.heap.size X W
theorem twoSkip {X W : World} {H : List Bool} {k : Nat} {v5 v6 : Value} (p : Pr X H k v5 v6 W) (hk : H.getD k false = true) : TwoL X H (k + 1) v5 v6 W := by
  have e : wM H (k + 1) = wM H k := by rw [wM_succ, hk]; simp
  exact ⟨p.1, by rw [e]; exact p.2.1, p.2.2.1, p.2.2.2⟩
theorem twoPut {X W W' : World} {H : List Bool} {k : Nat} {v5 v6 v6' : Value} {o : Obj} (p : Pr X H k v5 v6 W) (hk : H.getD k false = false) (ho : W'.ownsRow X.heap.size 9 1 v6' ((wM H k).length + 1) (cN ((wM H k).map nmM) ++ [.string (mk (nmM k))]))
    (hg : (W.alloc o).grownBy W' v6.ownBlock) (hsn : SameOrNew (W.alloc o).heap.size v6 v6') : TwoL X H (k + 1) v5 v6' W' := by
  have e : wM H (k + 1) = wM H k ++ [k] := by rw [wM_succ, hk]; simp
  obtain ⟨p1, p2, p3, p4⟩ := p
  have hb := p4.alloc p4.size o
  refine ⟨(p1.alloc o).kept hg p3, ?_, ?_, below_app hb (p2.alloc o) hg (Nat.le_refl _) hb.size⟩
  · rw [e]
    simp only [cN, List.map_append, List.length_append, List.map_cons, List.map_nil, List.length_cons, List.length_nil] at ho ⊢
    exact ho
  · rcases hsn with h1 | ⟨g, h1, h2⟩
    · rw [h1]; exact p3
    · cases e5 : v5.ownBlock with
      | none => exact .inl rfl
      | some q =>
        refine .inr fun e6 => ?_
        have h3 := (p1.lt q e5).2
        rw [h1, Option.some.injEq] at e6
        have : (W.alloc o).heap.size = W.heap.size + 1 := World.size_alloc _ _
        omega
theorem one_cN (l : List (List UInt8)) : ∀ u ∈ cN l, u.oneCell' = true := by
  intro u hu
  obtain ⟨x, _, rfl⟩ := List.mem_map.1 hu
  rfl
theorem new_cells' (W : World) (cs : List Value) (T : TypeId) (n : Nat) (hn : W.heap.size = n) : ∀ j u, cs[j]? = some u → (W.alloc (.cells cs.toArray T)).cell? ((⟨n, 0, none⟩ : Addr).add j) = some u := by
  subst hn
  exact new_cells W cs T
set_option maxHeartbeats 8000000 in
theorem t2 (ha : Option Addr) (H : List Bool) (hc : Nat) (u : Bool) (w : World) (hH : Bools w (.slice ha H.length hc) H) (hM : H.length ≤ 12) (HAW : Hid (∀ W, Calls Try.prog 7 #[] W fun e w' => e = .returned (.bool true) ∧ Below W.heap.size W w')) :
    Calls Try.prog 6 #[.slice ha H.length hc, .bool u] w fun e w' => e = .returned (.bool true) ∧ Below w.heap.size w w' := by
  have mixed : Try.prog.follows .mixedOrders = true := by kernel_rfl
  obtain ⟨X, hX⟩ : ∃ X, w.alloc (.cells #[.slice ha H.length hc] 47) = X := ⟨_, rfl⟩
  obtain ⟨b, hbb⟩ : ∃ b, w.heap.size = b := ⟨_, rfl⟩
  have hbX : Below w.heap.size w X := by rw [← hX]; exact (Below.refl _ _).alloc (Nat.le_refl _) _
  have hbx : BX b ha H.length hc H X := ⟨by rw [← hX, ← hbb]; exact World.alloc_heap_new _ _, SlC.below hH hbX (Nat.le_refl _)⟩
  have hc0 := hbx.cell
  have htl := fun n W h => tellM_any H b ha hc n W h
  have hmiss := fun j => missM (H := H) hM u j
  have htg := targsM hM
  have hwl := wM_len H
  generalize hMM : H.length = M at *
  have g1 : ¬ 12 < (M : Int) := by omega
  have HBX := Go.Lib.hid hbX
  have HBXX := Go.Lib.hid hbx
  have HTL := Go.Lib.hid htl
  have HMISS := Go.Lib.hid hmiss
  have HTG := Go.Lib.hid htg
  have HWL := Go.Lib.hid hwl
  have HMM := Go.Lib.hid hMM
  have HH0 := Go.Lib.hid hH
  clear hbX hbx htl hmiss htg hwl hMM hH
  go_enter Try.func6, Try.ntmps6
  go_wp2_with fail
  clear hX
  try rw [hbb]
  clear hbb g1
  go_loopw [5, 6, 7] (fun v5 v6 i wr => ∃ k : Nat, i = .int .i64 k ∧ k ≤ M ∧ TwoL X H k v5 v6 wr) (fun _ _ i _ => M - (RowKit.intOf i).toNat)
  case atStart => exact ⟨0, rfl, Nat.zero_le _, ⟨World.ownsRow_nil _ _ _ _, World.ownsRow_nil _ _ _ _, .inl rfl, Below.refl _ _⟩⟩
  case round =>
    clear hc0
    obtain ⟨k, rfl, hk, hs⟩ := hrel
    have hbr := HBXX.out.below hs.be
    have c1 := hbr.cell
    obtain ⟨a5, c5, rfl, _, _⟩ := (SlC.of_owns hs.o5).slice
    obtain ⟨a6, c6, rfl, _, _⟩ := (SlC.of_owns hs.o6).slice
    by_cases hlt : k < M
    · have hlt2 : (k : Int) < (M : Int) := by omega
      obtain ⟨b0, off, rfl, hb0, hcell⟩ := Bools.at hbr.hs (by rw [HMM.out]; omega)
      have hl8 := let_u8 (k := k) (by omega)
      have hw8 := let_wrap (k := k) (by omega)
      have hnm : nmM k = [1, UInt8.ofNat (97 + k), 0] := rfl
      generalize UInt8.ofNat (97 + k) = c at *
      have hcc := c.toNat_lt
      have hw1 : IntKind.i64.wrap (97 + (k : Int)) = (c.toNat : Int) := by rw [wrapi (by omega) (by omega)]; exact hl8
      have hconv := run_conv_new wr 1 [.int .u8 c.toNat] [c] rfl rfl (by decide)
      have hcat1 : (⟨#[1]⟩ : ByteArray) ++ mk [c] = mk [1, c] := cat_mk [1] [c]
      have hcat2 : mk [1, c] ++ (⟨#[0]⟩ : ByteArray) = mk [1, c, 0] := cat_mk [1, c] [0]
      have hs1 : (mk [c]).size = 1 := rfl
      have hs2 : (mk [1, c]).size = 2 := rfl
      obtain ⟨X1, hX1⟩ : ∃ X1, wr.alloc (.cells #[.int .u8 c.toNat] 5) = X1 := ⟨_, rfl⟩
      have hb1 : Below wr.heap.size wr X1 := by rw [← hX1]; exact (Below.refl _ _).alloc (Nat.le_refl _) _
      rw [hX1] at hconv
      have hz1 : X1.heap.size = wr.heap.size + 1 := by rw [← hX1]; exact World.size_alloc _ _
      have hb2 : Below wr.heap.size wr (X1.alloc (.cells #[.string ⟨#[1, c, 0]⟩, .string ⟨#[1, c, 0]⟩] 9)) := hb1.alloc hb1.size _
      have hsl5 : SlC (X1.alloc (.cells #[.string ⟨#[1, c, 0]⟩, .string ⟨#[1, c, 0]⟩] 9)) 1 _ (2 * k) (cN (lM k)) := (SlC.of_owns hs.o5).below hb2 (Nat.le_refl _)
      have hown2 : (X1.alloc (.cells #[.string ⟨#[1, c, 0]⟩, .string ⟨#[1, c, 0]⟩] 9)).ownsRow wr.heap.size 9 1 (.slice (some ⟨wr.heap.size + 1, 0, none⟩) 2 2) 2 [.string (mk [1, c, 0]), .string (mk [1, c, 0])] := by
        rw [← hz1]
        exact ⟨rfl, .inr ⟨X1.heap.size, 2, _, rfl, hb1.size, World.alloc_heap_new _ _, Nat.le_refl _, by decide, rfl, rfl⟩⟩
      have hone5 := one_cN (lM k)
      have hpair := fun W' v5' h1 h2 => twoPair (W' := W') (v5' := v5') hs h1 h2
      rw [hnm] at hpair
      have hz6 := HWL.out k
      have hfin := fun W' v5' (p : Pr X H k v5' (.slice a6 (wM H k).length c6) W') => (⟨(HBXX.out.below p.2.2.2).cell, by
        have h := hcell k (by rw [HMM.out]; exact hlt)
        have h2 : BX b (some ⟨b0, off, none⟩) M hc H W' := HBXX.out.below p.2.2.2
        obtain ⟨b1, off1, e, _, hc1⟩ := Bools.at h2.hs (by rw [HMM.out]; omega)
        simp only [Option.some.injEq, Addr.mk.injEq, and_true] at e
        obtain ⟨rfl, rfl⟩ := e
        exact hc1 k (by rw [HMM.out]; exact hlt)⟩ : W'.cell? ⟨b, 0, none⟩ = some (.slice (some ⟨b0, off, none⟩) M hc) ∧ W'.cell? ⟨b0, off + k, none⟩ = some (.bool (H.getD k false)))
      have hput := fun W W' v5' v6' o p h1 h2 h3 h4 => twoPut (X := X) (H := H) (k := k) (v5 := v5') (v6 := .slice a6 (wM H k).length c6) (W := W) (W' := W') (v6' := v6') (o := o) p h1 h2 h3 h4
      have hskip := fun W v5' p h => twoSkip (X := X) (H := H) (k := k) (v5 := v5') (v6 := .slice a6 (wM H k).length c6) (W := W) p h
      rw [hnm] at hput
      have hb2z := hb2.size
      have HS := Go.Lib.hid hs
      have HBR := Go.Lib.hid hbr
      have HNM := Go.Lib.hid hnm
      have HL8 := Go.Lib.hid hl8
      have HX1 := Go.Lib.hid hX1
      have HB1 := Go.Lib.hid hb1
      have HB2 := Go.Lib.hid hb2
      have HSL5 := Go.Lib.hid hsl5
      have HOWN2 := Go.Lib.hid hown2
      have HONE5 := Go.Lib.hid hone5
      have HPAIR := Go.Lib.hid hpair
      have HFIN := Go.Lib.hid hfin
      have HPUT := Go.Lib.hid hput
      have HSKIP := Go.Lib.hid hskip
      clear hs hbr hnm hl8 hX1 hb1 hb2 hsl5 hown2 hone5 hpair hfin hput hskip
      clear hcell
      cases hHk : H.getD k false with
      | true =>
        have HHK := Go.Lib.hid hHk
        clear hHk
        go_wp2_with (first | (rw [HX1.out]) | (at_builtin; refine wpList_app eiS (.tmp 35) (.tmp 36) rfl rfl wr.heap.size rfl rfl HOWN2.out HSL5.out HONE5.out (by unfold maxLen; omega) (by omega) HB2.out.size ?_; intro v5' W5 hown5 hg5; have hb5 := below_app HB2.out HOWN2.out hg5 (Nat.le_refl _) HB2.out.size; have hp := HPAIR.out _ _ hb5 hown5; obtain ⟨q1, q2⟩ := HFIN.out _ _ hp; rw [HHK.out] at q2; have HP := Go.Lib.hid hp; clear hb5 hown5 hg5 hp))
        go_roundw
        case rel => exact ⟨k + 1, by go_num, by omega, HSKIP.out _ _ HP.out HHK.out⟩
        case measure => simp [RowKit.intOf]; omega
      | false =>
        have HHK := Go.Lib.hid hHk
        clear hHk
        go_wp2_with (first | (rw [HX1.out]) | (at_builtin; refine wpList_app eiS (.tmp 35) (.tmp 36) rfl rfl wr.heap.size rfl rfl HOWN2.out HSL5.out HONE5.out (by unfold maxLen; omega) (by omega) HB2.out.size ?_; intro v5' W5 hown5 hg5; have hb5 := below_app HB2.out HOWN2.out hg5 (Nat.le_refl _) HB2.out.size; have hp := HPAIR.out _ _ hb5 hown5; obtain ⟨q1, q2⟩ := HFIN.out _ _ hp; rw [HHK.out] at q2; have HP := Go.Lib.hid hp; clear hb5 hown5 hg5 hp) | (at_builtin; refine wpList_app1 eiS (.tmp 43) (.tmp 45) rfl rfl X.heap.size rfl rfl (HP.out.2.1.alloc _) (news := [.string (mk [1, c, 0])]) rfl (new_cells _ _ _) (fun u hu => by rw [List.mem_singleton] at hu; subst hu; rfl) (by unfold maxLen; omega) (by omega) ?hbase ?_; rotate_right; intro v6' W6 hown6 hg6 hsn6; have HT := Go.Lib.hid (HPUT.out _ _ _ _ _ HP.out HHK.out hown6 hg6 hsn6); clear hown6 hg6 hsn6))
        case hbase => have := HP.out.2.2.2.size; simp; omega
        go_roundw
        case rel => exact ⟨k + 1, by go_num, by omega, HT.out⟩
        case measure => simp [RowKit.intOf]; omega
    · obtain rfl : k = M := by omega
      generalize wr = W1 at *
      have hst5 : ∀ W, Below W1.heap.size W1 W → Strs W (.slice a5 (2 * k) c5) (lM k) := fun W h => by
        have h1 := (SlC.of_owns hs.o5).below h (Nat.le_refl _)
        unfold Strs
        rw [lM_len]
        exact h1
      have hset : ∀ W, Below W1.heap.size W1 W → Calls Try.prog 15 #[.slice a5 (2 * k) c5] W (RetSet W (lM k)) := fun W h => by
        have h1 := set_any (lM k) a5 c5 W (by rw [lM_len]; exact hst5 W h) (by rw [lM_len]; omega)
        rw [lM_len] at h1
        exact h1
      have hL12 : ∀ x ∈ wM H k, x < 12 := fun x hx => by have := wM_mem hx; omega
      have hst6 := (SlC.of_owns hs.o6)
      have hbw := HBX.out.trans (hs.be.mono HBX.out.size)
      have hmiss := HMISS.out
      have hz6 := HWL.out k
      generalize hLL : wM H k = L at *
      have hmc : ∀ W a c j a2 c2, Below W1.heap.size W1 W → RRs W (.slice a (setL (lM k)).length c) (setL (lM k)) → j ≤ L.length → Strs W (.slice a2 j c2) ((L.take j).map (upM u)) →
          Calls Try.prog 17 #[setV [0] 2 (.slice a (setL (lM k)).length c) 0 [0], .func (.func 19) #[] #[.pointer (some ⟨b, 0, none⟩)], .slice a2 j c2] W fun e w' => e = .returned (retM ((L[j]?).map nmM)) ∧ Below W.heap.size W w' := by
        intro W a c j a2 c2 h1 h2 h3 h4
        have hl : ((L.take j).map (upM u)).length = j := by rw [List.length_map, List.length_take]; omega
        have hbx2 := hbr.below h1
        have h5 := Missing_any [0] 2 0 [0] (setL (lM k)) a c 19 #[.pointer (some ⟨b, 0, none⟩)] (tellM H) ((L.take j).map (upM u)) a2 c2 W h2
          (setL_ok fun d hd => by
            obtain ⟨i, hi, rfl⟩ := (lM_mem k d).1 hd
            show (3 : Nat) ≤ 1000
            decide) (by unfold setL; rw [List.length_map, lM_len]; omega) (enters_of Try.func19 (by kernel_rfl) rfl)
          (fun n hn => HTL.out n W hbx2.bx hbx2.hs (by omega)) (fun n hn => by have := tellM_len H n; omega) (by rw [hl]; exact h4) (by rw [hl]; omega) (fun x hx => by
            obtain ⟨i, hi, rfl⟩ := List.mem_map.1 hx
            have : (upM u i).length = 3 := by unfold upM nmM; split <;> rfl
            rw [this]; decide)
        rw [hl, hmiss] at h5
        exact h5
      obtain ⟨Z, hZ⟩ : ∃ Z, L.length = Z := ⟨_, rfl⟩
      have hR := setL (lM k)
      rw [hZ] at hst6 hz6 ⊢
      rw [hZ] at hmc
      have hs6 : Strs W1 (.slice a6 Z c6) (L.map nmM) := by
        unfold Strs
        rw [List.length_map, hZ]
        exact hst6
      have HS := Go.Lib.hid hs
      have HBR := Go.Lib.hid hbr
      have HSET := Go.Lib.hid hset
      have HL12 := Go.Lib.hid hL12
      have HS6 := Go.Lib.hid hs6
      have HBW := Go.Lib.hid hbw
      have HMC := Go.Lib.hid hmc
      have HZ := Go.Lib.hid hZ
      have HLL := Go.Lib.hid hLL
      clear hs hbr hset hL12 hs6 hbw hmc hZ hLL
      clear hR hst5 hst6 hmiss HMISS
      go_wp2_with fail
      go_loopw [10, 11] (fun v i wq => ∃ j : Nat, i = .int .i64 j ∧ j ≤ Z ∧ wq.ownsRow W1.heap.size 9 1 v j (cN ((L.take j).map (upM u))) ∧ Below W1.heap.size W1 wq) (fun _ i _ => Z - (RowKit.intOf i).toNat)
      case atStart => exact ⟨0, rfl, Nat.zero_le _, World.ownsRow_nil _ _ _ _, Below.refl _ _⟩
      case round =>
        obtain ⟨j, rfl, hj, hown, hb⟩ := hrel
        generalize wr = wq at *
        obtain ⟨a10, c10, rfl, _, _⟩ := (SlC.of_owns hown).slice
        have hsq := HSET.out wq hb
        have hlt : ((L.take j).map (upM u)).length = j := by rw [List.length_map, List.length_take, HZ.out]; omega
        have hstq : Strs wq (.slice a10 j c10) ((L.take j).map (upM u)) := by
          unfold Strs
          rw [hlt]
          exact SlC.of_owns hown
        by_cases hjz : j < Z
        · have hjz2 : (j : Int) < (Z : Int) := by omega
          have hjl : j < L.length := by rw [HZ.out]; exact hjz
          have hsome : L[j]? = some (L.getD j 0) := by rw [List.getD_eq_getElem?_getD, List.getElem?_eq_getElem hjl]; rfl
          have hi12 := HL12.out (L.getD j 0) (by rw [List.getD_eq_getElem?_getD, List.getElem?_eq_getElem hjl]; exact List.getElem_mem _)
          have htk : (L.take (j + 1)).map (upM u) = (L.take j).map (upM u) ++ [upM u (L.getD j 0)] := by
            rw [List.take_succ_eq_append_getElem hjl, List.map_append, List.getD_eq_getElem?_getD, List.getElem?_eq_getElem hjl]; rfl
          obtain ⟨b6, off6, rfl, hb6, hcell6⟩ := Strs.at HS6.out (by rw [List.length_map, HZ.out]; omega)
          have f6 := hcell6 j (by rw [List.length_map]; exact hjl)
          have e6 : (L.map nmM).getD j [] = nmM (L.getD j 0) := by rw [List.getD_eq_getElem?_getD, List.getElem?_map, hsome]; rfl
          rw [e6] at f6
          generalize L.getD j 0 = i at *
          have hup : upM u i = if u then [1, UInt8.ofNat (65 + i), 0] else nmM i := rfl
          have hnm : nmM i = [1, UInt8.ofNat (97 + i), 0] := rfl
          have hdc : (UInt8.ofNat (65 + i)).toNat + 32 = (UInt8.ofNat (97 + i)).toNat := by rw [UInt8.toNat_ofNat', UInt8.toNat_ofNat']; omega
          have hc97 : 97 ≤ (UInt8.ofNat (97 + i)).toNat := by rw [UInt8.toNat_ofNat']; omega
          rw [hnm] at f6 hup
          generalize UInt8.ofNat (97 + i) = c at *
          generalize UInt8.ofNat (65 + i) = d at *
          have hmq := fun W a c' h1 h2 => HMC.out W a c' j a10 c10 h1 h2 hj
          rw [hsome] at hmq
          have hret : retM ((some i).map nmM) = .tuple #[.string (mk [1, c, 0]), .bool true] := by unfold retM; rw [Option.map_some, hnm]; rfl
          rw [hret] at hmq
          have q0 : ((mk [1, c, 0]).toList == (mk [1, c, 0]).toList) = true := beq_mk_true rfl
          have HOWN := Go.Lib.hid hown
          have HBQ := Go.Lib.hid hb
          have HSQ := Go.Lib.hid hsq
          have HSTQ := Go.Lib.hid hstq
          have HUP := Go.Lib.hid hup
          have HNM := Go.Lib.hid hnm
          have HMQ := Go.Lib.hid hmq
          have HTK := Go.Lib.hid htk
          have HDC := Go.Lib.hid hdc
          have HSOME := Go.Lib.hid hsome
          clear hown hb hsq hstq hup hnm hmq htk hdc hsome
          clear hcell6 hret e6 hlt
          go_wp2_with fail
          refine HSQ.out.mono ?_; rintro e W2 ⟨a2, c2, rfl, hrr, hb2⟩
          have hb12 := HBQ.out.trans (hb2.mono HBQ.out.size)
          have hm2 := HMQ.out W2 a2 c2 hb12 hrr (SlC.below HSTQ.out hb2 (Nat.le_refl _))
          have ho2 := owns_below HOWN.out hb2
          have HB12 := Go.Lib.hid hb12
          have HM2 := Go.Lib.hid hm2
          have HO2 := Go.Lib.hid ho2
          clear hb12 hm2 ho2
          clear hrr hb2 HSQ
          go_wp2_with fail
          refine HM2.out.mono ?_; rintro e W3 ⟨rfl, hb3⟩
          have hb13 := HB12.out.trans (hb3.mono HB12.out.size)
          have g6 : W3.cell? ⟨b6, off6 + j, none⟩ = some (.string (mk [1, c, 0])) := (hb13.cell (p := ⟨b6, off6 + j, none⟩) hb6).trans f6
          have ho3 := owns_below HO2.out hb3
          have hz3 := hb13.size
          have HB13 := Go.Lib.hid hb13
          have HO3 := Go.Lib.hid ho3
          clear hb13 ho3
          clear hb3 HM2 HO2
          cases u with
          | false =>
            go_wp2_with (at_builtin; refine wpList_app1 eiS (.tmp 78) (.tmp 80) rfl rfl W1.heap.size rfl rfl (HO3.out.alloc _) (news := [.string (mk [1, c, 0])]) rfl (new_cells _ _ _) (fun u hu => by rw [List.mem_singleton] at hu; subst hu; rfl) (by unfold maxLen; omega) (by omega) (by simp; omega) ?_; intro v5 W5 hown5 hg5 hsn5)
            have hb5 := below_app (HB13.out.alloc hz3 _) (HO3.out.alloc _) hg5 (Nat.le_refl _) (by simp; omega)
            go_roundw
            case rel => exact ⟨j + 1, by go_num, by omega, by rw [HTK.out, HUP.out]; simp only [cN, List.map_append] at hown5 ⊢; exact hown5, hb5⟩
            case measure => simp [RowKit.intOf]; omega
          | true =>
            have hs3 : (1 : Int) < ((mk [1, c, 0]).size : Int) := by show (1 : Int) < 3; omega
            have hget : ∀ h, (mk [1, c, 0])[1]'h = c := fun _ => rfl
            have hcl := c.toNat_lt
            have hsub : (c.toNat : Int) - 32 = (d.toNat : Int) := by have := HDC.out; omega
            have hmod : (d.toNat : Int) % 256 = (d.toNat : Int) := by have := d.toNat_lt; omega
            have hconv := run_conv_new W3 3 [.int .u8 1, .int .u8 d.toNat, .int .u8 0] [1, d, 0] rfl rfl (by decide)
            have ho4 := HO3.out.alloc (.cells #[.int .u8 1, .int .u8 d.toNat, .int .u8 0] 5)
            have hb14 := HB13.out.alloc hz3 (.cells #[.int .u8 1, .int .u8 d.toNat, .int .u8 0] 5)
            have hz4 := hb14.size
            have HO4 := Go.Lib.hid ho4
            have HB14 := Go.Lib.hid hb14
            clear ho4 hb14
            go_wp2_with (at_builtin; refine wpList_app1 eiS (.tmp 78) (.tmp 80) rfl rfl W1.heap.size rfl rfl (HO4.out.alloc _) (news := [.string (mk [1, d, 0])]) rfl (new_cells' _ _ _ _ (by simp)) (fun u hu => by rw [List.mem_singleton] at hu; subst hu; rfl) (by unfold maxLen; omega) (by omega) (by simp; omega) ?_; intro v5 W5 hown5 hg5 hsn5)
            have hb5 := below_app (HB14.out.alloc hz4 _) (HO4.out.alloc _) hg5 (Nat.le_refl _) (by simp; omega)
            go_roundw
            case rel => exact ⟨j + 1, by go_num, by omega, by rw [HTK.out, HUP.out]; simp only [cN, List.map_append] at hown5 ⊢; exact hown5, hb5⟩
            case measure => simp [RowKit.intOf]; omega
        · obtain rfl : j = Z := by omega
          have hnone : L[j]? = none := List.getElem?_eq_none (by rw [HZ.out]; exact Nat.le_refl _)
          have hmq := fun W a c' h1 h2 => HMC.out W a c' j a10 c10 h1 h2 (Nat.le_refl _)
          rw [hnone] at hmq
          have hret : retM ((none : Option Nat).map nmM) = .tuple #[.string ⟨#[]⟩, .bool false] := rfl
          rw [hret] at hmq
          have HB := HBW
          have HBQ := Go.Lib.hid hb
          have HSQ := Go.Lib.hid hsq
          have HSTQ := Go.Lib.hid hstq
          have HMQ := Go.Lib.hid hmq
          clear hb hsq hstq hmq
          clear hret hown hnone
          go_wp2_with fail
          refine HSQ.out.mono ?_; rintro e W2 ⟨a2, c2, rfl, hrr, hb2⟩
          have hb12 := HBQ.out.trans (hb2.mono HBQ.out.size)
          have hm2 := HMQ.out W2 a2 c2 hb12 hrr (SlC.below HSTQ.out hb2 (Nat.le_refl _))
          have HB12 := Go.Lib.hid hb12
          have HM2 := Go.Lib.hid hm2
          clear hb12 hm2
          clear hrr hb2 HSQ
          go_wp2_with fail
          refine HM2.out.mono ?_; rintro e W3 ⟨rfl, hb3⟩
          have hb13 := HB12.out.trans (hb3.mono HB12.out.size)
          have hbw3 := HBW.out.trans (hb13.mono HBW.out.size)
          have HBW3 := Go.Lib.hid hbw3
          clear hbw3
          clear hb3 HM2 hb13
          go_wp2_with fail
          refine (HAW.out _).mono ?_; rintro e W9 ⟨rfl, hb9⟩
          have hbz := HBW3.out.trans (hb9.mono HBW3.out.size)
          have HBZ := Go.Lib.hid hbz
          clear hbz
          clear hb9
          go_wp2_with fail
          go_ret
          exact ⟨rfl, HBZ.out⟩
theorem walk (ha : Option Addr) (H : List Bool) (hc : Nat) (u : Bool) (w : World) (hH : SlC w 1 (.slice ha H.length hc) H.length (H.map Value.bool)) :
    Calls Try.prog 6 #[.slice ha H.length hc, .bool u] w fun e w' => e = .returned (.bool true) ∧ Below w.heap.size w w' := by
  have haw := Go.Lib.hid awake_any
  by_cases hbad : 12 < H.length
  · exact t1 ha H.length hc u w (by omega) haw
  · exact t2 ha H hc u w hH (by omega) haw

set_option maxRecDepth 100000 in
theorem lifted (os : Os) (started : os.Started) (H : Type) (enc : TypeId × Value → H) :
    ReturnsInHanded {} Try.checked os 6 .any (Rows.pickMissingSpec.pre6 enc Try.prog Try.f6 Rows.pickMissingRow.domain false) (Rows.pickMissingSpec.post enc Try.prog Try.f6 false true false false) := by
  refine returnsInHanded_of_change (C := Try.checked) own started (by kernel_rfl) Try.func6
    (ChangeSpec.witness6 (enc := enc) (C := Try.checked) false ⟨#[], #[.slice none 0 0, .bool false], []⟩ 8 (by kernel_rfl) (by kernel_rfl) (by kernel_rfl) (by kernel_rfl)) ?_
  intro W base args ds gs before hval0 hW hcnd _
  have hval : ∀ (j : Nat) t v, Try.f6.params[j]? = some t → args[j]? = some v → Value.okWide Try.prog W .any base t v := hval0
  refine law_post enc 2 (by kernel_rfl) rfl rfl (by kernel_rfl) (fun ds h => match ds, h with | [_, _], _ => rfl) hW ?_
  obtain ⟨p, q, hA0, hV, rfl, _, _⟩ := hW
  have hA : DataW.TrodAll enc Try.prog W 0 (fun _ => true) true Try.f6.params.toList args.toList ds p := hA0
  rw [Try.params6] at hA hval
  obtain ⟨v0, vs0, d0, ds0, p0, q0, hargs, rfl, rfl, h0, r0⟩ := trodAll_cons hA
  obtain ⟨v1, vs1, d1, ds1, p1, q1, rfl, rfl, rfl, h1, r1⟩ := trodAll_cons r0
  obtain ⟨rfl, rfl, rfl⟩ := trodAll_nil r1
  obtain rfl : args = #[v0, v1] := by cases args; simp_all
  obtain ⟨a0, z0, c0, rfl, l0⟩ := open_Bools (hval 0 47 v0 rfl rfl) h0
  obtain ⟨a1, rfl, rfl, rfl⟩ := open_bool Try.underlying4 (hval 1 4 v1 rfl rfl) h1
  exact walk a0 z0 c0 a1 W l0

theorem over : Rows.pickMissingRow.holds Try.pinned (OpenSpec.ofChange Rows.pickMissingSpec) :=
  OpenClaim.holds_of_wide 6 Try.f6 rfl rfl rfl rfl rfl rfl rfl ⟨rfl, rfl, rfl, rfl, rfl⟩ rfl rfl rfl rfl rfl (by kernel_rfl) Try.func6 (by kernel_rfl)
    (of_decide_eq_true (by kernel_rfl)) (by unfold Func.isWrapper; first | (rw [if_pos (by decide +kernel)]; kernel_rfl) | (rw [if_neg (by decide +kernel)]; exact ⟨rfl, rfl⟩))
    (fun os started H enc _ => lifted os started H enc)

/-- the statement -/
theorem proved : Rows.PickMissingSaid := over
#print axioms proved
end Go.Proofs.Ytgbmclgnbbhcbaa.pickMissing
