/- The closures of match.groups, and slices.IndexFunc at groups. -/
import Derived.Test.YtcamopppeanipaaRR
namespace Go.Proofs.Ytcamopppeanipaa
open Go.RowKit Go.Shelf Go.Sq
set_option linter.unusedVariables false

/-- a key and its records -/
structure Gr where
  name : List UInt8
  ty : Int
  l : List Rc.RR

set_option maxRecDepth 100000 in
set_option maxHeartbeats 1000000 in
theorem g1_any (a : List UInt8) (ta : Int) (v : Value) (kb : Nat) (b : List UInt8) (tb : Int) (w : World) (h1 : w.cell? ⟨kb, 0, none⟩ = some (.string (mk b))) (h2 : w.cell? ⟨kb, 1, none⟩ = some (.int .i64 tb)) (hk : kb < w.heap.size) :
    Calls Try.prog 44 #[.agg #[.string (mk a), .int .i64 ta, v], .pointer (some ⟨kb, 0, none⟩)] w fun e w' => e = .returned (.bool ((a == b) && (ta == tb))) ∧ Below w.heap.size w w' := by
  have e1 := ((Below.refl _ w).alloc (Nat.le_refl _) (.cells #[.string (mk a), .int .i64 ta, v] 71)).cell (p := ⟨kb, 0, none⟩) hk
  have e2 := ((Below.refl _ w).alloc (Nat.le_refl _) (.cells #[.string (mk a), .int .i64 ta, v] 71)).cell (p := ⟨kb, 1, none⟩) hk
  rw [h1] at e1
  rw [h2] at e2
  clear h1 h2
  by_cases hab : a = b
  · subst hab
    by_cases ht : ta = tb
    · subst ht
      go_enter Try.func44, Try.ntmps44
      go_wp2
      go_ret
      exact ⟨ret_bool (by simp), (Below.refl _ w).alloc (Nat.le_refl _) _⟩
    · go_enter Try.func44, Try.ntmps44
      go_wp2
      go_ret
      exact ⟨ret_bool (by simp [ht]), (Below.refl _ w).alloc (Nat.le_refl _) _⟩
  · have hne : ¬ (mk a).toList = (mk b).toList := by rw [toList_bl, toList_bl, bl_mk, bl_mk]; exact hab
    have hne2 : ((mk a).toList == (mk b).toList) = false := by rw [eqs, beq_eq_false_iff_ne]; exact hab
    have hne3 : ¬ mk a = mk b := fun e => hab (by rw [← bl_mk a, ← bl_mk b, e])
    go_enter Try.func44, Try.ntmps44
    go_wp2
    go_ret
    exact ⟨ret_bool (by simp [hab]), (Below.refl _ w).alloc (Nat.le_refl _) _⟩

set_option maxRecDepth 100000 in
set_option maxHeartbeats 1000000 in
theorem g2_any (x r : Rc.RR) (rb : Nat) (w : World) (hx : RROk x) (hr : RROk r) (h : RRAt w rb 0 r) (hk : rb < w.heap.size) :
    Calls Try.prog 46 #[rrV x, .pointer (some ⟨rb, 0, none⟩)] w fun e w' => e = .returned (.bool (Rc.sameRR x r)) ∧ Below w.heap.size w w' := by
  have hs := fun w => recSame_any x r w hx hr
  have hc := h.below ((Below.refl _ w).alloc (Nat.le_refl _) (.cells #[.string (mk x.name), .int .i64 x.ty, .int .i64 x.cl, .int .i64 x.ttl, .string (mk x.data)] 49)) hk
  obtain ⟨c0, c1, c2, c3, c4⟩ := hc
  simp only [Nat.zero_add] at c1 c2 c3 c4
  have HS := Go.Lib.hid hs
  clear hs
  clear h hx hr
  go_enter Try.func46, Try.ntmps46
  go_wp2_with fail
  refine (HS.out _).mono ?_; rintro e wb ⟨rfl, hb⟩
  have HB := Go.Lib.hid hb
  clear hb
  go_wp2_with fail
  go_ret
  exact ⟨rfl, ((Below.refl _ w).alloc (Nat.le_refl _) _).trans (HB.out.mono (by simp))⟩

/-! ### groups in memory -/
def encG (gs : List Gr) (vs : List Value) : List Value := (gs.zip vs).flatMap fun p => [.string (mk p.1.name), .int .i64 p.1.ty, p.2]
theorem encG_snoc {gs : List Gr} {vs : List Value} (h : vs.length = gs.length) (g : Gr) (v : Value) : encG (gs ++ [g]) (vs ++ [v]) = encG gs vs ++ [.string (mk g.name), .int .i64 g.ty, v] := by
  unfold encG
  rw [List.zip_append h.symm]
  simp
theorem encG_length : ∀ (gs : List Gr) (vs : List Value), vs.length = gs.length → (encG gs vs).length = gs.length * 3
  | [], [], _ => rfl
  | [], _ :: _, h => by simp at h
  | _ :: _, [], h => by simp at h
  | g :: gs, v :: vs, h => by
    have := encG_length gs vs (by simpa using h)
    have e : encG (g :: gs) (v :: vs) = [.string (mk g.name), .int .i64 g.ty, v] ++ encG gs vs := rfl
    rw [e, List.length_append, this]
    simp
    omega
def g0 : Gr := ⟨[], 0, []⟩
def nilV : Value := .slice none 0 0
theorem encG_get : ∀ (gs : List Gr) (vs : List Value) (j : Nat), vs.length = gs.length → j < gs.length → (encG gs vs)[j * 3]? = some (.string (mk (gs.getD j g0).name)) ∧ (encG gs vs)[j * 3 + 1]? = some (.int .i64 (gs.getD j g0).ty) ∧ (encG gs vs)[j * 3 + 2]? = some (vs.getD j nilV)
  | [], _, j, _, h => by simp at h
  | _ :: _, [], _, h, _ => by simp at h
  | g :: gs, v :: vs, 0, _, _ => ⟨rfl, rfl, rfl⟩
  | g :: gs, v :: vs, j + 1, hl, h => by
    have := encG_get gs vs j (by simpa using hl) (by simpa using h)
    have e : encG (g :: gs) (v :: vs) = [.string (mk g.name), .int .i64 g.ty, v] ++ encG gs vs := rfl
    have key : ∀ i, (encG (g :: gs) (v :: vs))[(j + 1) * 3 + i]? = (encG gs vs)[j * 3 + i]? := fun i => by
      rw [e, List.getElem?_append_right (by simp; omega)]
      congr 1
      simp
      omega
    have k0 := key 0
    simp only [Nat.add_zero] at k0
    rw [k0, key 1, key 2]
    simpa using this

/-- an owned list of groups, each of whose lists is owned, all in blocks of their own -/
structure OwnsG (w : World) (base : Nat) (v : Value) (gs : List Gr) (vs : List Value) : Prop where
  len : vs.length = gs.length
  row : w.ownsRow base 71 3 v gs.length (encG gs vs)
  each : ∀ i, i < gs.length → w.ownsRow base 49 5 (vs.getD i nilV) (gs.getD i g0).l.length (encR (gs.getD i g0).l)
  apart : ∀ i j, i < gs.length → j < gs.length → i ≠ j → (vs.getD i nilV).ownBlock = none ∨ (vs.getD i nilV).ownBlock ≠ (vs.getD j nilV).ownBlock
theorem OwnsG.nil (w : World) (base : Nat) : OwnsG w base nilV [] [] := ⟨rfl, World.ownsRow_nil _ _ _ _, fun i h => by simp at h, fun i j h => by simp at h⟩
theorem OwnsG.below {w w' : World} {base : Nat} {v : Value} {gs : List Gr} {vs : List Value} (h : OwnsG w base v gs vs) (hb : Below w.heap.size w w') : OwnsG w' base v gs vs := by
  have hg : w.grownBy w' none := ⟨hb.os, hb.tape, hb.output, hb.size, fun k hk _ => hb.block k hk⟩
  exact ⟨h.len, h.row.kept hg (by cases Value.ownBlock _ <;> simp), fun i hi => (h.each i hi).kept hg (by cases Value.ownBlock _ <;> simp), h.apart⟩
/-- the cells of a group, where it lies -/
theorem ownsG_at {w : World} {base cap m : Nat} {a : Option Addr} {gs : List Gr} {vs : List Value} (h : OwnsG w base (.slice a m cap) gs vs) {k : Nat} (hk : k < gs.length) :
    m = gs.length ∧ ∃ g cur, a = some ⟨g, 0, none⟩ ∧ base ≤ g ∧ w.heap[g]? = some (.cells cur 71 (0, 0)) ∧ w.cell? ⟨g, k * 3, none⟩ = some (.string (mk (gs.getD k g0).name)) ∧ w.cell? ⟨g, k * 3 + 1, none⟩ = some (.int .i64 (gs.getD k g0).ty) ∧
      w.cell? ⟨g, k * 3 + 2, none⟩ = some (vs.getD k nilV) := by
  have hs := SlC.of_owns h.row
  obtain ⟨hm, b, off, ha, _, hc⟩ := SlC.at hs (by omega)
  obtain ⟨h1, h2⟩ := h.row
  rcases h2 with ⟨hv, h0⟩ | ⟨g, cap', cur, hv, hb, hg, _⟩
  · simp only [Value.slice.injEq] at hv
    omega
  · simp only [Value.slice.injEq] at hv
    obtain ⟨hv1, _, _⟩ := hv
    rw [hv1] at ha
    simp only [Option.some.injEq, Addr.mk.injEq] at ha
    obtain ⟨rfl, rfl, _⟩ := ha
    obtain ⟨e0, e1, e2⟩ := encG_get gs vs k h.len hk
    refine ⟨hm, g, cur, hv1, hb, hg, ?_, ?_, ?_⟩
    · have := hc (k * 3) (by omega); rw [Nat.zero_add] at this; rw [this, e0]
    · have := hc (k * 3 + 1) (by omega); rw [Nat.zero_add] at this; rw [this, e1]
    · have := hc (k * 3 + 2) (by omega); rw [Nat.zero_add] at this; rw [this, e2]

set_option maxRecDepth 100000 in
set_option maxHeartbeats 2000000 in
theorem idxG_any (kb : Nat) (kn : List UInt8) (kt : Int) (base : Nat) (a : Option Addr) (m cap : Nat) (gs : List Gr) (vs : List Value) (w : World) (hst : OwnsG w base (.slice a m cap) gs vs) (hn : gs.length ≤ 1099511627776)
    (h1 : w.cell? ⟨kb, 0, none⟩ = some (.string (mk kn))) (h2 : w.cell? ⟨kb, 1, none⟩ = some (.int .i64 kt)) (hkb : kb < w.heap.size) :
    Calls Try.prog 43 #[.slice a m cap, .func (.func 44) #[] #[.pointer (some ⟨kb, 0, none⟩)]] w fun e w' =>
      e = .returned (.int .i64 (idx (fun g : Gr => (g.name == kn) && (g.ty == kt)) gs)) ∧ Below w.heap.size w w' := by
  have HB := Go.Lib.hid (Below.refl w.heap.size w)
  have hm : m = gs.length := ((SlC.of_owns hst.row).cap).1
  subst hm
  have HST := Go.Lib.hid hst
  have H1 := Go.Lib.hid h1
  have H2 := Go.Lib.hid h2
  clear hst h1 h2
  obtain ⟨p, hp⟩ : ∃ p, (fun g : Gr => (g.name == kn) && (g.ty == kt)) = p := ⟨_, rfl⟩
  rw [hp]
  have HP := Go.Lib.hid hp
  clear hp
  generalize hN : gs.length = N at *
  have HN := Go.Lib.hid hN
  clear hN
  go_enter Try.func43, Try.ntmps43
  go_wp2_with fail
  go_loopw [8] (fun i wr => ∃ k : Nat, i = .int .i64 k ∧ k ≤ N ∧ (∀ x ∈ gs.take k, p x = false) ∧ Below w.heap.size w wr) (fun i _ => N - (intOf i).toNat)
  case atStart => exact ⟨0, rfl, by omega, by simp, HB.out⟩
  case round =>
    obtain ⟨k, rfl, hk, hall, hbr⟩ := hrel
    clear HB
    have hix := idx_drop p gs k hall
    have HALL := Go.Lib.hid hall
    have HB := Go.Lib.hid hbr
    have HIX := Go.Lib.hid hix
    clear hall hbr hix
    by_cases hlt : k < N
    · have hst := HST.out.below HB.out
      obtain ⟨hmm, g, cur, rfl, hbg, hgh, e0, e1, e2⟩ := ownsG_at hst (k := k) (by rw [HN.out]; exact hlt)
      have hcl := g1_any (gs.getD k g0).name (gs.getD k g0).ty (vs.getD k nilV) kb kn kt wr ((HB.out.cell (p := ⟨kb, 0, none⟩) hkb).trans H1.out) ((HB.out.cell (p := ⟨kb, 1, none⟩) hkb).trans H2.out) (Nat.lt_of_lt_of_le hkb HB.out.size)
      have hpr : ((gs.getD k g0).name == kn && (gs.getD k g0).ty == kt) = p (gs.getD k g0) := by rw [← HP.out]
      rw [hpr] at hcl
      have hdr : gs.drop k = gs.getD k g0 :: gs.drop (k + 1) := by
        rw [List.drop_eq_getElem_cons (by rw [HN.out]; exact hlt)]
        simp [HN.out, hlt]
      have hsn : gs.take (k + 1) = gs.take k ++ [gs.getD k g0] := by
        rw [List.take_succ_eq_append_getElem (by rw [HN.out]; exact hlt)]
        simp [HN.out, hlt]
      have HCL := Go.Lib.hid hcl
      have HDR := Go.Lib.hid hdr
      have HSN := Go.Lib.hid hsn
      clear hcl hdr hsn
      clear hst hpr hmm hgh
      generalize gs.getD k g0 = r at *
      generalize vs.getD k nilV = rv at *
      have hpr := HIX.out
      rw [HDR.out] at hpr
      simp only [idx] at hpr
      have HPR := Go.Lib.hid hpr
      clear hpr
      cases hp : p r with
      | true =>
        have hfin : Hid (idx p gs = (k : Int)) := Go.Lib.hid (by rw [HPR.out]; simp [hp])
        rw [hp] at HCL
        clear hp HPR HIX
        go_wp2_with fail
        refine HCL.out.mono ?_; rintro e wb ⟨rfl, hx⟩
        have HX := Go.Lib.hid hx
        clear hx
        go_wp2_with fail
        go_ret
        exact ⟨ret_int hfin.out.symm, HB.out.trans (HX.out.mono HB.out.size)⟩
      | false =>
        have hall2 : ∀ x ∈ gs.take (k + 1), p x = false := fun x hx => by
          rw [HSN.out] at hx
          rcases List.mem_append.1 hx with h | h
          · exact HALL.out x h
          · simp at h; rw [h]; exact hp
        have HALL2 := Go.Lib.hid hall2
        clear hall2
        rw [hp] at HCL
        clear hp HPR HIX
        go_wp2_with fail
        refine HCL.out.mono ?_; rintro e wb ⟨rfl, hx⟩
        have HX := Go.Lib.hid hx
        clear hx
        go_wp2_with fail
        go_roundw
        case rel => exact ⟨k + 1, by go_num, by omega, HALL2.out, HB.out.trans (HX.out.mono HB.out.size)⟩
        case measure => simp [intOf]; omega
    · have hfin : Hid (idx p gs = -1) := Go.Lib.hid (by
        rw [HIX.out, List.drop_of_length_le (by rw [HN.out]; omega)]
        simp [idx])
      clear HIX
      go_wp2_with fail
      go_ret
      exact ⟨ret_int hfin.out.symm, HB.out⟩
end Go.Proofs.Ytcamopppeanipaa

