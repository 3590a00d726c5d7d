/- match.Sets: the walk over the groups. -/
import Derived.Test.YtcamopppeanipaaMgB
import Derived.Test.YtcamopppeanipaaSeqR
namespace Go.Proofs.Ytcamopppeanipaa
open Go.RowKit Go.Shelf Go.Sq
set_option linter.unusedVariables false

/-- what a round keeps: records and groups -/
abbrev IsGrp (T : Nat) : Prop := T = 71 ∨ T = 49
/-- what comes: a key, and a list -/
def encGV (x : Gr × Value) : Array Value := #[.agg #[.string (mk x.1.name), .int .i64 x.1.ty], x.2]
def RdS (base : Nat) (x : Gr × Value) (w : World) : Prop := w.ownsRow base 49 5 x.2 x.1.l.length (encR x.1.l)

theorem ownsRow_kpt {p : Nat → Prop} {base e sz n : Nat} {v : Value} {xs : List Value} {W W' : World} (h : W.ownsRow base e sz v n xs) (hk : KpT p W W') (he : p e) : W'.ownsRow base e sz v n xs := by
  refine ⟨h.1, ?_⟩
  rcases h.2 with h2 | ⟨g, cap, cur, h1, h2, h3, h4⟩
  · exact .inl h2
  · exact .inr ⟨g, cap, cur, h1, h2, hk g cur e (0, 0) he h3, h4⟩
theorem ownsG_kpt {base : Nat} {v : Value} {gs : List Gr} {vs : List Value} {W W' : World} (h : OwnsG W base v gs vs) (hk : KpT IsGrp W W') : OwnsG W' base v gs vs :=
  ⟨h.len, ownsRow_kpt h.row hk (.inl rfl), fun i hi => ownsRow_kpt (h.each i hi) hk (.inr rfl), h.apart⟩
theorem zip_take_snoc (gs : List Gr) (vs : List Value) (k : Nat) (hl : vs.length = gs.length) (h : k < gs.length) : (gs.zip vs).take (k + 1) = (gs.zip vs).take k ++ [(gs.getD k g0, vs.getD k nilV)] := by
  have h2 : k < (gs.zip vs).length := by simp [hl, h]
  rw [List.take_succ_eq_append_getElem h2]
  have h3 : k < vs.length := by omega
  simp [List.getElem_zip, List.getD_eq_getElem?_getD, h, h3]
theorem map_fst_take (gs : List Gr) (vs : List Value) (k : Nat) (hl : vs.length = gs.length) : ((gs.zip vs).take k).map Prod.fst = gs.take k := by
  rw [List.map_take, List.map_fst_zip (by omega)]

theorem addG_length (gs : List Gr) (r : Rc.RR) : (addG gs r).length ≤ gs.length + 1 := by
  unfold addG
  split
  · split
    · simp
    · simp
  · omega
theorem foldG_length : ∀ (l : List Rc.RR) (gs : List Gr), (l.foldl addG gs).length ≤ gs.length + l.length
  | [], gs => by simp
  | r :: l, gs => by
    have h1 := addG_length gs r
    have h2 := foldG_length l (addG gs r)
    simp only [List.foldl_cons, List.length_cons]
    omega
theorem groupsN_length (l : List Rc.RR) : (groupsN l).length ≤ l.length := by simpa [groupsN] using foldG_length l []

set_option maxRecDepth 100000 in
set_option maxHeartbeats 4000000 in
theorem sets_seq (n : Nat) (hn : 3 ≤ n) (B : Nat) (a : Option Addr) (cap : Nat) (l : List Rc.RR) (w : World) (hst : RRs w (.slice a l.length cap) l) (hl : l.length ≤ 1000000) (hok : ∀ r ∈ l, RROk r) (hB : B < w.heap.size)
    (hc : w.cell? ⟨B, 0, none⟩ = some (.slice a l.length cap)) :
    SeqR Fence.wide n Try.prog 38 #[.pointer (some ⟨B, 0, none⟩)] encGV (KpT IsGrp)
      (fun xs => xs.map Prod.fst <+: groupsN l) (fun xs => xs.map Prod.fst = groupsN l) (fun xs => xs.map Prod.fst <+: groupsN l) (RdS w.heap.size) w := fun lp J Jx W hW hJ hJx hY h0 => by
  have hc' := (hW.cell (p := ⟨B, 0, none⟩) hB).trans hc
  have hg := groups_any a cap l W (hst.below hW (Nat.le_refl _)) hl hok
  have hsz := hW.size
  clear hc hst
  have HG := Go.Lib.hid hg
  have HY := Go.Lib.hid hY
  have HJ := Go.Lib.hid hJ
  have HJX := Go.Lib.hid hJx
  have H0 := Go.Lib.hid h0
  have HW := Go.Lib.hid hW
  clear hg hY hJ hJx h0 hW
  refine callsIn_of_wp Try.func38 rfl trivial ?_ rfl
  simp only [Try.ntmps38, List.size_toArray, List.length_cons, List.length_nil, Nat.reduceAdd, Nat.reduceSub, Array.replicate_succ, Array.replicate_zero, List.push_toArray, List.append_toArray, List.nil_append, List.cons_append]
  gi_wp2_with fail
  refine ⟨trivial, fun _ => by omega, (callsIn_wide.2 HG.out).mono ?_⟩
  rintro e W1 ⟨v, vs, rfl, hog, hb⟩
  have hj := abides_below HJ.out H0.out hb
  obtain ⟨a2, c2, hv2, _, _⟩ := (SlC.of_owns hog.row).slice
  subst hv2
  have hgl := groupsN_length l
  generalize hgg : groupsN l = gs at *
  have hvl := hog.len
  have HJ1 := Go.Lib.hid hj
  have HB := Go.Lib.hid hb
  have HOG := Go.Lib.hid hog
  have HGG := Go.Lib.hid hgg
  clear hj hb hog hgg
  clear hc' HG
  gi_wp2_with fail
  gi_loopw [8] (fun i wr => ∃ k : Nat, k ≤ gs.length ∧ i = .int .i64 k ∧ J ((gs.zip vs).take k) wr ∧ KpT IsGrp W1 wr)
    (fun i _ => gs.length - (intOf i).toNat)
  case atStart => exact ⟨0, Nat.zero_le _, rfl, by simpa using HJ1.out, KpT.refl _⟩
  case round =>
    obtain ⟨k, hk, rfl, hj, hkp⟩ := hrel
    have HJS := Go.Lib.hid hj
    have HKP := Go.Lib.hid hkp
    clear hj hkp
    by_cases hlt : k < gs.length
    · have hgr := ownsG_kpt HOG.out HKP.out
      obtain ⟨hmm, g, cur, rfl, hbg, hgh, e0, e1, e2⟩ := ownsG_at hgr hlt
      have hw2 := hgr.each k hlt
      have hsn := zip_take_snoc gs vs k hvl hlt
      have hfs := map_fst_take gs vs (k + 1) hvl
      obtain ⟨aq, cq, hvq, _, _⟩ := (SlC.of_owns hw2).slice
      have hj3 := abides_below HJ.out HJS.out ((Below.refl _ wr).alloc (Nat.le_refl _) (.cells #[.string (mk (gs.getD k g0).name), .int .i64 (gs.getD k g0).ty, vs.getD k nilV] 71))
      have hpre : ((gs.zip vs).take k ++ [(gs.getD k g0, vs.getD k nilV)]).map Prod.fst <+: gs := by rw [← hsn, hfs]; exact List.take_prefix _ _
      have hrd : RdS w.heap.size (gs.getD k g0, vs.getD k nilV) (wr.alloc (.cells #[.string (mk (gs.getD k g0).name), .int .i64 (gs.getD k g0).ty, vs.getD k nilV] 71)) := owns_base (hw2.alloc _) hsz
      obtain ⟨fn, tmps, assign, body, hy, hR⟩ := HY.out _ (gs.getD k g0, vs.getD k nilV) _ hj3 hpre hrd
      unfold encGV at hy
      have hkp3 := HKP.out.alloc (.cells #[.string (mk (gs.getD k g0).name), .int .i64 (gs.getD k g0).ty, vs.getD k nilV] 71)
      have HR := Go.Lib.hid hR
      have HJ3 := Go.Lib.hid hj3
      have HKP3 := Go.Lib.hid hkp3
      have HPRE := Go.Lib.hid hpre
      have HSN := Go.Lib.hid hsn
      have HFS := Go.Lib.hid hfs
      have HRD := Go.Lib.hid hrd
      have HGH := Go.Lib.hid hgh
      have HW2 := Go.Lib.hid hw2
      have HGR := Go.Lib.hid hgr
      clear hR hj3 hkp3 hpre hsn hfs hrd hgh hw2 hgr
      generalize gs.getD k g0 = gk at *
      generalize vs.getD k nilV = vk at *
      subst hvq
      gi_wp2_with fail
      refine ⟨fun _ => by omega, HR.out.mono ?_⟩
      rintro e W3 (⟨rfl, hJ3, hk3⟩ | ⟨rfl, hJx3⟩)
      · have HJ4 := Go.Lib.hid hJ3
        have HK4 := Go.Lib.hid hk3
        clear hJ3 hk3
        clear hy
        gi_wp2_with fail
        go_roundw
        case rel => exact ⟨k + 1, by omega, by simp, by rw [HSN.out]; exact HJ4.out, HKP3.out.trans (HK4.out)⟩
        case measure => simp [intOf]; omega
      · have HJX4 := Go.Lib.hid hJx3
        clear hJx3
        clear hy
        gi_wp2_with fail
        refine bodyPost_ret (results_none rfl _ _ _) rfl ?_
        exact ⟨⟨_, rfl⟩, .inr ⟨_, by rw [HGG.out]; exact HPRE.out, HJX4.out⟩⟩
    · obtain rfl : k = gs.length := by omega
      gi_wp2_with fail
      go_end0
      have hz : (gs.zip vs).take gs.length = gs.zip vs := List.take_of_length_le (by rw [List.length_zip]; exact Nat.min_le_left _ _)
      exact ⟨⟨_, rfl⟩, .inl ⟨_, by rw [HGG.out]; exact List.map_fst_zip (Nat.le_of_eq HOG.out.len.symm), by have := HJS.out; rw [hz] at this; exact this⟩⟩
end Go.Proofs.Ytcamopppeanipaa

