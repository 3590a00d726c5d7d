/- Flight: the table's All: the walk over what is in flight. -/
import Derived.Test.YtblbphnmflbepaaFlK
import Derived.Test.YtblbphnmflbepaaSeqR
namespace Go.Proofs.Ytblbphnmflbepaa
open Go.RowKit Go.Lib Go.Shelf Go.Sq
set_option linter.unusedVariables false

/-- what a round keeps: each row of what was sent -/
abbrev IsSn (T : Nat) : Prop := T = 36
def encSn (s : Sn) : Array Value := #[snV s]
theorem owns_kpt {p : Nat → Prop} {base e sz n : Nat} {v : Value} {xs : List Value} {W W' : World} (h : W.ownsRow base e sz v n xs) (hk : KpT p W W') (he : p e) : W'.ownsRow base e sz v n xs := by
  refine ⟨h.1, ?_⟩
  rcases h.2 with h2 | ⟨g, cap, cur, h1, h2, h3, h4⟩
  · exact .inl h2
  · exact .inr ⟨g, cap, cur, h1, h2, hk g cur e (0, 0) he h3, h4⟩
theorem abides_b {β : Type} {B : Nat} {J : β → World → Prop} (hJ : AbidesFrom B J) {s : β} {W W' : World} (h : J s W) (hb : Below W.heap.size W W') : J s W' :=
  hJ s W W' none h ⟨hb.os, hb.tape, hb.output, hb.size, fun k hk _ => hb.block k hk⟩ (fun r e => by cases e)
theorem take_snoc (l : List Sn) (k : Nat) (h : k < l.length) : l.take (k + 1) = l.take k ++ [l.getD k s0] := by
  rw [List.take_succ_eq_append_getElem h]
  simp [List.getD_eq_getElem?_getD, h]

theorem All_any (p : Value) (w : World) (hp : p = .pointer none ∨ ∃ b, p = .pointer (some ⟨b, 0, none⟩)) : Calls Try.prog 25 #[p] w fun e w' =>
    e = .returned (.func (.func 34) #[] #[.pointer (some ⟨w.heap.size, 0, none⟩)]) ∧ w' = w.alloc (.cells #[p] 25) := by
  rcases hp with rfl | ⟨b, rfl⟩
  · go_enter Try.func25, Try.ntmps25
    go_wp2_with fail
    go_ret
    exact ⟨rfl, rfl⟩
  · go_enter Try.func25, Try.ntmps25
    go_wp2_with fail
    go_ret
    exact ⟨rfl, rfl⟩
set_option maxRecDepth 100000 in
set_option maxHeartbeats 4000000 in
theorem all_seq (n : Nat) (hn : 3 ≤ n) (B : Nat) (base b : Nat) (most : Int) (l : List Sn) (w : World) (hT : IsTab base b most l w) (hl : l.length ≤ 274877906944) (hB : B < w.heap.size)
    (hc : w.cell? ⟨B, 0, none⟩ = some (.pointer (some ⟨b, 0, none⟩))) :
    SeqOk Fence.wide n Try.prog 34 #[.pointer (some ⟨B, 0, none⟩)] encSn (KpT IsSn)
      (fun xs => xs <+: l) (fun xs => xs = l) (fun xs => xs <+: l) w := fun lp J Jx W hW hJ hJx hY h0 => by
  have hc' := (hW.cell (p := ⟨B, 0, none⟩) hB).trans hc
  obtain ⟨hbb, v, hb, ho⟩ := hT.below hW
  have hcl := clone_any base l.length v (encN l) W ho hl (encN_one l)
  obtain ⟨a, cap, rfl, hnc, hcm⟩ := (SlC.of_owns ho).slice
  have c1 : W.cell? ⟨b, 1, none⟩ = some (.slice a l.length cap) := by simp [World.cell?, hb]
  have hsz := hW.size
  clear hc hT hb ho
  have HCL := Go.Lib.hid hcl
  have HY := Go.Lib.hid hY
  have HJ := Go.Lib.hid hJ
  have HJX := Go.Lib.hid hJx
  have H0 := Go.Lib.hid h0
  have HW := Go.Lib.hid hW
  clear hcl hY hJ hJx h0 hW
  refine callsIn_of_wp Try.func34 rfl trivial ?_ rfl
  simp only [Try.ntmps34, List.size_toArray, List.length_cons, List.length_nil, Nat.reduceAdd, Nat.reduceSub, Array.replicate_succ, Array.replicate_zero, List.push_toArray, List.append_toArray, List.nil_append, List.cons_append]
  gi_wp2_with fail
  refine ⟨trivial, fun _ => by omega, (callsIn_wide.2 HCL.out).mono ?_⟩
  rintro e W1 ⟨v', rfl, how, hb⟩
  have hj := abides_b HJ.out H0.out hb
  obtain ⟨a2, c2, rfl, hnc2, hcm2⟩ := (SlC.of_owns how).slice
  have HJ1 := Go.Lib.hid hj
  have HB := Go.Lib.hid hb
  have HOW := Go.Lib.hid how
  clear hj hb how
  clear hc' HCL c1
  gi_wp2_with fail
  gi_loopw [13] (fun i wr => ∃ k : Nat, k ≤ l.length ∧ i = .int .i64 k ∧ J (l.take k) wr ∧ KpT IsSn W1 wr)
    (fun i _ => l.length - (RowKit.intOf i).toNat)
  case atStart => exact ⟨0, Nat.zero_le _, rfl, by simpa using HJ1.out, KpT.refl _⟩
  case round =>
    obtain ⟨k, hk, rfl, hj, hkp⟩ := hrel
    have HJS := Go.Lib.hid hj
    have HKP := Go.Lib.hid hkp
    clear hj hkp
    by_cases hlt : k < l.length
    · have hgr := owns_kpt HOW.out HKP.out rfl
      obtain ⟨g, off, rfl, hgw, hcell⟩ := Sns.at (SlC.of_owns hgr : Sns wr (.slice a2 l.length c2) l) (by omega)
      have hat := hcell k hlt
      have hsn := take_snoc l k hlt
      have hpre : l.take k ++ [l.getD k s0] <+: l := by rw [← hsn]; exact List.take_prefix _ _
      have hj3 := abides_b HJ.out HJS.out ((Below.refl _ wr).alloc (Nat.le_refl _) (.cells (snA (l.getD k s0)) 36))
      obtain ⟨fn, tmps, assign, body, hy, hR⟩ := HY.out _ (l.getD k s0) _ hj3 hpre
      unfold encSn at hy
      have hkp3 := HKP.out.alloc (.cells (snA (l.getD k s0)) 36)
      have HR := Go.Lib.hid hR
      have HJ3 := Go.Lib.hid hj3
      have HKP3 := Go.Lib.hid hkp3
      have HPRE := Go.Lib.hid hpre
      have HSN := Go.Lib.hid hsn
      clear hR hj3 hkp3 hpre hsn
      generalize l.getD k s0 = s at *
      obtain ⟨e0, e1, e2, e3, e4, e5, e6, e7, e8⟩ := hat.box
      clear hgr hcell hat
      gi_wp2_with fail
      refine ⟨fun _ => by omega, HR.out.mono ?_⟩
      rintro e W3 (⟨rfl, hJ3, hk3⟩ | ⟨rfl, hJx3⟩)
      · have HJ4 := Go.Lib.hid hJ3
        have HK4 := Go.Lib.hid hk3
        clear hJ3 hk3
        clear hy
        gi_wp2_with fail
        go_roundw
        case rel => exact ⟨k + 1, by omega, by simp, by rw [HSN.out]; exact HJ4.out, HKP3.out.trans (HK4.out)⟩
        case measure => simp [RowKit.intOf]; omega
      · have HJX4 := Go.Lib.hid hJx3
        clear hJx3
        clear hy
        gi_wp2_with fail
        refine bodyPost_ret (results_none rfl _ _ _) rfl ?_
        exact ⟨⟨_, rfl⟩, .inr ⟨_, HPRE.out, HJX4.out⟩⟩
    · obtain rfl : k = l.length := by omega
      gi_wp2_with fail
      go_end0
      have hz : l.take l.length = l := List.take_length
      exact ⟨⟨_, rfl⟩, .inl ⟨_, rfl, by have := HJS.out; rw [hz] at this; exact this⟩⟩
end Go.Proofs.Ytblbphnmflbepaa

