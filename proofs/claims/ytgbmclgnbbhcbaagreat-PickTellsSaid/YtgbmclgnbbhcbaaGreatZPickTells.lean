/- PickTells: of any servers' names, addresses, and who was tried, whom to ask, in which order, and whose address is missing, is as the document says. For every input; no conditions. -/
import Derived.Test.YtgbmclgnbbhcbaaGreatG4
import Derived.Test.YtgbmclgnbbhcbaaGreatG5
import Derived.Test.YtgbmclgnbbhcbaaGreatG7
import Derived.Test.YtgbmclgnbbhcbaaGreatG8
import Derived.Deep.OwnRows
import Derived.WalkSpells
namespace Go.Proofs.YtgbmclgnbbhcbaaGreat.pickTells
open Go.ChangeShapes Go.WideShapes Go.ChangeAt Go.RowKit
open Go.ChangeMaps (open_string shut_string)
set_option linter.unusedVariables false
set_option linter.unusedSimpArgs false
set_option maxRecDepth 100000

/-- what the law's boxes hold, and its arguments -/
structure QT (w : World) (b1 b2 : Nat) (kn : List UInt8) (kt kd : Int) (zn : List UInt8) (a : Option Addr) (rs : List Rc.RR) (c : Nat) (al : Option Addr) (l : List Kn) (cl : Nat) (a2 : Option Addr) (tried : List Sv) (c2 : Nat) (a3 : Option Addr) (asked : List (List UInt8)) (c3 : Nat) (W : World) : Prop where
  x1 : W.heap[b1]? = some (.cells (setC kn kt (.slice a rs.length c) kd zn) 26 (0, 0))
  x2 : W.heap[b2]? = some (.cells #[.slice al l.length cl] 27 (0, 0))
  rr : RRs W (.slice a rs.length c) rs
  ks : Kns W (.slice al l.length cl) l
  tr : Svs W (.slice a2 tried.length c2) tried
  ask : Strs W (.slice a3 asked.length c3) asked
  be : Below w.heap.size w W
section
variable {w : World} {b1 b2 : Nat} {kn : List UInt8} {kt kd : Int} {zn : List UInt8} {a : Option Addr} {rs : List Rc.RR} {c : Nat} {al : Option Addr} {l : List Kn} {cl : Nat} {a2 : Option Addr} {tried : List Sv} {c2 : Nat} {a3 : Option Addr} {asked : List (List UInt8)} {c3 : Nat} {W W' : World}
theorem qtBelow (h : QT w b1 b2 kn kt kd zn a rs c al l cl a2 tried c2 a3 asked c3 W) (hb : Below W.heap.size W W') : QT w b1 b2 kn kt kd zn a rs c al l cl a2 tried c2 a3 asked c3 W' :=
  ⟨(hb.block b1 (Array.getElem?_eq_some_iff.1 h.x1).1).trans h.x1, (hb.block b2 (Array.getElem?_eq_some_iff.1 h.x2).1).trans h.x2, h.rr.below hb (Nat.le_refl _), h.ks.below hb, SlC.below h.tr hb (Nat.le_refl _), SlC.below h.ask hb (Nat.le_refl _), h.be.trans (hb.mono h.be.size)⟩
theorem qtCells (h : QT w b1 b2 kn kt kd zn a rs c al l cl a2 tried c2 a3 asked c3 W) : W.cell? ⟨b1, 0, none⟩ = some (.string (mk kn)) ∧ W.cell? ⟨b1, 1, none⟩ = some (.int .i64 kt) ∧ W.cell? ⟨b1, 2, none⟩ = some (.slice a rs.length c) ∧ W.cell? ⟨b1, 3, none⟩ = some (.int .i64 kd) ∧ W.cell? ⟨b1, 4, none⟩ = some (.string (mk zn)) ∧ W.cell? ⟨b2, 0, none⟩ = some (.slice al l.length cl) :=
  ⟨row_cell h.x1 0 _ rfl, row_cell h.x1 1 _ rfl, row_cell h.x1 2 _ rfl, row_cell h.x1 3 _ rfl, row_cell h.x1 4 _ rfl, row_cell h.x2 0 _ rfl⟩
end
/-- what region 6 leaves -/
structure FT (l : List Kn) (S : List Sv) (B : Nat) (i : Nat) (v : Value) (w : World) : Prop where
  f2 : i = 2 → Kns w v l
  f3 : i = 3 → Svs w v S
  f9 : i = 9 → ∃ kb, v = .pointer (some ⟨kb, 0, none⟩) ∧ B ≤ kb ∧ w.heap[kb]? = some (.cells #[.string ⟨#[]⟩, .int .i64 0] 40 (0, 0))
theorem FT.stable {l : List Kn} {S : List Sv} {B i : Nat} {v : Value} {w w' : World} (h : FT l S B i v w) (hg : GB w w') : FT l S B i v w' :=
  ⟨fun e => (h.f2 e).below hg, fun e => SlC.below (h.f3 e) hg (Nat.le_refl _), fun e => by
    obtain ⟨kb, h1, h2, h3⟩ := h.f9 e
    exact ⟨kb, h1, h2, hg.heap h3⟩⟩
structure ST (N2 NS : Nat) (rv : Value) (i : Nat) (v : Value) : Prop where
  s2 : i = 2 → ∃ a c, v = .slice a N2 c
  s3 : i = 3 → ∃ a c, v = .slice a NS c
  s5 : i = 5 → v = rv
  s9 : i = 9 → ∃ kb, v = .pointer (some ⟨kb, 0, none⟩)
theorem ST.inh (N2 NS : Nat) (rv : Value) (i : Nat) : ∃ v, ST N2 NS rv i v := by
  by_cases h2 : i = 2
  · subst h2; exact ⟨.slice none N2 0, fun _ => ⟨_, _, rfl⟩, fun h => absurd h (by decide), fun h => absurd h (by decide), fun h => absurd h (by decide)⟩
  · by_cases h3 : i = 3
    · subst h3; exact ⟨.slice none NS 0, fun h => absurd h (by decide), fun _ => ⟨_, _, rfl⟩, fun h => absurd h (by decide), fun h => absurd h (by decide)⟩
    · by_cases h9 : i = 9
      · subst h9; exact ⟨.pointer (some ⟨0, 0, none⟩), fun h => absurd h (by decide), fun h => absurd h (by decide), fun h => absurd h (by decide), fun _ => ⟨_, rfl⟩⟩
      · exact ⟨rv, fun h => absurd h h2, fun h => absurd h h3, fun _ => rfl, fun h => absurd h h9⟩
set_option maxHeartbeats 16000000 in
theorem walk (kn : List UInt8) (kt kd : Int) (zn : List UInt8) (a : Option Addr) (rs : List Rc.RR) (c : Nat) (al : Option Addr) (l : List Kn) (cl : Nat) (a2 : Option Addr) (tried : List Sv) (c2 : Nat) (a3 : Option Addr) (asked : List (List UInt8)) (c3 : Nat) (w : World)
    (hrr : RRs w (.slice a rs.length c) rs) (hok : ∀ r ∈ rs, RROk r) (hks : Kns w (.slice al l.length cl) l) (hnm : ∀ k ∈ l, k.nm.length ≤ maxLen) (htr : Svs w (.slice a2 tried.length c2) tried) (_ : ∀ s ∈ tried, SvFit s) (hask : Strs w (.slice a3 asked.length c3) asked) (hal : ∀ x ∈ asked, x.length ≤ maxLen) :
    Calls Tryz.prog 3 #[setV kn kt (.slice a rs.length c) kd zn, .slice al l.length cl, .slice a2 tried.length c2, .slice a3 asked.length c3] w fun e w' => e = .returned (.bool true) ∧ Below w.heap.size w w' := by
  have mixed : Tryz.prog.follows .mixedOrders = true := by kernel_rfl
  have HAW := Go.Lib.hid awake_any
  obtain ⟨X, hX⟩ : ∃ X, (w.alloc (.cells (setC kn kt (.slice a rs.length c) kd zn) 26)).alloc (.cells #[.slice al l.length cl] 27) = X := ⟨_, rfl⟩
  obtain ⟨b1, hb1⟩ : ∃ b, w.heap.size = b := ⟨_, rfl⟩
  obtain ⟨b2, hb2⟩ : ∃ b, b1 + 1 = b := ⟨_, rfl⟩
  have hq0 : QT w b1 b2 kn kt kd zn a rs c al l cl a2 tried c2 a3 asked c3 X := by
    have hbA := (Below.refl w.heap.size w).alloc (Nat.le_refl _) (.cells (setC kn kt (.slice a rs.length c) kd zn) 26)
    have hbB := hbA.alloc hbA.size (.cells #[.slice al l.length cl] 27)
    have z1 : (w.alloc (.cells (setC kn kt (.slice a rs.length c) kd zn) 26)).heap.size = w.heap.size + 1 := World.size_alloc _ _
    have g1 := World.alloc_heap_new w (.cells (setC kn kt (.slice a rs.length c) kd zn) 26)
    have g2 := World.alloc_heap_new (w.alloc (.cells (setC kn kt (.slice a rs.length c) kd zn) 26)) (.cells #[.slice al l.length cl] 27)
    rw [z1] at g2
    subst hX hb1 hb2
    exact ⟨by rw [Below.heap_alloc _ _ _ (by rw [z1]; omega)]; exact g1, g2, hrr.below hbB (Nat.le_refl _), hks.below hbB, SlC.below htr hbB (Nat.le_refl _), SlC.below hask hbB (Nat.le_refl _), hbB⟩
  have hfew := few_any kn kt kd zn rs a c l al cl X hq0.rr hok hq0.ks hnm
  obtain ⟨k0, k1, k2, k3, k4, k5⟩ := qtCells hq0
  obtain ⟨N1, hN1⟩ : ∃ n, n = rs.length := ⟨_, rfl⟩
  obtain ⟨N2, hN2⟩ : ∃ n, n = l.length := ⟨_, rfl⟩
  obtain ⟨N3, hN3⟩ : ∃ n, n = tried.length := ⟨_, rfl⟩
  obtain ⟨N4, hN4⟩ : ∃ n, n = asked.length := ⟨_, rfl⟩
  have hsh := fun W h => Short_any asked a3 c3 2000 W h (by decide) hal
  simp only [setV, setC] at hfew
  have HFEW := Go.Lib.hid hfew
  have HQ0 := Go.Lib.hid hq0
  have HOK := Go.Lib.hid hok
  have HNM := Go.Lib.hid hnm
  have HAL := Go.Lib.hid hal
  have HSH := Go.Lib.hid hsh
  clear hfew hq0 hok hnm hal hsh
  simp only [setC] at hX
  clear hrr hks htr hask
  go_enter Tryz.func3, Tryz.ntmps3
  go_wp2_with fail
  clear hX
  refine HFEW.out.mono ?_; rintro e W1 ⟨bf, rfl, hbf, hx1⟩
  have hq1 := qtBelow HQ0.out hx1
  have HQ1 := Go.Lib.hid hq1
  have HBF := Go.Lib.hid hbf
  clear hq1 hbf
  clear hx1 k0 k1 k2 k3 k4 k5 HFEW
  cases bf with
  | false =>
    go_wp2_with fail
    refine (HAW.out _).mono ?_; rintro e W9 ⟨rfl, hx9⟩
    have hbz := (qtBelow HQ1.out hx9).be
    have HBZ := Go.Lib.hid hbz
    clear hbz
    clear hx9
    go_wp2_with fail
    go_ret
    exact ⟨rfl, HBZ.out⟩
  | true =>
    obtain ⟨f1, f2, f3⟩ := HBF.out rfl
    by_cases hT : 40 < tried.length
    · have hT2 : (40 : Int) < (tried.length : Int) := by omega
      go_wp2_with fail
      refine (HAW.out _).mono ?_; rintro e W9 ⟨rfl, hx9⟩
      have hbz := (qtBelow HQ1.out hx9).be
      have HBZ := Go.Lib.hid hbz
      clear hbz
      clear hx9
      go_wp2_with fail
      go_ret
      exact ⟨rfl, HBZ.out⟩
    · have hT2 : ¬ (40 : Int) < (tried.length : Int) := by omega
      have hsh1 := HSH.out W1 HQ1.out.ask
      have hsm : decide (asked.length + sumL asked ≤ 2000) = true → asked.length ≤ 2000 := fun h => by rw [decide_eq_true_iff] at h; omega
      generalize decide (asked.length + sumL asked ≤ 2000) = sb at *
      have HSH1 := Go.Lib.hid hsh1
      have HSM := Go.Lib.hid hsm
      have HF3 := Go.Lib.hid f3
      clear hsh1 hsm f3
      cases sb with
      | false =>
        go_wp2_with fail
        refine HSH1.out.mono ?_; rintro e _ ⟨rfl, rfl⟩
        go_wp2_with fail
        refine (HAW.out _).mono ?_; rintro e W9 ⟨rfl, hx9⟩
        have hbz := (qtBelow HQ1.out hx9).be
        have HBZ := Go.Lib.hid hbz
        clear hbz
        clear hx9
        go_wp2_with fail
        go_ret
        exact ⟨rfl, HBZ.out⟩
      | true =>
        have hA4 := HSM.out rfl
        have hz : ∀ k ∈ l, k.zs.length ≤ 20 ∧ k.nm.length ≤ maxLen := fun k hk => ⟨HF3.out k hk, HNM.out k hk⟩
        have hofl : ∀ n, (ofN l n).length ≤ 600 := fun n => by
          have h1 := flatK_len (l := l) (B := 20) (fun k hk => (hz k hk).1) n
          have h2 := told_len (flatK l n)
          have h3 : l.length * 20 ≤ 600 := by omega
          exact Nat.le_trans h2 (Nat.le_trans h1 h3)
        have hoft : ∀ n, toldN (ofN l n) = ofN l n := fun n => told_idem (flatK l n)
        have hTp := targsN_pn rs
        have hent : ∀ args w, (callFunc 7 args).run Tryz.prog w = .ok (.enter 7 args) w := enters_of Tryz.func7 (by kernel_rfl) rfl
        have htell : ∀ W, QT w b1 b2 kn kt kd zn a rs c al l cl a2 tried c2 a3 asked c3 W → ∀ n ∈ targsN rs, TellsA Tryz.prog 7 #[.pointer (some ⟨b2, 0, none⟩)] n (ofN l n) W := fun W h n hn => tellT_any l b2 al cl n W h.x2 h.ks f1 hz (by have := pn_len (hTp n hn); unfold maxLen; omega)
        have hserv : ∀ W, QT w b1 b2 kn kt kd zn a rs c al l cl a2 tried c2 a3 asked c3 W → Calls Tryz.prog 10 #[.agg #[.string (mk kn), .int .i64 kt, .slice a rs.length c, .int .i64 kd, .string (mk zn)], .func (.func 7) #[] #[.pointer (some ⟨b2, 0, none⟩)]] W (RetSvs W (servN (ofN l) rs)) := fun W h =>
          Servers_any kn kt kd zn rs a c 7 _ (ofN l) W h.rr HOK.out (by omega) hent (htell W h) (fun n _ => by have h1 := hofl n; have h2 := hoft n; rw [h2]; exact ⟨by omega, by omega⟩)
        have hrserv : ∀ W, QT w b1 b2 kn kt kd zn a rs c al l cl a2 tried c2 a3 asked c3 W → ∀ a' c', Kns W (.slice a' l.length c') l → Calls Tryz.prog 13 #[.agg #[.string (mk kn), .int .i64 kt, .slice a rs.length c, .int .i64 kd, .string (mk zn)], .slice a' l.length c'] W (RetSvs W (servN (ofN l) rs)) := fun W h a' c' hk =>
          refServers_any kn kt kd zn rs a c l a' c' W h.rr HOK.out (by omega) hk f1 hz
        have hmiss : ∀ W, QT w b1 b2 kn kt kd zn a rs c al l cl a2 tried c2 a3 asked c3 W → Calls Tryz.prog 14 #[.agg #[.string (mk kn), .int .i64 kt, .slice a rs.length c, .int .i64 kd, .string (mk zn)], .func (.func 7) #[] #[.pointer (some ⟨b2, 0, none⟩)], .slice a3 asked.length c3] W fun e w' => e = .returned (retM (missN (ofN l) rs asked)) ∧ Below W.heap.size W w' := fun W h =>
          Missing_any kn kt kd zn rs a c 7 _ (ofN l) asked a3 c3 W h.rr HOK.out (by omega) hent (htell W h) (fun n _ => by have h1 := hofl n; omega) h.ask (by omega) HAL.out
        have hrmiss : ∀ W, QT w b1 b2 kn kt kd zn a rs c al l cl a2 tried c2 a3 asked c3 W → ∀ a' c', Kns W (.slice a' l.length c') l → Calls Tryz.prog 15 #[.agg #[.string (mk kn), .int .i64 kt, .slice a rs.length c, .int .i64 kd, .string (mk zn)], .slice a' l.length c', .slice a3 asked.length c3] W fun e w' => e = .returned (retM (missN (ofN l) rs asked)) ∧ Below W.heap.size W w' := fun W h a' c' hk =>
          refMissing_any kn kt kd zn rs a c l a' c' asked a3 c3 W h.rr HOK.out (by omega) hk f1 hz h.ask (by omega) HAL.out
        have hkn : ∀ W, QT w b1 b2 kn kt kd zn a rs c al l cl a2 tried c2 a3 asked c3 W → Calls Tryz.prog 9 #[.slice al l.length cl] W (RetKns W l) := fun W h => lknown_any l al cl W h.ks (by omega)
        have hSl : (servN (ofN l) rs).length ≤ 1000000 := by
          have h1 := servK_all (ofN l) rs
          have h2 := servK_len (f := ofN l) (T := targsN rs) (fun n hn => by rw [hoft]; have := hofl n; omega) (targsN rs).length (Nat.le_refl _)
          have h3 := targL_len rs
          have h4 : (targsN rs).length ≤ (targL rs).length := insAll_len _
          rw [h1] at h2
          omega
        generalize servN (ofN l) rs = S at *
        generalize missN (ofN l) rs asked = M at *
        have hnext : ∀ W, QT w b1 b2 kn kt kd zn a rs c al l cl a2 tried c2 a3 asked c3 W → ∀ a' c', Svs W (.slice a' S.length c') S → Calls Tryz.prog 11 #[.slice a' S.length c', .slice a2 tried.length c2] W fun e w' => e = .returned (retN (nextN S tried)) ∧ Below W.heap.size W w' := fun W h a' c' hs => Next_any S tried a' a2 c' c2 W hs h.tr (by omega) (by omega)
        have hrnext : ∀ W, QT w b1 b2 kn kt kd zn a rs c al l cl a2 tried c2 a3 asked c3 W → ∀ a' c', Svs W (.slice a' S.length c') S → Calls Tryz.prog 12 #[.slice a' S.length c', .slice a2 tried.length c2] W fun e w' => e = .returned (retN (nextN S tried)) ∧ Below W.heap.size W w' := fun W h a' c' hs => refNext_any S tried a' a2 c' c2 W hs h.tr (by omega) (by omega)
        have hsame := fun W x1 z1 x2 z2 h1 h2 => sameSvs_any S S x1 x2 z1 z2 W h1 h2 (by omega)
        simp only [decide_true] at hsame
        obtain ⟨xn, xa, ob, hret⟩ : ∃ (xn : List UInt8) (xa : Int) (ob : Bool), retN (nextN S tried) = .tuple #[.agg #[.string ⟨xn.toArray⟩, .int .i64 xa], .bool ob] := ⟨((nextN S tried).getD s0).1, ((nextN S tried).getD s0).2, (nextN S tried).isSome, rfl⟩
        obtain ⟨mn, mb, hretm⟩ : ∃ (mn : List UInt8) (mb : Bool), retM M = .tuple #[.string ⟨mn.toArray⟩, .bool mb] := ⟨M.getD [], M.isSome, rfl⟩
        rw [hret] at hnext hrnext
        rw [hretm] at hmiss hrmiss
        obtain ⟨NS, hNS⟩ : ∃ n, S.length = n := ⟨_, rfl⟩
        rw [hNS] at hnext hrnext hsame hSl
        have HSERV := Go.Lib.hid hserv
        have HRSERV := Go.Lib.hid hrserv
        have HMISS := Go.Lib.hid hmiss
        have HRMISS := Go.Lib.hid hrmiss
        have HKN := Go.Lib.hid hkn
        have HNEXT := Go.Lib.hid hnext
        have HRNEXT := Go.Lib.hid hrnext
        have HSAME := Go.Lib.hid hsame
        have HNS := Go.Lib.hid hNS
        have HRET := Go.Lib.hid hret
        have HRETM := Go.Lib.hid hretm
        clear hserv hrserv hmiss hrmiss hkn hnext hrnext hsame hNS hret hretm
        clear hofl hoft hTp hent htell hz
        obtain ⟨k0, k1, k2, k3, k4, k5⟩ := qtCells HQ1.out
        go_wp2_with fail
        refine HSH1.out.mono ?_; rintro e _ ⟨rfl, rfl⟩
        have hs1 := HSERV.out W1 HQ1.out
        have HS1 := Go.Lib.hid hs1
        clear hs1
        go_wp2_with fail
        refine HS1.out.mono ?_; rintro e W2 ⟨v2, rfl, hs2, hx2⟩
        have hq2 := qtBelow HQ1.out hx2
        have hsv := SlC.slice hs2
        rw [HNS.out] at hsv
        obtain ⟨aS, cS, rfl, _, _⟩ := hsv
        have hn2 := HNEXT.out W2 hq2 aS cS hs2
        have HQ2 := Go.Lib.hid hq2
        have HS2 := Go.Lib.hid hs2
        have HN2 := Go.Lib.hid hn2
        clear hq2 hs2 hn2
        clear hx2 k0 k1 k2 k3 k4 k5
        go_wp2_with fail
        refine HN2.out.mono ?_; rintro e W3 ⟨rfl, hx3⟩
        obtain ⟨Y, hY⟩ : ∃ Y, W3.alloc (.cells #[.string ⟨xn.toArray⟩, .int .i64 xa] 40) = Y := ⟨_, rfl⟩
        have gY : Y.heap[W3.heap.size]? = some (.cells #[.string ⟨xn.toArray⟩, .int .i64 xa] 40 (0, 0)) := by rw [← hY]; exact World.alloc_heap_new _ _
        have hxY : Below W2.heap.size W2 Y := by rw [← hY]; exact hx3.alloc hx3.size _
        have hqY := qtBelow HQ2.out hxY
        have hsY : Svs Y (.slice aS NS cS) S := SlC.below HS2.out hxY (Nat.le_refl _)
        have GY := Go.Lib.hid gY
        have HQY := Go.Lib.hid hqY
        have HSY := Go.Lib.hid hsY
        clear gY hqY hsY
        clear hx3 hxY HN2
        go_wp2_with (first | (refine wpList_store_row rfl 40 (.tmp 11) (.tmp 42) rfl W3.heap.size #[.string ⟨xn.toArray⟩, .int .i64 xa] rfl rfl _ _ (World.alloc_heap_new _ _) infoZ rfl rfl ?_; rw [World.setRow_alloc_new, hY]))
        clear hY
        have hYd : Below Y.heap.size Y Y.drew := (Below.refl _ _).drew
        have hC : ∀ W, GB Y.drew W → QT w b1 b2 kn kt kd zn a rs c al l cl a2 tried c2 a3 asked c3 W := fun W h => qtBelow (qtBelow HQY.out hYd) h
        have D0 : ∀ z : Subtype (GB Y.drew), z.1.cell? ⟨b1, 0, none⟩ = some (.string (mk kn)) := fun z => (qtCells (hC z.1 z.2)).1
        have D1 : ∀ z : Subtype (GB Y.drew), z.1.cell? ⟨b1, 1, none⟩ = some (.int .i64 kt) := fun z => (qtCells (hC z.1 z.2)).2.1
        have D2 : ∀ z : Subtype (GB Y.drew), z.1.cell? ⟨b1, 2, none⟩ = some (.slice a rs.length c) := fun z => (qtCells (hC z.1 z.2)).2.2.1
        have D3 : ∀ z : Subtype (GB Y.drew), z.1.cell? ⟨b1, 3, none⟩ = some (.int .i64 kd) := fun z => (qtCells (hC z.1 z.2)).2.2.2.1
        have D4 : ∀ z : Subtype (GB Y.drew), z.1.cell? ⟨b1, 4, none⟩ = some (.string (mk zn)) := fun z => (qtCells (hC z.1 z.2)).2.2.2.2.1
        have D5 : ∀ z : Subtype (GB Y.drew), z.1.cell? ⟨b2, 0, none⟩ = some (.slice al l.length cl) := fun z => (qtCells (hC z.1 z.2)).2.2.2.2.2
        have hneG : Nonempty (Subtype (GB Y.drew)) := ⟨⟨Y.drew, GB.refl _⟩⟩
        have HC := Go.Lib.hid hC
        have HYD := Go.Lib.hid hYd
        clear hC hYd
        refine Go.Mix.wp_region_mixE [2, 3, 5, 9] [10, 11] [8] 10 GB (FT l S Y.heap.size) (ST l.length NS (.tuple #[.agg #[.string ⟨xn.toArray⟩, .int .i64 xa], .bool ob])) [(3, 2, 47), (5, 3, 48)] mixed (by kernel_rfl) (fun i e q hm => ?hsz) GB.trans GB.refl (fun i v w w' h hg => h.stable hg) (ST.inh _ _ _) ?_
        case hsz =>
          simp only [List.mem_cons, Prod.mk.injEq, List.not_mem_nil, or_false] at hm
          rcases hm with ⟨_, _, rfl⟩ | ⟨_, _, rfl⟩ <;> exact of_decide_eq_true rfl
        iterate 2 (refine Go.Mix.mixE_step rfl (fun K hK => ?_); have HKK := Go.Lib.hid hK; clear hK; go_simp; refine HKK.out _ ?_; clear HKK K)
        refine Go.Mix.mixE_eff rfl rfl (fun w7 hw7 hn7 => ?_) (fun v2 hv2 => ?_)
        · clear hn7
          have hk7 := HKN.out w7 (HC.out w7 hw7)
          go_simp
          show Calls _ _ _ _ _
          refine hk7.mono ?_; rintro e w8 ⟨v, rfl, hk8, hx8⟩
          obtain ⟨a8, c8, rfl, _, _⟩ := SlC.slice hk8.1
          exact ⟨hx8, ⟨fun _ => ⟨_, _, rfl⟩, fun h => absurd h (by decide), fun h => absurd h (by decide), fun h => absurd h (by decide)⟩, ⟨fun _ => hk8, fun h => absurd h (by decide), fun h => absurd h (by decide)⟩⟩
        obtain ⟨a7, c7, rfl⟩ := hv2.s2 rfl
        clear hv2
        refine Go.Mix.mixE_eff rfl rfl (fun w7 hw7 hn7 => ?_) (fun v3 hv3 => ?_)
        · have hk7 := HRSERV.out w7 (HC.out w7 hw7) a7 c7 ((hn7 2 47 (by simp)).f2 rfl)
          clear hn7
          go_simp
          show Calls _ _ _ _ _
          refine hk7.mono ?_; rintro e w8 ⟨v, rfl, hk8, hx8⟩
          have hsv8 := SlC.slice hk8
          rw [HNS.out] at hsv8
          obtain ⟨a8, c8, rfl, _, _⟩ := hsv8
          exact ⟨hx8, ⟨fun h => absurd h (by decide), fun _ => ⟨_, _, rfl⟩, fun h => absurd h (by decide), fun h => absurd h (by decide)⟩, ⟨fun h => absurd h (by decide), fun _ => hk8, fun h => absurd h (by decide)⟩⟩
        obtain ⟨a8, c8, rfl⟩ := hv3.s3 rfl
        clear hv3
        iterate 1 (refine Go.Mix.mixE_step rfl (fun K hK => ?_); have HKK := Go.Lib.hid hK; clear hK; go_simp; refine HKK.out _ ?_; clear HKK K)
        refine Go.Mix.mixE_eff rfl rfl (fun w7 hw7 hn7 => ?_) (fun v5 hv5 => ?_)
        · have hk7 := HRNEXT.out w7 (HC.out w7 hw7) a8 c8 ((hn7 3 48 (by simp)).f3 rfl)
          clear hn7
          go_simp
          show Calls _ _ _ _ _
          refine hk7.mono ?_; rintro e w8 ⟨rfl, hx8⟩
          exact ⟨hx8, ⟨fun h => absurd h (by decide), fun h => absurd h (by decide), fun _ => rfl, fun h => absurd h (by decide)⟩, ⟨fun h => absurd h (by decide), fun h => absurd h (by decide), fun h => absurd h (by decide)⟩⟩
        obtain rfl := hv5.s5 rfl
        clear hv5
        iterate 2 (refine Go.Mix.mixE_step rfl (fun K hK => ?_); have HKK := Go.Lib.hid hK; clear hK; go_simp; refine HKK.out _ ?_; clear HKK K)
        (refine Go.Mix.mixE_free rfl (fun K hK => ?_); have HKK := Go.Lib.hid hK; clear hK; go_simp; refine HKK.out _ ?_; clear HKK K)
        refine Go.Mix.mixE_eff rfl rfl (fun w7 hw7 hn7 => ?_) (fun v9 hv9 => ?_)
        · clear hn7
          have h7 : Y.drew.heap.size ≤ w7.heap.size := GB.size hw7
          have h8 : Y.drew.heap.size = Y.heap.size := rfl
          go_simp
          exact ⟨(Below.refl _ _).alloc (Nat.le_refl _) _, ⟨fun h => absurd h (by decide), fun h => absurd h (by decide), fun h => absurd h (by decide), fun _ => ⟨_, rfl⟩⟩, ⟨fun h => absurd h (by decide), fun h => absurd h (by decide), fun _ => ⟨w7.heap.size, rfl, by omega, World.alloc_heap_new _ _⟩⟩⟩
        obtain ⟨kb, rfl⟩ := hv9.s9 rfl
        clear hv9
        refine Go.Mix.mixE_tail rfl (fun w9 hg9 hΦ => ?_)
        obtain ⟨kb', hk1, hk2, hk3⟩ := hΦ.2.f9 rfl
        simp only [Value.pointer.injEq, Option.some.injEq, Addr.mk.injEq, and_true] at hk1
        subst hk1
        clear hΦ
        refine Go.Mix.mix_eff rfl (fun K hK => ?_)
        rw [if_pos (show Region.wanted _ _ = true from rfl)]
        refine wp_store_row 40 (.tmp 13) (.tmp 51) rfl kb _ rfl rfl _ _ hk3 infoZ rfl (by simp [Value.oneCell']) ?_
        refine hK _ _ trivial ?_
        clear hK K
        have hY9 : Below Y.heap.size Y (w9.setRow kb #[.string (mk xn), .int .i64 xa]) := below_setRow (HYD.out.trans hg9) hk2 _
        have hkZ := setRow_heap w9 kb _ #[.string (mk xn), .int .i64 xa] _ _ hk3
        clear hk3 hg9 D0 D1 D2 D3 D4 D5 hneG HC
        change Go.Mix.MixG _ _ _ _ _ _ _ _ (w9.setRow kb #[.string (mk xn), .int .i64 xa])
        generalize w9.setRow kb #[.string (mk xn), .int .i64 xa] = Z at *
        refine Go.Mix.mix_eff rfl (fun K hK => ?_)
        have HKK := Go.Lib.hid hK
        clear hK
        go_simp
        refine HKK.out _ _ trivial ?_
        clear HKK K
        refine Go.Mix.mix_nil ?_
        have hqZ := qtBelow HQY.out hY9
        have hsZ : Svs Z (.slice aS NS cS) S := SlC.below HSY.out hY9 (Nat.le_refl _)
        have gxZ := (hY9.block _ (Array.getElem?_eq_some_iff.1 GY.out).1).trans GY.out
        have hmZ := HMISS.out Z hqZ
        obtain ⟨bx, hbx⟩ : ∃ bx, bx = W3.heap.size := ⟨_, rfl⟩
        rw [← hbx] at gxZ
        try rw [← hbx]
        obtain ⟨k0, k1, k2, k3, k4, k5⟩ := qtCells hqZ
        have HQZ := Go.Lib.hid hqZ
        have HSZ := Go.Lib.hid hsZ
        have GXZ := Go.Lib.hid gxZ
        have HMZ := Go.Lib.hid hmZ
        have GYZ := Go.Lib.hid hkZ
        clear hqZ hsZ gxZ hmZ hkZ
        clear hY9 hbx GY HQY HSY
        go_wp2_with fail
        refine HMZ.out.mono ?_; rintro e W5 ⟨rfl, hx5⟩
        have hq5 := qtBelow HQZ.out hx5
        have hs5 : Svs W5 (.slice aS NS cS) S := SlC.below HSZ.out hx5 (Nat.le_refl _)
        have gx5 := (hx5.block _ (Array.getElem?_eq_some_iff.1 GXZ.out).1).trans GXZ.out
        have gy5 := (hx5.block _ (Array.getElem?_eq_some_iff.1 GYZ.out).1).trans GYZ.out
        have HQ5 := Go.Lib.hid hq5
        have HS5 := Go.Lib.hid hs5
        have GX5 := Go.Lib.hid gx5
        have GY5 := Go.Lib.hid gy5
        clear hq5 hs5 gx5 gy5
        clear hx5 HMZ k0 k1 k2 k3 k4 k5
        go_wp2_with fail
        have D0 : ∀ z : Subtype (Below W5.heap.size W5), z.1.cell? ⟨b1, 0, none⟩ = some (.string (mk kn)) := fun z => (qtCells (qtBelow HQ5.out z.2)).1
        have D1 : ∀ z : Subtype (Below W5.heap.size W5), z.1.cell? ⟨b1, 1, none⟩ = some (.int .i64 kt) := fun z => (qtCells (qtBelow HQ5.out z.2)).2.1
        have D2 : ∀ z : Subtype (Below W5.heap.size W5), z.1.cell? ⟨b1, 2, none⟩ = some (.slice a rs.length c) := fun z => (qtCells (qtBelow HQ5.out z.2)).2.2.1
        have D3 : ∀ z : Subtype (Below W5.heap.size W5), z.1.cell? ⟨b1, 3, none⟩ = some (.int .i64 kd) := fun z => (qtCells (qtBelow HQ5.out z.2)).2.2.2.1
        have D4 : ∀ z : Subtype (Below W5.heap.size W5), z.1.cell? ⟨b1, 4, none⟩ = some (.string (mk zn)) := fun z => (qtCells (qtBelow HQ5.out z.2)).2.2.2.2.1
        have D5 : ∀ z : Subtype (Below W5.heap.size W5), z.1.cell? ⟨b2, 0, none⟩ = some (.slice al l.length cl) := fun z => (qtCells (qtBelow HQ5.out z.2)).2.2.2.2.2
        have hne5 : Nonempty (Subtype (Below W5.heap.size W5)) := ⟨⟨W5, Below.refl _ _⟩⟩
        have hq5d := qtBelow HQ5.out (Below.refl W5.heap.size W5).drew
        have hkn5 := HKN.out _ hq5d
        have HQ5D := Go.Lib.hid hq5d
        have HKN5 := Go.Lib.hid hkn5
        clear hq5d hkn5
        refine Go.Mix.wp_region_mix (Es := [2, 4]) (Below W5.heap.size W5) mixed (by kernel_rfl) (show Below W5.heap.size W5 (World.drew _) from (Below.refl _ _).drew) (fun _ => ?_)
        iterate 2 (refine Go.Mix.mix_step rfl (fun K hK => ?_); have HKK := Go.Lib.hid hK; clear hK; go_simp; refine HKK.out _ _ ?_; clear HKK K)
        refine Go.Mix.mix_eff rfl (fun K hK => ?_)
        have HKK := Go.Lib.hid hK
        clear hK
        go_simp
        refine HKN5.out.mono ?_; rintro e W6 ⟨v6, rfl, hk6, hx6⟩
        obtain ⟨a6, c6, rfl, _, _⟩ := SlC.slice hk6.1
        have hx56 := ((Below.refl W5.heap.size W5).drew).trans hx6
        have hm6 := HRMISS.out W6 (qtBelow HQ5D.out hx6) a6 c6 hk6
        go_simp
        refine HKK.out _ _ hx56 ?_
        have HX56 := Go.Lib.hid hx56
        have HM6 := Go.Lib.hid hm6
        clear hx56 hm6
        clear HKK K hx6 hk6
        iterate 1 (refine Go.Mix.mix_step rfl (fun K hK => ?_); have HKK := Go.Lib.hid hK; clear hK; go_simp; refine HKK.out _ _ ?_; clear HKK K)
        refine Go.Mix.mix_eff rfl (fun K hK => ?_)
        have HKK := Go.Lib.hid hK
        clear hK
        go_simp
        refine HM6.out.mono ?_; rintro e W7 ⟨rfl, hx7⟩
        have hx57 := HX56.out.trans (hx7.mono HX56.out.size)
        go_simp
        refine HKK.out _ _ hx57 ?_
        clear HKK K hx7 HM6
        iterate 5 (refine Go.Mix.mix_step rfl (fun K hK => ?_); have HKK := Go.Lib.hid hK; clear hK; go_simp; refine HKK.out _ _ ?_; clear HKK K)
        refine Go.Mix.mix_nil ?_
        have hq7 := qtBelow HQ5.out hx57
        have hs7 : Svs W7 (.slice aS NS cS) S := SlC.below HS5.out hx57 (Nat.le_refl _)
        have gx7 := (hx57.block _ (Array.getElem?_eq_some_iff.1 GX5.out).1).trans GX5.out
        have gy7 := (hx57.block _ (Array.getElem?_eq_some_iff.1 GY5.out).1).trans GY5.out
        have HQ7 := Go.Lib.hid hq7
        have HS7 := Go.Lib.hid hs7
        have GX7 := Go.Lib.hid gx7
        have GY7 := Go.Lib.hid gy7
        clear hq7 hs7 gx7 gy7
        clear hx57 HX56 D0 D1 D2 D3 D4 D5 hne5 HQ5D HKN5
        go_wp2_with fail
        have D0 : ∀ z : Subtype (Below W7.heap.size W7), z.1.cell? ⟨b1, 0, none⟩ = some (.string (mk kn)) := fun z => (qtCells (qtBelow HQ7.out z.2)).1
        have D1 : ∀ z : Subtype (Below W7.heap.size W7), z.1.cell? ⟨b1, 1, none⟩ = some (.int .i64 kt) := fun z => (qtCells (qtBelow HQ7.out z.2)).2.1
        have D2 : ∀ z : Subtype (Below W7.heap.size W7), z.1.cell? ⟨b1, 2, none⟩ = some (.slice a rs.length c) := fun z => (qtCells (qtBelow HQ7.out z.2)).2.2.1
        have D3 : ∀ z : Subtype (Below W7.heap.size W7), z.1.cell? ⟨b1, 3, none⟩ = some (.int .i64 kd) := fun z => (qtCells (qtBelow HQ7.out z.2)).2.2.2.1
        have D4 : ∀ z : Subtype (Below W7.heap.size W7), z.1.cell? ⟨b1, 4, none⟩ = some (.string (mk zn)) := fun z => (qtCells (qtBelow HQ7.out z.2)).2.2.2.2.1
        have D5 : ∀ z : Subtype (Below W7.heap.size W7), z.1.cell? ⟨b2, 0, none⟩ = some (.slice al l.length cl) := fun z => (qtCells (qtBelow HQ7.out z.2)).2.2.2.2.2
        have hne7 : Nonempty (Subtype (Below W7.heap.size W7)) := ⟨⟨W7, Below.refl _ _⟩⟩
        have DX := fun z : Subtype (Below W7.heap.size W7) => (z.2.block _ (Array.getElem?_eq_some_iff.1 GX7.out).1).trans GX7.out
        have DY := fun z : Subtype (Below W7.heap.size W7) => (z.2.block _ (Array.getElem?_eq_some_iff.1 GY7.out).1).trans GY7.out
        have DX0 : ∀ z : Subtype (Below W7.heap.size W7), z.1.cell? ⟨bx, 0, none⟩ = some (.string (mk xn)) := fun z => row_cell (DX z) 0 (.string (mk xn)) rfl
        have DX1 : ∀ z : Subtype (Below W7.heap.size W7), z.1.cell? ⟨bx, 1, none⟩ = some (.int .i64 xa) := fun z => row_cell (DX z) 1 (.int .i64 xa) rfl
        have DY0 : ∀ z : Subtype (Below W7.heap.size W7), z.1.cell? ⟨kb, 0, none⟩ = some (.string (mk xn)) := fun z => row_cell (DY z) 0 (.string (mk xn)) rfl
        have DY1 : ∀ z : Subtype (Below W7.heap.size W7), z.1.cell? ⟨kb, 1, none⟩ = some (.int .i64 xa) := fun z => row_cell (DY z) 1 (.int .i64 xa) rfl
        clear DX DY
        have q0 : ((mk xn).toList == (mk xn).toList) = true := beq_mk_true rfl
        have q1 : ((mk mn).toList == (mk mn).toList) = true := beq_mk_true rfl
        have q2 : (ob == ob) = true := beq_self_eq_true _
        have q3 : (mb == mb) = true := beq_self_eq_true _
        have hq7d := qtBelow HQ7.out (Below.refl W7.heap.size W7).drew
        have hkn7 := HKN.out _ hq7d
        have HQ7D := Go.Lib.hid hq7d
        have HKN7 := Go.Lib.hid hkn7
        clear hq7d hkn7
        refine Go.Mix.wp_region_mixC (Es := [3, 4, 5, 27]) (Below W7.heap.size W7) mixed (by kernel_rfl) (show Below W7.heap.size W7 (World.drew _) from (Below.refl _ _).drew) (fun _ => ?_)
        iterate 3 (refine Go.Mix.mix_step rfl (fun K hK => ?_); have HKK := Go.Lib.hid hK; clear hK; go_simp; refine HKK.out _ _ ?_; clear HKK K)
        refine Go.Mix.mix_eff rfl (fun K hK => ?_)
        have HKK := Go.Lib.hid hK
        clear hK
        go_simp
        refine HKN7.out.mono ?_; rintro e W8 ⟨v8, rfl, hk8, hx8⟩
        obtain ⟨a8, c8, rfl, _, _⟩ := SlC.slice hk8.1
        have hx78 := ((Below.refl W7.heap.size W7).drew).trans hx8
        have hr8 := HRSERV.out W8 (qtBelow HQ7D.out hx8) a8 c8 hk8
        go_simp
        refine HKK.out _ _ hx78 ?_
        have HX78 := Go.Lib.hid hx78
        have HR8 := Go.Lib.hid hr8
        clear hx78 hr8
        clear HKK K hx8 hk8
        refine Go.Mix.mix_eff rfl (fun K hK => ?_)
        have HKK := Go.Lib.hid hK
        clear hK
        go_simp
        refine HR8.out.mono ?_; rintro e W9 ⟨v9, rfl, hs9, hx9⟩
        have hsv9 := SlC.slice hs9
        rw [HNS.out] at hsv9
        obtain ⟨a9, c9, rfl, _, _⟩ := hsv9
        have hx79 := HX78.out.trans (hx9.mono HX78.out.size)
        have hal9 := HSAME.out W9 aS cS a9 c9 (SlC.below HS7.out hx79 (Nat.le_refl _)) hs9
        go_simp
        refine HKK.out _ _ hx79 ?_
        have HX79 := Go.Lib.hid hx79
        have HAL9 := Go.Lib.hid hal9
        clear hx79 hal9
        clear HKK K hx9 hs9 HR8
        refine Go.Mix.mix_eff rfl (fun K hK => ?_)
        have HKK := Go.Lib.hid hK
        clear hK
        go_simp
        refine HAL9.out.mono ?_; rintro e W10 ⟨rfl, hx10⟩
        have hx710 := HX79.out.trans (hx10.mono HX79.out.size)
        go_simp
        refine HKK.out _ _ hx710 ?_
        have HX710 := Go.Lib.hid hx710
        clear hx710
        clear HKK K hx10 HAL9
        iterate 21 (refine Go.Mix.mix_step rfl (fun K hK => ?_); have HKK := Go.Lib.hid hK; clear hK; go_simp; refine HKK.out _ _ ?_; clear HKK K)
        refine Go.Mix.mix_eff rfl (fun K hK => ?_)
        have HKK := Go.Lib.hid hK
        clear hK
        go_simp
        refine (HAW.out _).mono ?_; rintro e W11 ⟨rfl, hx11⟩
        have hx711 := HX710.out.trans (hx11.mono HX710.out.size)
        have hbz := HQ7.out.be.trans (hx711.mono HQ7.out.be.size)
        go_simp
        refine HKK.out _ _ hx711 ?_
        have HBZ := Go.Lib.hid hbz
        have HX711 := Go.Lib.hid hx711
        clear hbz hx711
        clear HKK K hx11
        iterate 2 (refine Go.Mix.mix_step rfl (fun K hK => ?_); have HKK := Go.Lib.hid hK; clear hK; go_simp; refine HKK.out _ _ ?_; clear HKK K)
        refine Go.Mix.mix_nil ?_
        go_wp2_with fail
        go_ret
        exact ⟨rfl, HBZ.out⟩

set_option maxRecDepth 100000 in
theorem lifted (os : Os) (started : os.Started) (H : Type) (enc : TypeId × Value → H) :
    ReturnsInHanded {} Tryz.checked os 3 .any (Rows.pickTellsSpec.pre6 enc Tryz.prog Tryz.f3 Rows.pickTellsRow.domain false) (Rows.pickTellsSpec.post enc Tryz.prog Tryz.f3 false true false false) := by
  refine returnsInHanded_of_change (C := Tryz.checked) own started (by kernel_rfl) Tryz.func3
    (ChangeSpec.witness6 (enc := enc) (C := Tryz.checked) false ⟨#[], #[.agg #[.string ⟨#[]⟩, .int .i64 0, .slice none 0 0, .int .i64 0, .string ⟨#[]⟩], .slice none 0 0, .slice none 0 0, .slice none 0 0], []⟩ 8 (by kernel_rfl) (by kernel_rfl) (by kernel_rfl) (by kernel_rfl)) ?_
  intro W base args ds gs before hval0 hW hcnd _
  have hval : ∀ (j : Nat) t v, Tryz.f3.params[j]? = some t → args[j]? = some v → Value.okWide Tryz.prog W .any base t v := hval0
  refine law_post enc 4 (by kernel_rfl) rfl rfl (by kernel_rfl) (fun ds h => match ds, h with | [_, _, _, _], _ => rfl) hW ?_
  obtain ⟨p, q, hA0, hV, rfl, _, _⟩ := hW
  have hA : DataW.TrodAll enc Tryz.prog W 0 (fun _ => true) true Tryz.f3.params.toList args.toList ds p := hA0
  rw [Tryz.params3] at hA hval
  obtain ⟨v0, vs0, d0, ds0, p0, q0, hargs, rfl, rfl, h0, r0⟩ := trodAll_cons hA
  obtain ⟨v1, vs1, d1, ds1, p1, q1, rfl, rfl, rfl, h1, r1⟩ := trodAll_cons r0
  obtain ⟨v2, vs2, d2, ds2, p2, q2, rfl, rfl, rfl, h2, r2⟩ := trodAll_cons r1
  obtain ⟨v3, vs3, d3, ds3, p3, q3, rfl, rfl, rfl, h3, r3⟩ := trodAll_cons r2
  obtain ⟨rfl, rfl, rfl⟩ := trodAll_nil r3
  obtain rfl : args = #[v0, v1, v2, v3] := by cases args; simp_all
  obtain ⟨kn0, kt0, kd0, zn0, a0, z0, c0, rfl, l0, w0⟩ := open_Set (hval 0 26 v0 rfl rfl) h0
  obtain ⟨a1, z1, c1, rfl, l1, w1⟩ := open_Kns (hval 1 27 v1 rfl rfl) h1
  obtain ⟨a2, z2, c2, rfl, l2, w2⟩ := open_Svs (hval 2 28 v2 rfl rfl) h2
  obtain ⟨a3, z3, c3, rfl, w3, f3⟩ := open_Strs Tryz.underlying29 Tryz.underlying9 (by kernel_rfl) (hval 3 29 v3 rfl rfl) h3
  exact walk kn0 kt0 kd0 zn0 a0 z0 c0 a1 z1 c1 a2 z2 c2 a3 z3 c3 W l0 w0 l1 w1 l2 w2 w3 f3

theorem over : Rows.pickTellsRow.holds Tryz.pinned (OpenSpec.ofChange Rows.pickTellsSpec) :=
  OpenClaim.holds_of_wide 3 Tryz.f3 rfl rfl rfl rfl rfl rfl rfl ⟨rfl, rfl, rfl, rfl, rfl⟩ rfl rfl rfl rfl rfl (by kernel_rfl) Tryz.func3 (by kernel_rfl)
    (of_decide_eq_true (by kernel_rfl)) (by unfold Func.isWrapper; first | (rw [if_pos (by decide +kernel)]; kernel_rfl) | (rw [if_neg (by decide +kernel)]; exact ⟨rfl, rfl⟩))
    (fun os started H enc _ => lifted os started H enc)

/-- the statement -/
theorem proved : Rows.PickTellsSaid := over
#print axioms proved
end Go.Proofs.YtgbmclgnbbhcbaaGreat.pickTells
