/- Flight: acts; few; shows; what the acts leave, for every table. -/
import Derived.Test.YtblbphnmflbepaaFlR
import Derived.Test.YtblbphnmflbepaaOpnM
import Derived.Test.YtblbphnmflbepaaFlS
import Derived.Test.YtblbphnmflbepaaFlO
import Derived.Deep.WholeRow
import Derived.Deep.MidRow
namespace Go.Proofs.Ytblbphnmflbepaa
open Go.RowKit Go.ChangeShapes Go.WideShapes Go.Deep
set_option linter.unusedVariables false

/-- an act -/
structure Ac where
  kind : Int
  s : Sn
  addr : Int
  port : Int
  m : Msg
  q : Value
  a : Value
  sv : Value
  d : Value
def acC (x : Ac) : List Value := [.int .i64 x.kind, .int .i64 x.s.job, .int .i64 x.s.id, .int .i64 x.s.port, .string (mk x.s.sn), .int .i64 x.s.sa, .string (mk x.s.qn), .int .i64 x.s.qt, .int .i64 x.s.qc, .string (mk x.s.zone), .int .i64 x.addr, .int .i64 x.port,
  .int .i64 x.m.id, .bool x.m.resp, .int .i64 x.m.op, .bool x.m.auth, .bool x.m.cut, .bool x.m.des, .bool x.m.avail, .int .i64 x.m.code, x.q, x.a, x.sv, x.d, .bool x.m.edns, .int .i64 x.m.size]
theorem acC_len (x : Ac) : (acC x).length = 26 := rfl
structure AcOk (w : World) (x : Ac) : Prop where
  sn : x.s.sn.length ≤ maxLen
  qn : x.s.qn.length ≤ maxLen
  zone : x.s.zone.length ≤ maxLen
  ml : MsgL w x.m x.q x.a x.sv x.d
  mo : MsgOk x.m
def a0 : Ac := ⟨0, s0, 0, 0, ⟨0, false, 0, false, false, false, false, 0, [], [], [], [], false, 0⟩, .slice none 0 0, .slice none 0 0, .slice none 0 0, .slice none 0 0⟩
def encA (l : List Ac) : List Value := l.flatMap acC
theorem encA_length (l : List Ac) : (encA l).length = l.length * 26 := by
  induction l with
  | nil => rfl
  | cons r l ih =>
    have : encA (r :: l) = acC r ++ encA l := rfl
    rw [this, List.length_append, ih, acC_len]
    simp; omega
theorem encA_get : ∀ (l : List Ac) (j i : Nat), j < l.length → i < 26 → (encA l)[j * 26 + i]? = (acC (l.getD j a0))[i]?
  | [], j, i, h, _ => by simp at h
  | p :: l, 0, i, _, hi => by
    have : encA (p :: l) = acC p ++ encA l := rfl
    rw [this, Nat.zero_mul, Nat.zero_add, List.getElem?_append_left (by rw [acC_len]; exact hi)]
    rfl
  | p :: l, j + 1, i, h, hi => by
    have e : encA (p :: l) = acC p ++ encA l := rfl
    rw [e, List.getElem?_append_right (by rw [acC_len]; omega), acC_len, show (j + 1) * 26 + i - 26 = j * 26 + i by omega]
    exact encA_get l j i (by simpa using h) hi
def Acs (w : World) (v : Value) (l : List Ac) : Prop := SlC w 26 v l.length (encA l)
theorem Acs.at {w : World} {a : Option Addr} {m cap : Nat} {l : List Ac} (h : Acs w (.slice a m cap) l) (hn : 0 < l.length) :
    ∃ b off, a = some ⟨b, off, none⟩ ∧ b < w.heap.size ∧ ∀ j, j < l.length → ∀ i, i < 26 → w.cell? ⟨b, off + j * 26 + i, none⟩ = (acC (l.getD j a0))[i]? := by
  obtain ⟨_, b, off, ha, hlt, h4⟩ := SlC.at h hn
  refine ⟨b, off, ha, hlt, fun j hj i hi => ?_⟩
  rw [Nat.add_assoc, h4 (j * 26 + i) (by omega), encA_get l j i hj hi]

section
variable {H : Type} {enc : TypeId × Value → H} {w : World} {base b0 : Nat} {spare : Nat → Bool} {held : Bool}
theorem srv_elem {n : Nat} {cs : List Value} {y : DataW H × List MemPlace} (h : DataW.trod enc Try.prog w base spare held n 32 cs = some y) : ∃ (s : List UInt8) (i : Int), s.length ≤ maxLen ∧ cs = [.string (mk s), .int .i64 i] := by
  obtain ⟨hl, n, hf⟩ := openE Try.underlying32 (by kernel_rfl) (by kernel_rfl) h
  obtain ⟨u0, y0, e0, h0⟩ := hf 0 _ rfl
  obtain ⟨u1, y1, e1, h1⟩ := hf 1 _ rfl
  match cs, (show cs.length = 2 from hl) with
  | [a, b], _ =>
    obtain rfl : a = u0 := Option.some.inj e0
    obtain rfl : b = u1 := Option.some.inj e1
    obtain ⟨s, rfl, hs⟩ := tStr h0
    obtain ⟨i, rfl, hi⟩ := tInt h1
    exact ⟨s, i, hs, rfl⟩
theorem one_of {α : Type} {l : List α} (h : l.length = 1) : ∃ a, l = [a] := by
  match l, h with
  | [a], _ => exact ⟨a, rfl⟩
theorem sent_elem {n : Nat} {cs : List Value} {y : DataW H × List MemPlace} (h : DataW.trod enc Try.prog w base spare held n 36 cs = some y) :
    ∃ s : Sn, (s.sn.length ≤ maxLen ∧ s.qn.length ≤ maxLen ∧ s.zone.length ≤ maxLen) ∧ cs = snC s := by
  obtain ⟨xs, n, _, _, hl, hlen, hg⟩ := DataW.trod_struct Try.underlying36 h
  have hl : cs.length = 9 := hl.trans (by kernel_rfl)
  have g : ∀ (i : Nat) (f : Field) (o k : Nat), (Try.prog.underlying 36).bind (fun d => match d with | .struct fs => fs[i]? | _ => none) = some f → f.offset = o → Try.prog.cellsOf f.type = k → ∃ y, DataW.trod enc Try.prog w base spare held n f.type ((cs.drop o).take k) = some y := fun i f o k hf ho hk => by
    rw [Try.underlying36] at hf
    have h1 := hg i f hf
    rw [ho, hk] at h1
    have hi : i < xs.length := by rw [hlen]; exact (Array.getElem?_eq_some_iff.1 hf).1
    rw [List.getElem?_eq_getElem hi] at h1
    exact ⟨_, h1⟩
  obtain ⟨y0, h0⟩ := g 0 _ 0 1 rfl rfl (by kernel_rfl)
  obtain ⟨y1, h1⟩ := g 1 _ 1 1 rfl rfl (by kernel_rfl)
  obtain ⟨y2, h2⟩ := g 2 _ 2 1 rfl rfl (by kernel_rfl)
  obtain ⟨y3, h3⟩ := g 3 _ 3 2 rfl rfl (by kernel_rfl)
  obtain ⟨y4, h4⟩ := g 4 _ 5 3 rfl rfl (by kernel_rfl)
  obtain ⟨y5, h5⟩ := g 5 _ 8 1 rfl rfl (by kernel_rfl)
  match cs, hl with
  | [c0, c1, c2, c3, c4, c5, c6, c7, c8], _ =>
    obtain ⟨j, rfl, _⟩ := tInt (show DataW.trod enc Try.prog w base spare held n 3 [c0] = some y0 from h0)
    obtain ⟨i, rfl, _⟩ := tInt (show DataW.trod enc Try.prog w base spare held n 3 [c1] = some y1 from h1)
    obtain ⟨p, rfl, _⟩ := tInt (show DataW.trod enc Try.prog w base spare held n 3 [c2] = some y2 from h2)
    obtain ⟨sn, sa, hsn, e3⟩ := srv_elem (show DataW.trod enc Try.prog w base spare held n 32 [c3, c4] = some y3 from h3)
    obtain ⟨q, hq, e4⟩ := qn_elem (show DataW.trod enc Try.prog w base spare held n 34 [c5, c6, c7] = some y4 from h4)
    obtain ⟨z, rfl, hz⟩ := tStr (show DataW.trod enc Try.prog w base spare held n 9 [c8] = some y5 from h5)
    simp only [List.cons.injEq, and_true] at e3
    obtain ⟨rfl, rfl⟩ := e3
    have e4 : [c5, c6, c7] = [.string (mk q.name), .int .i64 q.ty, .int .i64 q.cl] := e4
    simp only [List.cons.injEq, and_true] at e4
    obtain ⟨rfl, rfl, rfl⟩ := e4
    exact ⟨⟨j, i, p, sn, sa, q.name, q.ty, q.cl, z⟩, ⟨hsn, hq.1, hz⟩, rfl⟩
theorem msg_elem {n : Nat} {cs : List Value} {y : DataW H × List MemPlace} (h : DataW.trod enc Try.prog w base (fun _ => true) held n 40 cs = some y) :
    ∃ m q a s d', cs = (MC m q a s d').toList ∧ MsgL w m q a s d' ∧ MsgFit m := by
  obtain ⟨hl, n, hf⟩ := openE Try.underlying40 (by kernel_rfl) (by kernel_rfl) h
  obtain ⟨u0, y0, e0, h0⟩ := hf 0 _ rfl
  obtain ⟨u1, y1, e1, h1⟩ := hf 1 _ rfl
  obtain ⟨u2, y2, e2, h2⟩ := hf 2 _ rfl
  obtain ⟨u3, y3, e3, h3⟩ := hf 3 _ rfl
  obtain ⟨u4, y4, e4, h4⟩ := hf 4 _ rfl
  obtain ⟨u5, y5, e5, h5⟩ := hf 5 _ rfl
  obtain ⟨u6, y6, e6, h6⟩ := hf 6 _ rfl
  obtain ⟨u7, y7, e7, h7⟩ := hf 7 _ rfl
  obtain ⟨u8, y8, e8, h8⟩ := hf 8 _ rfl
  obtain ⟨u9, y9, e9, h9⟩ := hf 9 _ rfl
  obtain ⟨u10, y10, e10, h10⟩ := hf 10 _ rfl
  obtain ⟨u11, y11, e11, h11⟩ := hf 11 _ rfl
  obtain ⟨u12, y12, e12, h12⟩ := hf 12 _ rfl
  obtain ⟨u13, y13, e13, h13⟩ := hf 13 _ rfl
  obtain ⟨a0, a1, a2, a3, a4, a5, a6, a7, a8, a9, a10, a11, a12, a13, rfl⟩ := fourteen (show cs.length = 14 from hl)
  obtain rfl : a0 = u0 := Option.some.inj e0
  obtain rfl : a1 = u1 := Option.some.inj e1
  obtain rfl : a2 = u2 := Option.some.inj e2
  obtain rfl : a3 = u3 := Option.some.inj e3
  obtain rfl : a4 = u4 := Option.some.inj e4
  obtain rfl : a5 = u5 := Option.some.inj e5
  obtain rfl : a6 = u6 := Option.some.inj e6
  obtain rfl : a7 = u7 := Option.some.inj e7
  obtain rfl : a8 = u8 := Option.some.inj e8
  obtain rfl : a9 = u9 := Option.some.inj e9
  obtain rfl : a10 = u10 := Option.some.inj e10
  obtain rfl : a11 = u11 := Option.some.inj e11
  obtain rfl : a12 = u12 := Option.some.inj e12
  obtain rfl : a13 = u13 := Option.some.inj e13
  obtain ⟨id, rfl, f0⟩ := tInt h0
  obtain ⟨b1, rfl⟩ := tBool h1
  obtain ⟨op, rfl, f2⟩ := tInt h2
  obtain ⟨b3, rfl⟩ := tBool h3
  obtain ⟨b4, rfl⟩ := tBool h4
  obtain ⟨b5, rfl⟩ := tBool h5
  obtain ⟨b6, rfl⟩ := tBool h6
  obtain ⟨code, rfl, f7⟩ := tInt h7
  obtain ⟨_, l8, _, _, s8, f8⟩ := openQns h8
  obtain ⟨_, l9, _, _, s9, f9⟩ := openRRs h9
  obtain ⟨_, l10, _, _, s10, f10⟩ := openRRs h10
  obtain ⟨_, l11, _, _, s11, f11⟩ := openRRs h11
  obtain ⟨b12, rfl⟩ := tBool h12
  obtain ⟨size, rfl, f13⟩ := tInt h13
  exact ⟨⟨id, b1, op, b3, b4, b5, b6, code, l8, l9, l10, l11, b12, size⟩, _, _, _, _, rfl, ⟨s8, s9, s10, s11⟩, ⟨f0, f2, f7, f13, f8, f9, f10, f11⟩⟩
theorem act_elem {n : Nat} {cs : List Value} {y : DataW H × List MemPlace} (h : DataW.trod enc Try.prog w base (fun _ => true) held n 42 cs = some y) :
    ∃ x : Ac, AcOk w x ∧ cs = acC x := by
  obtain ⟨xs, n, _, _, hl, hlen, hg⟩ := DataW.trod_struct Try.underlying42 h
  have hl : cs.length = 26 := hl.trans (by kernel_rfl)
  have g : ∀ (i : Nat) (f : Field) (o k : Nat), (Try.prog.underlying 42).bind (fun d => match d with | .struct fs => fs[i]? | _ => none) = some f → f.offset = o → Try.prog.cellsOf f.type = k → ∃ y, DataW.trod enc Try.prog w base (fun _ => true) held n f.type ((cs.drop o).take k) = some y := fun i f o k hf ho hk => by
    rw [Try.underlying42] at hf
    have h1 := hg i f hf
    rw [ho, hk] at h1
    have hi : i < xs.length := by rw [hlen]; exact (Array.getElem?_eq_some_iff.1 hf).1
    rw [List.getElem?_eq_getElem hi] at h1
    exact ⟨_, h1⟩
  obtain ⟨y0, h0⟩ := g 0 _ 0 1 rfl rfl (by kernel_rfl)
  obtain ⟨y1, h1⟩ := g 1 _ 1 9 rfl rfl (by kernel_rfl)
  obtain ⟨y2, h2⟩ := g 2 _ 10 1 rfl rfl (by kernel_rfl)
  obtain ⟨y3, h3⟩ := g 3 _ 11 1 rfl rfl (by kernel_rfl)
  obtain ⟨y4, h4⟩ := g 4 _ 12 14 rfl rfl (by kernel_rfl)
  match cs, hl with
  | [c0, c1, c2, c3, c4, c5, c6, c7, c8, c9, c10, c11, c12, c13, c14, c15, c16, c17, c18, c19, c20, c21, c22, c23, c24, c25], _ =>
    obtain ⟨kd, rfl, _⟩ := tInt (show DataW.trod enc Try.prog w base (fun _ => true) held n 3 [c0] = some y0 from h0)
    obtain ⟨s, hs, e1⟩ := sent_elem (show DataW.trod enc Try.prog w base (fun _ => true) held n 36 [c1, c2, c3, c4, c5, c6, c7, c8, c9] = some y1 from h1)
    obtain ⟨ad, rfl, _⟩ := tInt (show DataW.trod enc Try.prog w base (fun _ => true) held n 3 [c10] = some y2 from h2)
    obtain ⟨po, rfl, _⟩ := tInt (show DataW.trod enc Try.prog w base (fun _ => true) held n 3 [c11] = some y3 from h3)
    obtain ⟨m, q, a, sv, d, e4, hml, hmf⟩ := msg_elem (show DataW.trod enc Try.prog w base (fun _ => true) held n 40 [c12, c13, c14, c15, c16, c17, c18, c19, c20, c21, c22, c23, c24, c25] = some y4 from h4)
    have e4 : [c12, c13, c14, c15, c16, c17, c18, c19, c20, c21, c22, c23, c24, c25] = [.int .i64 m.id, .bool m.resp, .int .i64 m.op, .bool m.auth, .bool m.cut, .bool m.des, .bool m.avail, .int .i64 m.code, q, a, sv, d, .bool m.edns, .int .i64 m.size] := e4
    refine ⟨⟨kd, s, ad, po, m, q, a, sv, d⟩, ⟨hs.1, hs.2.1, hs.2.2, hml, hmf.ok⟩, ?_⟩
    show _ :: ([c1, c2, c3, c4, c5, c6, c7, c8, c9] ++ (_ :: _ :: [c12, c13, c14, c15, c16, c17, c18, c19, c20, c21, c22, c23, c24, c25])) = _
    rw [e1, e4]
    rfl
theorem open_Acs {v : Value} {d : DataW H} {p : List MemPlace} (hv : Value.okWide Try.prog w .any b0 22 v) (h : DataW.Trod enc Try.prog w base (fun _ => true) held 22 v d p) :
    ∃ a l cap, v = .slice a (l : List Ac).length cap ∧ Acs w v l ∧ ∀ x ∈ l, AcOk w x := by
  obtain ⟨a, len, cap, rfl⟩ := okWide_slice Try.underlying22 hv
  obtain ⟨fuel, hd⟩ := h
  exact open_slc 26 (by omega) acC acC_len (AcOk w) Try.underlying22 (by kernel_rfl) (fun _ _ _ h => act_elem h) hd
end
/-- is an act looked at? -/
def okA (x : Ac) : Bool := decide (x.s.qn.length ≤ 300) && decide (x.s.zone.length ≤ 300) && smallB x.m 1000
def fewA (l : List Ac) : Bool := decide (l.length ≤ 40) && l.all okA
theorem fewA_bad {l : List Ac} {k : Nat} (hk : k < l.length) (h : okA (l.getD k a0) = false) : fewA l = false := by
  unfold fewA
  have : l.all okA = false := List.all_eq_false.2 ⟨l.getD k a0, by rw [List.getD_eq_getElem?_getD, List.getElem?_eq_getElem hk]; exact List.getElem_mem _, by rw [h]; decide⟩
  rw [this, Bool.and_false]
theorem fewA_good {l : List Ac} {k : Nat} (hk : min l.length 50 ≤ k) (h : ∀ a, a < k → a < l.length → okA (l.getD a a0) = true) : fewA l = decide (l.length ≤ 40) := by
  unfold fewA
  by_cases hl : l.length ≤ 40
  · have : l.all okA = true := List.all_eq_true.2 fun x hx => by
      obtain ⟨i, hi, rfl⟩ := List.getElem_of_mem hx
      have := h i (by omega) hi
      rwa [List.getD_eq_getElem?_getD, List.getElem?_eq_getElem hi] at this
    rw [this, Bool.and_true]
  · rw [decide_eq_false hl, Bool.false_and]
end Go.Proofs.Ytblbphnmflbepaa
namespace Go.Proofs.Ytblbphnmflbepaa
open Go.RowKit Go.Shelf Go.Sq
set_option linter.unusedVariables false
attribute [local go_sem] Oper.semAt_some

set_option maxRecDepth 100000 in
set_option maxHeartbeats 4000000 in
theorem few_any (l : List Ac) (a : Option Addr) (cap : Nat) (w : World) (hst : Acs w (.slice a l.length cap) l) (hok : ∀ x ∈ l, AcOk w x) :
    Calls Try.prog 7 #[.slice a l.length cap] w fun e w' => e = .returned (.bool (fewA l)) ∧ Below w.heap.size w w' := by
  obtain ⟨hn1, hc1⟩ := slc_bounds hst
  have HB := Go.Lib.hid (Below.refl w.heap.size w)
  generalize hn : l.length = n at *
  have hres : ∃ r, r = fewA l := ⟨_, rfl⟩
  obtain ⟨res, hres⟩ := hres
  rw [← hres]
  have HX := Go.Lib.hid hst
  have HOK := Go.Lib.hid hok
  have HRES := Go.Lib.hid hres
  have HN := Go.Lib.hid hn
  clear hst hok hres hn
  unfold maxLen at hc1
  go_enter Try.func7, Try.ntmps7
  go_wp2_with fail
  go_loopw [3] (fun i wr => ∃ k : Nat, i = .int .i64 k ∧ k ≤ n ∧ (∀ a, a < k → a < l.length → okA (l.getD a a0) = true) ∧ Below w.heap.size w wr) (fun i _ => n - (intOf i).toNat)
  case atStart => exact ⟨0, rfl, Nat.zero_le _, fun a h => by omega, HB.out⟩
  case round =>
    obtain ⟨k, rfl, hk, hno, hbr⟩ := hrel
    clear HB
    have HNO := Go.Lib.hid hno
    have HB := Go.Lib.hid hbr
    clear hno hbr
    by_cases hlt : k < n
    · by_cases h50 : (k : Int) < 50
      · obtain ⟨b, off, rfl, hbw, hcell⟩ := Acs.at (show Acs wr (.slice a n cap) l by have h := HX.out.below HB.out (Nat.le_refl _); exact h) (by rw [HN.out]; omega)
        have hc := hcell k (by rw [HN.out]; exact hlt)
        have hmem : l.getD k a0 ∈ l := by
          rw [List.getD_eq_getElem?_getD, List.getElem?_eq_getElem (by rw [HN.out]; exact hlt)]
          exact List.getElem_mem _
        obtain ⟨k1, k2, k3, hml, hmo⟩ := HOK.out _ hmem
        have hml := hml.below HB.out (Nat.le_refl _)
        have hbad := Go.Lib.hid (fun h => HRES.out.trans (fewA_bad (l := l) (k := k) (by rw [HN.out]; exact hlt) h))
        generalize hxx : l.getD k a0 = x at *
        obtain ⟨kd, s, addr, port, m, q, av, sv, d⟩ := x
        simp only at hml hmo k1 k2 k3
        obtain ⟨aq, cq, rfl, _, _⟩ := hml.qs.slice
        obtain ⟨aa, ca, rfl, _, _⟩ := hml.an.slice
        obtain ⟨asv, cs, rfl, _, _⟩ := hml.sv.slice
        obtain ⟨ad, cd, rfl, _, _⟩ := hml.ad.slice
        have e6 : wr.cell? ⟨b, off + k * 26 + 1 + 5, none⟩ = some (.string (mk s.qn)) := hc 6 (by decide)
        have e9 : wr.cell? ⟨b, off + k * 26 + 1 + 8, none⟩ = some (.string (mk s.zone)) := hc 9 (by decide)
        have m0 : wr.cell? ⟨b, off + k * 26 + 12, none⟩ = some (.int .i64 m.id) := hc 12 (by decide)
        have m1 : wr.cell? ⟨b, off + k * 26 + 12 + 1, none⟩ = some (.bool m.resp) := hc 13 (by decide)
        have m2 : wr.cell? ⟨b, off + k * 26 + 12 + 2, none⟩ = some (.int .i64 m.op) := hc 14 (by decide)
        have m3 : wr.cell? ⟨b, off + k * 26 + 12 + 3, none⟩ = some (.bool m.auth) := hc 15 (by decide)
        have m4 : wr.cell? ⟨b, off + k * 26 + 12 + 4, none⟩ = some (.bool m.cut) := hc 16 (by decide)
        have m5 : wr.cell? ⟨b, off + k * 26 + 12 + 5, none⟩ = some (.bool m.des) := hc 17 (by decide)
        have m6 : wr.cell? ⟨b, off + k * 26 + 12 + 6, none⟩ = some (.bool m.avail) := hc 18 (by decide)
        have m7 : wr.cell? ⟨b, off + k * 26 + 12 + 7, none⟩ = some (.int .i64 m.code) := hc 19 (by decide)
        have m8 : wr.cell? ⟨b, off + k * 26 + 12 + 8, none⟩ = some (.slice aq m.qs.length cq) := hc 20 (by decide)
        have m9 : wr.cell? ⟨b, off + k * 26 + 12 + 9, none⟩ = some (.slice aa m.an.length ca) := hc 21 (by decide)
        have m10 : wr.cell? ⟨b, off + k * 26 + 12 + 10, none⟩ = some (.slice asv m.sv.length cs) := hc 22 (by decide)
        have m11 : wr.cell? ⟨b, off + k * 26 + 12 + 11, none⟩ = some (.slice ad m.ad.length cd) := hc 23 (by decide)
        have m12 : wr.cell? ⟨b, off + k * 26 + 12 + 12, none⟩ = some (.bool m.edns) := hc 24 (by decide)
        have m13 : wr.cell? ⟨b, off + k * 26 + 12 + 13, none⟩ = some (.int .i64 m.size) := hc 25 (by decide)
        have s1 : (mk s.qn).size = s.qn.length := size_mk _
        have s2 : (mk s.zone).size = s.zone.length := size_mk _
        have hsm := Small_any m _ _ _ _ 1000 wr hml (by omega) hmo
        have HSM := Go.Lib.hid hsm
        have HXX := Go.Lib.hid hxx
        clear hsm hxx
        clear hc hcell hml hmem
        by_cases h1 : 300 < s.qn.length
        · have q1 : (300 : Int) < (s.qn.length : Int) := by omega
          have hr : Hid (res = false) := Go.Lib.hid (hbad.out (by unfold okA; rw [decide_eq_false (by show ¬ s.qn.length ≤ 300; omega)]; rfl))
          clear h1 hbad k2
          go_wp2_with fail
          go_ret
          exact ⟨ret_bool hr.out.symm, HB.out⟩
        · have q1 : ¬ (300 : Int) < (s.qn.length : Int) := by omega
          by_cases h2 : 300 < s.zone.length
          · have q2 : (300 : Int) < (s.zone.length : Int) := by omega
            have hr : Hid (res = false) := Go.Lib.hid (hbad.out (by unfold okA; rw [decide_eq_false (show ¬ s.zone.length ≤ 300 by omega), Bool.and_false, Bool.false_and]))
            clear h1 h2 hbad k2 k3
            go_wp2_with fail
            go_ret
            exact ⟨ret_bool hr.out.symm, HB.out⟩
          · have q2 : ¬ (300 : Int) < (s.zone.length : Int) := by omega
            cases hb : smallB m 1000 with
            | false =>
              have hr : Hid (res = false) := Go.Lib.hid (hbad.out (by unfold okA; rw [show smallB _ 1000 = false from hb, Bool.and_false]))
              rw [hb] at HSM
              clear h1 h2 hbad k2 k3
              go_wp2_with fail
              refine HSM.out.mono ?_; rintro e wb ⟨rfl, hx⟩
              have hb2 := HB.out.trans (hx.mono HB.out.size)
              have HB2 := Go.Lib.hid hb2
              clear hb2
              clear hx
              go_wp2_with fail
              go_ret
              exact ⟨ret_bool hr.out.symm, HB2.out⟩
            | true =>
              have hgood : Hid (okA (l.getD k a0) = true) := Go.Lib.hid (by rw [HXX.out]; unfold okA; rw [decide_eq_true (show s.qn.length ≤ 300 by omega), decide_eq_true (show s.zone.length ≤ 300 by omega), show smallB _ 1000 = true from hb]; rfl)
              rw [hb] at HSM
              clear h1 h2 hbad k2 k3
              go_wp2_with fail
              refine HSM.out.mono ?_; rintro e wb ⟨rfl, hx⟩
              have hb2 := HB.out.trans (hx.mono HB.out.size)
              have HB2 := Go.Lib.hid hb2
              clear hb2
              clear hx
              go_wp2_with fail
              go_roundw
              case rel =>
                refine ⟨k + 1, by go_num, by omega, fun a ha hal => ?_, HB2.out⟩
                rcases Nat.lt_or_ge a k with h | h
                · exact HNO.out a h hal
                · obtain rfl : a = k := by omega
                  exact hgood.out
              case measure => simp [intOf]; omega
      · have hr : Hid (res = decide (n ≤ 40)) := Go.Lib.hid (by rw [HRES.out, fewA_good (k := k) (by omega) HNO.out, HN.out])
        have q5 : ¬ (n : Int) ≤ 40 := by omega
        have q6 : decide (n ≤ 40) = false := decide_eq_false (by omega)
        go_wp2_with fail
        go_ret
        exact ⟨ret_bool (by rw [hr.out, q6]), HB.out⟩
    · obtain rfl : k = n := by omega
      have hr : Hid (res = decide (k ≤ 40)) := Go.Lib.hid (by rw [HRES.out, fewA_good (k := k) (by rw [HN.out]; omega) HNO.out, HN.out])
      by_cases h40 : k ≤ 40
      · have q5 : (k : Int) ≤ 40 := by omega
        have q6 : Hid (decide (k ≤ 40) = true) := Go.Lib.hid (decide_eq_true h40)
        clear h40
        go_wp2_with fail
        go_ret
        exact ⟨ret_bool (by rw [hr.out, q6.out]), HB.out⟩
      · have q5 : ¬ (k : Int) ≤ 40 := by omega
        have q6 : Hid (decide (k ≤ 40) = false) := Go.Lib.hid (decide_eq_false h40)
        clear h40
        go_wp2_with fail
        go_ret
        exact ⟨ret_bool (by rw [hr.out, q6.out]), HB.out⟩
end Go.Proofs.Ytblbphnmflbepaa
namespace Go.Proofs.Ytblbphnmflbepaa
open Go.RowKit Go.Shelf Go.Sq
set_option linter.unusedVariables false
attribute [local go_sem] Oper.semAt_some

theorem ownFrom_IsRef {β : Type} (B base c : Nat) (most : Int) (l : List Sn) : OwnFrom B (fun (_ : β) W => IsRef base c most l W) := fun s W W' row hs hg hr => by
  obtain ⟨h0, v, h1, h2⟩ := hs
  refine ⟨h0, v, ownFrom_heap B c (fun _ : β => _) _ _ s W W' row h1 hg hr, h2.1, ?_⟩
  rcases h2.2 with h | ⟨g, cap, cur, e1, e2, e3, e4⟩
  · exact .inl h
  · exact .inr ⟨g, cap, cur, e1, e2, ownFrom_heap B g (fun _ : β => cur) _ _ s W W' row e3 hg hr, e4⟩
theorem IsRef.set {base c k : Nat} {most : Int} {l : List Sn} {w : World} (h : IsRef base c most l w) {cs : Array Value} {T : TypeId} {fr : Nat × Nat} (hk : w.heap[k]? = some (.cells cs T fr)) (hT : T ≠ 46) (hne : k ≠ c) (o : Nat) (v : Value) : IsRef base c most l (w.setCell ⟨k, o, none⟩ v) := by
  rw [setCell_eq_setRow w k o _ _ fr v hk]
  obtain ⟨h0, u, h1, h2⟩ := h
  have hnv : u.ownBlock ≠ some k := own_ne h2 hk hT
  exact ⟨h0, u, (setRow_other _ _ _ _ (Ne.symm hne)).trans h1, h2.kept (row := some k) ⟨rfl, rfl, rfl, by rw [setRow_size]; exact Nat.le_refl _, fun q hq hn => setRow_other _ _ _ _ (fun e => hn (by rw [e]))⟩ (.inr hnv)⟩
theorem IsRef.drew {base c : Nat} {most : Int} {l : List Sn} {w : World} (h : IsRef base c most l w) : IsRef base c most l w.drew := h
theorem prefix_at {pre L : List Sn} {x : Sn} (h : pre ++ [x] <+: L) : pre.length < L.length ∧ L.getD pre.length s0 = x := by
  obtain ⟨t, rfl⟩ := h
  refine ⟨by simp, ?_⟩
  rw [List.append_assoc, List.getD_eq_getElem?_getD, List.getElem?_append_right (Nat.le_refl _), Nat.sub_self]
  rfl
set_option maxRecDepth 100000 in
set_option maxHeartbeats 8000000 in
theorem shows_any (base b base2 c : Nat) (m1 m2 : Int) (L : List Sn) (w : World) (hT : IsTab base b m1 L w) (hR : IsRef base2 c m2 L w) (hn : L.length ≤ 1000) :
    Calls Try.prog 19 #[.pointer (some ⟨b, 0, none⟩), .pointer (some ⟨c, 0, none⟩)] w fun e w' => e = .returned (.bool true) ∧ Below w.heap.size w w' := by
  have mixed : Try.prog.follows .mixedOrders = true := by kernel_rfl
  have hcl := hR.lt
  obtain ⟨X1, hX1⟩ : ∃ X1, (w.alloc (.cells #[.pointer (some ⟨c, 0, none⟩)] 27)).alloc (.cells #[.bool false] 4) = X1 := ⟨_, rfl⟩
  have hs1 : X1.heap.size = w.heap.size + 2 := by rw [← hX1]; simp
  have hb1 : Below w.heap.size w X1 := by rw [← hX1]; exact ((Below.refl _ _).alloc (Nat.le_refl _) _).alloc (by simp) _
  have k3 : X1.heap[w.heap.size]? = some (.cells #[.pointer (some ⟨c, 0, none⟩)] 27 (0, 0)) := by rw [← hX1, Lib.alloc_old _ _ _ (by simp)]; exact heap_alloc_new _ _
  have k4 : X1.heap[w.heap.size + 1]? = some (.cells #[.bool false] 4 (0, 0)) := by
    have := heap_alloc_new (w.alloc (.cells #[.pointer (some ⟨c, 0, none⟩)] 27)) (.cells #[.bool false] 4)
    rw [World.size_alloc] at this
    rw [← hX1]; exact this
  have hall := All_any (.pointer (some ⟨b, 0, none⟩)) X1 (.inr ⟨_, rfl⟩)
  have hT1 := hT.below hb1
  have hR1 := hR.below hb1
  have hlen := Len_any base b m1 L
  have HALL := Go.Lib.hid hall
  have HLEN := Go.Lib.hid hlen
  have HT1 := Go.Lib.hid hT1
  have HR1 := Go.Lib.hid hR1
  have HB1 := Go.Lib.hid hb1
  have HS1 := Go.Lib.hid hs1
  have K3 := Go.Lib.hid k3
  have K4 := Go.Lib.hid k4
  clear hall hlen hT1 hR1 hb1 hs1 k3 k4
  clear hT hR
  refine (callsIn_wide (n := 8)).1 ?_
  refine callsIn_of_wp_marks Try.func19 rfl trivial ?_ rfl
  simp only [Try.ntmps19, List.size_toArray, List.length_cons, List.length_nil, Nat.reduceAdd, Nat.reduceSub, Array.replicate_succ, Array.replicate_zero, List.push_toArray, List.append_toArray, List.nil_append, List.cons_append]
  gi_wp2_with fail
  refine ⟨trivial, (callsIn_wide.2 HALL.out).mono ?_⟩
  rintro e wl ⟨rfl, hwl⟩
  have hbl : Below X1.heap.size X1 wl := by rw [hwl]; exact (Below.refl _ _).alloc (Nat.le_refl _) _
  have hkl : wl.heap[X1.heap.size]? = some (.cells #[.pointer (some ⟨b, 0, none⟩)] 25 (0, 0)) := by rw [hwl]; exact heap_alloc_new _ _
  have hsl : wl.heap.size = X1.heap.size + 1 := by rw [hwl]; exact World.size_alloc _ _
  have hTl := HT1.out.below hbl
  have hRl := HR1.out.below hbl
  have hbbl := HB1.out.trans (hbl.mono HB1.out.size)
  have h3l := (hbl.block _ (Array.getElem?_eq_some_iff.1 K3.out).1).trans K3.out
  have h4l := (hbl.block _ (Array.getElem?_eq_some_iff.1 K4.out).1).trans K4.out
  obtain ⟨hc0, vr, hcr, hor⟩ := hRl
  obtain ⟨ra, rcap, rfl, _, _⟩ := (SlC.of_owns hor).slice
  have c3 := BelowC.cell (W := wl) (show wl.cell? ⟨w.heap.size, 0, none⟩ = some (.pointer (some ⟨c, 0, none⟩)) by simp [World.cell?, h3l]) (Array.getElem?_eq_some_iff.1 h3l).1
  have c1 := BelowC.cell (W := wl) (show wl.cell? ⟨c, 1, none⟩ = some (.slice ra L.length rcap) by simp [World.cell?, hcr]) (Array.getElem?_eq_some_iff.1 hcr).1
  have hfn : ∀ W, (binOp .eql 68 (.func (.func 34) #[] #[.pointer (some ⟨X1.heap.size, 0, none⟩)]) .nilFunc).run Try.prog W = .ok (.bool false) W := fun W => by kernel_rfl
  have hne : Nonempty (Subtype (Below wl.heap.size wl)) := ⟨⟨wl, Below.refl _ _⟩⟩
  have hRl : IsRef base2 c m2 L wl := ⟨hc0, _, hcr, hor⟩
  have HTL := Go.Lib.hid hTl
  have HRL := Go.Lib.hid hRl
  have HBL := Go.Lib.hid hbbl
  have HKL := Go.Lib.hid hkl
  have HBWL := Go.Lib.hid hbl
  have HSL := Go.Lib.hid hsl
  have H3L := Go.Lib.hid h3l
  have H4L := Go.Lib.hid h4l
  clear hTl hRl hbbl hkl hbl hsl h3l h4l
  clear hwl HALL hcr hor
  gi_wp2_with fail
  refine wpIn_wide.2 ?_
  refine Go.Mix.wp_region_mixT (Es := [4]) 11 (Below wl.heap.size wl) mixed (by kernel_rfl) (Below.refl _ _).drew ?_
  iterate 4 (refine Go.Mix.mixT_step rfl (fun K hK => ?_); have HKK := Go.Lib.hid hK; clear hK; go_simp; refine HKK.out _ _ ?_; clear HKK K)
  refine Go.Mix.mixT_eff rfl (fun K hK => ?_)
  have HKK := Go.Lib.hid hK
  clear hK
  go_simp
  refine (HLEN.out _ HTL.out.drew).mono ?_; rintro e _ ⟨rfl, rfl⟩
  go_simp
  refine HKK.out _ _ (Below.refl _ _).drew ?_
  clear HKK K
  iterate 6 (refine Go.Mix.mixT_step rfl (fun K hK => ?_); have HKK := Go.Lib.hid hK; clear hK; go_simp; refine HKK.out _ _ ?_; clear HKK K)
  refine Go.Mix.mixT_last rfl (fun K hK => ?_)
  have HKK := Go.Lib.hid hK
  clear hK
  go_simp
  refine HKK.out _ _ ?_
  clear HKK K c1 c3 hne hfn
  obtain ⟨R, hR⟩ : ∃ R, R = (wl.alloc (.cells #[.int .i64 0] 3)).drew := ⟨_, rfl⟩
  have hbR : Below wl.heap.size wl R := by rw [hR]; exact ((Below.refl _ wl).alloc (Nat.le_refl _) _).drew
  have hk6 : R.heap[wl.heap.size]? = some (.cells #[.int .i64 0] 3 (0, 0)) := by rw [hR]; exact heap_alloc_new wl _
  have hRs : R.heap.size = wl.heap.size + 1 := by rw [hR]; exact World.size_alloc wl _
  have hTR := HTL.out.below hbR
  have hRR := HRL.out.below hbR
  have hbRw := HBL.out.trans (hbR.mono HBL.out.size)
  have h3R := (hbR.block _ (Array.getElem?_eq_some_iff.1 H3L.out).1).trans H3L.out
  have h4R := (hbR.block _ (Array.getElem?_eq_some_iff.1 H4L.out).1).trans H4L.out
  have hkR : R.heap[X1.heap.size]? = _ := (hbR.block _ (Array.getElem?_eq_some_iff.1 HKL.out).1).trans HKL.out
  have hseq := all_seq 7 (by omega) X1.heap.size base b m1 L R hTR (by omega) (Array.getElem?_eq_some_iff.1 hkR).1 (by simp [World.cell?, hkR])
  have HRS := Go.Lib.hid hRs
  have HRR := Go.Lib.hid hRR
  have HBR := Go.Lib.hid hbRw
  have HSEQ := Go.Lib.hid hseq
  have HK6 := Go.Lib.hid hk6
  have H3R := Go.Lib.hid h3R
  have H4R := Go.Lib.hid h4R
  clear hRs hRR hbRw hseq hk6 h3R h4R
  clear hbR hTR hkR
  gi_wp2_with fail
  rw [← hR]
  clear hR
  refine act_gen fun T hT => ?_
  refine wpIn_rangeFunc_ok rfl (by omega) (gf := 34) (lb := #[.pointer (some ⟨X1.heap.size, 0, none⟩)]) (by rw [hT]; rfl) trivial (enters_of Try.func34 (by kernel_rfl) rfl)
    HSEQ.out KpT.trans (fun W l o o' _ h1 h2 _ => KpT.put W l o o' h1 h2) (Below.refl _ _) (fun _ => rfl)
    (fun pre W => Below w.heap.size w W ∧ (R.heap.size ≤ W.heap.size ∧ (IsRef base2 c m2 L W ∧ (W.heap[w.heap.size]? = some (.cells #[.pointer (some ⟨c, 0, none⟩)] 27 (0, 0)) ∧ (W.heap[w.heap.size + 1]? = some (.cells #[.bool false] 4 (0, 0)) ∧ W.heap[wl.heap.size]? = some (.cells #[.int .i64 (pre.length : Int)] 3 (0, 0))))))) (fun _ _ _ => False)
    (OwnFrom.and (ownFrom_below (Nat.le_refl _) (by have := HRS.out; have := HSL.out; have := HS1.out; omega)) (OwnFrom.and (ownFrom_size _ _) (OwnFrom.and (ownFrom_IsRef _ _ _ _ _) (OwnFrom.and (ownFrom_heap _ _ (fun _ => _) _ _) (OwnFrom.and (ownFrom_heap _ _ (fun _ => _) _ _) (ownFrom_heap _ _ (fun pre : List Sn => #[.int .i64 (pre.length : Int)]) _ _))))))
    (fun cd _ _ _ _ h _ _ => h.elim)
    ⟨HBR.out, Nat.le_refl _, HRR.out, H3R.out, H4R.out, HK6.out⟩ (fun x a' W => ∃ Nb, (R.heap.size ≤ Nb ∧ a' = { tmps := (T.setIfInBounds 23 (snV x)).setIfInBounds 7 (.pointer (some ⟨Nb, 0, none⟩)), defers := [] }) ∧ W.heap[Nb]? = some (.cells (snA x) 36 (0, 0)))
    (fun x a' => ownFrom_ex fun Nb => OwnFrom.and (ownFrom_const _ _) (ownFrom_heap _ _ (fun _ => _) _ _)) ?assign ?body ?done ?stop
  case assign =>
    intro lp pre x W K hi hok hK
    have HK := Go.Lib.hid hK
    have HI := Go.Lib.hid hi
    clear hK hi
    subst hT
    unfold encSn
    gi_wp2
    have hw := heap_alloc_new W (.cells (snA x) 36)
    have hbw : Below W.heap.size W (W.alloc (.cells (snA x) 36)) := (Below.refl _ W).alloc (Nat.le_refl _) _
    have old : ∀ {k : Nat} {o : Obj}, W.heap[k]? = some o → (W.alloc (.cells (snA x) 36)).heap[k]? = some o := fun h => (hbw.block _ (Array.getElem?_eq_some_iff.1 h).1).trans h
    obtain ⟨i1, i2, i3, i4, i5, i6⟩ := HI.out
    refine HK.out _ _ (keepsFrom_below hbw) ((KpT.refl W).alloc _) ⟨i1.trans (hbw.mono i1.size), Nat.le_trans i2 hbw.size, i3.below hbw, old i4, old i5, old i6⟩ ⟨W.heap.size, ⟨i2, ?fr⟩, hw⟩
    case fr => rfl
  case body =>
    rintro lp pre x a' W ⟨hb, hsz, hRW, h3, h4, h6⟩ hok ⟨Nb, ⟨hNb, rfl⟩, hx⟩
    subst hT
    simp only [List.setIfInBounds_toArray, List.set_cons_succ, List.set_cons_zero]
    obtain ⟨hpl, hpx⟩ := prefix_at hok
    have hNl := (Array.getElem?_eq_some_iff.1 hx).1
    have hcW := hRW.lt
    have hrs := HRS.out
    have hs1 := HS1.out
    have hsl := HSL.out
    have hRW0 := hRW
    obtain ⟨hc0, vr, hcr, hor⟩ := hRW
    have hsr := SlC.of_owns hor
    obtain ⟨ra, rcap, rfl, _, _⟩ := hsr.slice
    obtain ⟨rg, roff, rfl, hrgw, hcell⟩ := Sns.at (hsr : Sns W (.slice ra L.length rcap) L) (by omega)
    have hat := hcell pre.length hpl
    rw [hpx] at hat
    obtain ⟨e0, e1, e2, e3, e4, e5, e6, e7, e8⟩ := hat.box
    obtain ⟨d0, d1, d2, d3, d4, d5, d6, d7, d8⟩ := SnBlk.of_heap hx
    have E0 := BelowC.cell (W := W) e0 hrgw
    have E1 := BelowC.cell (W := W) e1 hrgw
    have E2 := BelowC.cell (W := W) e2 hrgw
    have E3 := BelowC.cell (W := W) e3 hrgw
    have E4 := BelowC.cell (W := W) e4 hrgw
    have E5 := BelowC.cell (W := W) e5 hrgw
    have E6 := BelowC.cell (W := W) e6 hrgw
    have E7 := BelowC.cell (W := W) e7 hrgw
    have E8 := BelowC.cell (W := W) e8 hrgw
    have D0 := BelowC.cell (W := W) d0 hNl
    have D1 := BelowC.cell (W := W) d1 hNl
    have D2 := BelowC.cell (W := W) d2 hNl
    have D3 := BelowC.cell (W := W) d3 hNl
    have D4 := BelowC.cell (W := W) d4 hNl
    have D5 := BelowC.cell (W := W) d5 hNl
    have D6 := BelowC.cell (W := W) d6 hNl
    have D7 := BelowC.cell (W := W) d7 hNl
    have D8 := BelowC.cell (W := W) d8 hNl
    have C3 := BelowC.cell (W := W) (show W.cell? ⟨w.heap.size, 0, none⟩ = some (.pointer (some ⟨c, 0, none⟩)) by simp [World.cell?, h3]) (Array.getElem?_eq_some_iff.1 h3).1
    have C1 := BelowC.cell (W := W) (show W.cell? ⟨c, 1, none⟩ = some (.slice (some ⟨rg, roff, none⟩) L.length rcap) by simp [World.cell?, hcr]) hcW
    have C6 := BelowC.cell (W := W) (show W.cell? ⟨wl.heap.size, 0, none⟩ = some (.int .i64 (pre.length : Int)) by simp [World.cell?, h6]) (Array.getElem?_eq_some_iff.1 h6).1
    have hne : Nonempty (Subtype (Below W.heap.size W)) := ⟨⟨W, Below.refl _ _⟩⟩
    have hw1 : IntKind.i64.wrap ((pre.length : Int) + 1) = (pre.length : Int) + 1 := wrapi (by omega) (by omega)
    have hpl2 : ((pre ++ [x]).length : Int) = (pre.length : Int) + 1 := by simp
    have hflat := fun W => flat_any x W
    generalize hPn : pre.length = pn at *
    have hi1 : (pn : Int) < (L.length : Int) := by omega
    have HBB := Go.Lib.hid hb
    have HSZ := Go.Lib.hid hsz
    have HRW := Go.Lib.hid hRW0
    have H3 := Go.Lib.hid h3
    have H4 := Go.Lib.hid h4
    have H6 := Go.Lib.hid h6
    have HX := Go.Lib.hid hx
    have HOK := Go.Lib.hid hok
    have HPL2 := Go.Lib.hid hpl2
    have HFLAT := Go.Lib.hid hflat
    have HPN := Go.Lib.hid hPn
    have HRS2 := Go.Lib.hid hrs
    have HS12 := Go.Lib.hid hs1
    have HSL2 := Go.Lib.hid hsl
    have HPX := Go.Lib.hid hpx
    clear hb hsz hRW0 h3 h4 h6 hx hok hpl2 hflat hPn hrs hs1 hsl hpx
    clear e0 e1 e2 e3 e4 e5 e6 e7 e8 d0 d1 d2 d3 d4 d5 d6 d7 d8 hcell hat hsr hor hcr
    gi_wp2_with fail
    refine Go.Mix.wpIn_region_mixT (Es := [9]) 18 (Below W.heap.size W) mixed (by kernel_rfl) (Below.refl _ _).drew ?_
    iterate 9 (refine Go.Mix.mixT_step rfl (fun K hK => ?_); have HKK := Go.Lib.hid hK; clear hK; go_simp; refine HKK.out _ _ ?_; clear HKK K)
    refine Go.Mix.mixT_eff rfl (fun K hK => ?_)
    have HKK := Go.Lib.hid hK
    clear hK
    go_simp
    refine (HFLAT.out _).mono ?_; rintro e wf ⟨rfl, hxf⟩
    have hbf : Below W.heap.size W wf := ((Below.refl W.heap.size W).drew).trans hxf
    have HBF := Go.Lib.hid hbf
    clear hbf
    clear hxf
    go_simp
    refine HKK.out _ _ HBF.out ?_
    clear HKK K
    iterate 8 (refine Go.Mix.mixT_step rfl (fun K hK => ?_); have HKK := Go.Lib.hid hK; clear hK; go_simp; refine HKK.out _ _ ?_; clear HKK K)
    refine Go.Mix.mixT_last rfl (fun K hK => ?_)
    have HKK := Go.Lib.hid hK
    clear hK
    go_simp
    refine HKK.out _ _ ?_
    clear HKK K C1 C3 C6 hne D0 D1 D2 D3 D4 D5 D6 D7 D8 E0 E1 E2 E3 E4 E5 E6 E7 E8
    have h6f := (HBF.out.block _ (Array.getElem?_eq_some_iff.1 H6.out).1).trans H6.out
    have z1 : wf.cell? ⟨wl.heap.size, 0, none⟩ = some (.int .i64 (pn : Int)) := by simp [World.cell?, h6f]
    have z2 : wf.frozen? ⟨wl.heap.size, 0, none⟩ = false := frozen_row h6f _
    have hset : wf.setCell ⟨wl.heap.size, 0, none⟩ (.int .i64 ((pn : Int) + 1)) = wf.setRow wl.heap.size #[.int .i64 ((pn : Int) + 1)] := setCell_eq_setRow wf _ 0 _ _ (0, 0) _ h6f
    have hcw : c < w.heap.size := hcl
    have n1 : w.heap.size < wl.heap.size := by have := HS12.out; have := HSL2.out; omega
    have g3 : (wf.setCell ⟨wl.heap.size, 0, none⟩ (.int .i64 ((pn : Int) + 1))).heap[w.heap.size]? = some (.cells #[.pointer (some ⟨c, 0, none⟩)] 27 (0, 0)) := by rw [hset, setRow_other _ _ _ _ (by omega)]; exact (HBF.out.block _ (Array.getElem?_eq_some_iff.1 H3.out).1).trans H3.out
    have g4 : (wf.setCell ⟨wl.heap.size, 0, none⟩ (.int .i64 ((pn : Int) + 1))).heap[w.heap.size + 1]? = some (.cells #[.bool false] 4 (0, 0)) := by rw [hset, setRow_other _ _ _ _ (by have := HS12.out; have := HSL2.out; omega)]; exact (HBF.out.block _ (Array.getElem?_eq_some_iff.1 H4.out).1).trans H4.out
    have g6 : (wf.setCell ⟨wl.heap.size, 0, none⟩ (.int .i64 ((pn : Int) + 1))).heap[wl.heap.size]? = some (.cells #[.int .i64 ((pn : Int) + 1)] 3 (0, 0)) := by rw [hset]; exact heap_row h6f
    have gR := (HRW.out.below HBF.out).set h6f (by decide) (by omega) 0 (.int .i64 ((pn : Int) + 1))
    have gb := (HBB.out.trans (HBF.out.mono HBB.out.size)).setCell (p := ⟨wl.heap.size, 0, none⟩) (show w.heap.size ≤ wl.heap.size by omega) (.int .i64 ((pn : Int) + 1))
    have gs : R.heap.size ≤ (wf.setCell ⟨wl.heap.size, 0, none⟩ (.int .i64 ((pn : Int) + 1))).heap.size := by have := HSZ.out; have := HBF.out.size; simp; omega
    have gk : KeepsFrom R.heap.size W (wf.setCell ⟨wl.heap.size, 0, none⟩ (.int .i64 ((pn : Int) + 1))) := (keepsFrom_below HBF.out).trans ((KeepsOthers.setCell _ _ _).from _)
    have gp : KpT IsSn W (wf.setCell ⟨wl.heap.size, 0, none⟩ (.int .i64 ((pn : Int) + 1))) := (KpT.of_below HBF.out).set (a := ⟨wl.heap.size, 0, none⟩) h6f (by decide) _
    have G3 := Go.Lib.hid g3
    have G4 := Go.Lib.hid g4
    have G6 := Go.Lib.hid g6
    have GR := Go.Lib.hid gR
    have GBB := Go.Lib.hid gb
    have GS := Go.Lib.hid gs
    have GK := Go.Lib.hid gk
    have GP := Go.Lib.hid gp
    clear g3 g4 g6 gR gb gs gk gp
    clear hset h6f
    gi_wp2_with fail
    refine ⟨GK.out, GP.out, GBB.out, GS.out, GR.out, G3.out, G4.out, ?_⟩
    rw [HPL2.out]
    exact G6.out
  case done =>
    rintro D ys W hD rfl ⟨hb, hsz, hRW, h3, h4, h6⟩ hK
    subst hT
    have hrs := HRS.out
    have hs1 := HS1.out
    have hsl := HSL.out
    have hcW := hRW.lt
    obtain ⟨hc0, vr, hcr, hor⟩ := hRW
    obtain ⟨ra, rcap, rfl, _, _⟩ := (SlC.of_owns hor).slice
    have C3 := BelowC.cell (W := W) (show W.cell? ⟨w.heap.size, 0, none⟩ = some (.pointer (some ⟨c, 0, none⟩)) by simp [World.cell?, h3]) (Array.getElem?_eq_some_iff.1 h3).1
    have C1 := BelowC.cell (W := W) (show W.cell? ⟨c, 1, none⟩ = some (.slice ra ys.length rcap) by simp [World.cell?, hcr]) hcW
    have C6 := BelowC.cell (W := W) (show W.cell? ⟨wl.heap.size, 0, none⟩ = some (.int .i64 (ys.length : Int)) by simp [World.cell?, h6]) (Array.getElem?_eq_some_iff.1 h6).1
    have hne : Nonempty (Subtype (Below W.heap.size W)) := ⟨⟨W, Below.refl _ _⟩⟩
    have z1 : W.cell? ⟨w.heap.size + 1, 0, none⟩ = some (.bool false) := by simp [World.cell?, h4]
    have z2 : W.frozen? ⟨w.heap.size + 1, 0, none⟩ = false := frozen_row h4 _
    have hset : W.setCell ⟨w.heap.size + 1, 0, none⟩ (.bool true) = W.setRow (w.heap.size + 1) #[.bool true] := setCell_eq_setRow W _ 0 _ _ (0, 0) _ h4
    have g4 : (W.setCell ⟨w.heap.size + 1, 0, none⟩ (.bool true)).heap[w.heap.size + 1]? = some (.cells #[.bool true] 4 (0, 0)) := by rw [hset]; exact heap_row h4
    have gD : (W.setCell ⟨w.heap.size + 1, 0, none⟩ (.bool true)).heap[D]? = some (.deferred (some [])) := by rw [hset, setRow_other _ _ _ _ (by omega)]; exact hK
    have gb := hb.setCell (p := ⟨w.heap.size + 1, 0, none⟩) (show w.heap.size ≤ w.heap.size + 1 by omega) (.bool true)
    have HBB := Go.Lib.hid hb
    have HDD := Go.Lib.hid hD
    have HKD := Go.Lib.hid hK
    have G4 := Go.Lib.hid g4
    have GD := Go.Lib.hid gD
    have GBB := Go.Lib.hid gb
    have HRS2 := Go.Lib.hid hrs
    have HS12 := Go.Lib.hid hs1
    have HSL2 := Go.Lib.hid hsl
    clear hb hD hK g4 gD gb hrs hs1 hsl
    clear hor hcr hset
    gi_wp2_with fail
    refine wpIn_wide.2 ?_
    refine Go.Mix.wp_region_mixT (Es := []) 7 (Below W.heap.size W) mixed (by kernel_rfl) (Below.refl _ _).drew ?_
    iterate 7 (refine Go.Mix.mixT_step rfl (fun K hK => ?_); have HKK := Go.Lib.hid hK; clear hK; go_simp; refine HKK.out _ _ ?_; clear HKK K)
    refine Go.Mix.mixT_last rfl (fun K hK => ?_)
    have HKK := Go.Lib.hid hK
    clear hK
    go_simp
    refine HKK.out _ _ ?_
    clear HKK K C1 C3 C6 hne
    gi_wp2_with fail
    refine ⟨by simp, .inl ⟨_, _, rfl, run_takeDeferred (show (W.setCell ⟨w.heap.size + 1, 0, none⟩ (.bool true)).drew.heap[D]? = _ from GD.out), ?_⟩⟩
    have hDl := HDD.out
    have hrs := HRS2.out
    have hs1 := HS12.out
    have hsl := HSL2.out
    refine ⟨_, results_box rfl _ _ _ _ rfl ((World.putObj_heap_other (by omega)).trans (show (W.setCell ⟨w.heap.size + 1, 0, none⟩ (.bool true)).drew.heap[w.heap.size + 1]? = _ from G4.out)), ?_⟩
    exact ⟨rfl, GBB.out.drew.trans (belowK_b (w := w) (Nat.le_refl _) _ D _ _ (by omega) (show (W.setCell ⟨w.heap.size + 1, 0, none⟩ (.bool true)).drew.heap[D]? = _ from GD.out) rfl rfl)⟩
  case stop =>
    rintro D cd pre W hD hpre h hK
    exact h.elim
end Go.Proofs.Ytblbphnmflbepaa
namespace Go.Proofs.Ytblbphnmflbepaa
open Go.RowKit Go.Shelf Go.Sq
set_option linter.unusedVariables false

theorem up_iff (l : List Sn) : JobsUp l ↔ l.Pairwise (fun a b => a.job < b.job) := by
  rw [List.pairwise_iff_getElem]
  have e : ∀ i (h : i < l.length), jobAt l i = l[i].job := fun i h => by
    unfold jobAt
    rw [List.getD_eq_getElem?_getD, List.getElem?_eq_getElem h]
    rfl
  constructor
  · intro h i j hi hj hij
    have := h i j hij hj
    rw [e i hi, e j hj] at this
    exact this
  · intro h i j hij hj
    have hi : i < l.length := by omega
    rw [e i hi, e j hj]
    exact h i j hi hj hij
theorem split_job (t : Int) : ∀ (l : List Sn), l.Pairwise (fun a b => a.job < b.job) → ∃ P Q, (∀ s ∈ P, s.job < t) ∧ (∀ s ∈ Q, t < s.job) ∧ (l = P ++ Q ∨ ∃ m, m.job = t ∧ l = P ++ m :: Q)
  | [], _ => ⟨[], [], fun s h => (by simp at h), fun s h => (by simp at h), .inl rfl⟩
  | s :: l, h => by
    obtain ⟨h1, h2⟩ := List.pairwise_cons.1 h
    rcases Int.lt_trichotomy s.job t with hlt | heq | hgt
    · obtain ⟨P, Q, hP, hQ, hl⟩ := split_job t l h2
      refine ⟨s :: P, Q, fun x hx => ?_, hQ, ?_⟩
      · rcases List.mem_cons.1 hx with rfl | hx
        · exact hlt
        · exact hP x hx
      · rcases hl with rfl | ⟨m, hm, rfl⟩
        · exact .inl rfl
        · exact .inr ⟨m, hm, rfl⟩
    · exact ⟨[], l, fun x hx => (by simp at hx), fun x hx => (by have := h1 x hx; omega), .inr ⟨s, heq, rfl⟩⟩
    · refine ⟨[], s :: l, fun x hx => (by simp at hx), fun x hx => ?_, .inl rfl⟩
      rcases List.mem_cons.1 hx with rfl | hx
      · exact hgt
      · have := h1 x hx; omega
theorem addN_max (most : Int) (l : List Sn) (s : Sn) : addN (max most 0) l s = addN most l s := by
  unfold addN
  by_cases h : most ≤ (l.length : Int)
  · rw [if_pos h, if_pos (show max most 0 ≤ (l.length : Int) by omega)]
  · rw [if_neg h, if_neg (show ¬ max most 0 ≤ (l.length : Int) by omega)]
theorem add_keep {most : Int} {l : List Sn} {s : Sn} (h : JobsUp l) (hs : SnOk l) (h1 : s.qn.length ≤ maxLen) : JobsUp (addN most l s).1 ∧ SnOk (addN most l s).1 ∧ (addN most l s).1.length ≤ l.length + 1 := by
  have hp := (up_iff l).1 h
  obtain ⟨P, Q, hP, hQ, rfl | ⟨m, hm, rfl⟩⟩ := split_job s.job l hp
  · rw [add_out hP hQ rfl]
    split
    · exact ⟨h, hs, by simp⟩
    · refine ⟨(up_iff _).2 ?_, fun x hx => ?_, by simp; omega⟩
      · rw [List.pairwise_append] at hp ⊢
        refine ⟨hp.1, List.pairwise_cons.2 ⟨hQ, hp.2.1⟩, fun a ha b hb => ?_⟩
        rcases List.mem_cons.1 hb with rfl | hb
        · exact hP a ha
        · exact hp.2.2 a ha b hb
      · simp only [List.mem_append, List.mem_cons] at hx
        rcases hx with hx | rfl | hx
        · exact hs x (by simp [hx])
        · exact h1
        · exact hs x (by simp [hx])
  · rw [add_in hP hQ rfl hm]
    refine ⟨(up_iff _).2 ?_, fun x hx => ?_, by simp⟩
    · rw [List.pairwise_append] at hp ⊢
      refine ⟨hp.1, List.pairwise_cons.2 ⟨hQ, (List.pairwise_cons.1 hp.2.1).2⟩, fun a ha b hb => ?_⟩
      rcases List.mem_cons.1 hb with rfl | hb
      · exact hP a ha
      · exact hp.2.2 a ha b (by simp [hb])
    · simp only [List.mem_append, List.mem_cons] at hx
      rcases hx with hx | rfl | hx
      · exact hs x (by simp [hx])
      · exact h1
      · exact hs x (by simp [hx])
theorem drop_keep {l : List Sn} (t : Int) (h : JobsUp l) (hs : SnOk l) : JobsUp (dropN l t).1 ∧ SnOk (dropN l t).1 ∧ (dropN l t).1.length ≤ l.length := by
  have hp := (up_iff l).1 h
  obtain ⟨P, Q, hP, hQ, rfl | ⟨m, hm, rfl⟩⟩ := split_job t l hp
  · rw [drop_out hP hQ]
    exact ⟨h, hs, Nat.le_refl _⟩
  · rw [drop_in hP hQ hm]
    refine ⟨(up_iff _).2 ?_, fun x hx => ?_, by simp⟩
    · rw [List.pairwise_append] at hp ⊢
      exact ⟨hp.1, (List.pairwise_cons.1 hp.2.1).2, fun a ha b hb => hp.2.2 a ha b (by simp [hb])⟩
    · simp only [List.mem_append] at hx
      rcases hx with hx | hx
      · exact hs x (by simp [hx])
      · exact hs x (by simp [hx])
theorem fewA_len {l : List Ac} (h : fewA l = true) : l.length ≤ 40 := by
  unfold fewA at h
  rw [Bool.and_eq_true, decide_eq_true_iff] at h
  exact h.1
/-- a block's cells, as a class of worlds -/
def RowC (g : Nat) (cs : Array Value) (T : TypeId) (W : World) : Prop := W.heap[g]? = some (.cells cs T (0, 0))
theorem RowC.cell {g : Nat} {cs : Array Value} {T : TypeId} (i : Nat) (v : Value) (h : cs[i]? = some v) (w3 : Subtype (RowC g cs T)) : w3.1.cell? ⟨g, i, none⟩ = some v := by
  have := w3.2
  unfold RowC at this
  simp [World.cell?, this, h]
theorem row_cell {W : World} {g : Nat} {cs : Array Value} {T : TypeId} {fr : Nat × Nat} (hr : W.heap[g]? = some (.cells cs T fr)) (i : Nat) (v : Value) (h : cs[i]? = some v) : W.cell? ⟨g, i, none⟩ = some v := by
  simp [World.cell?, hr, h]
theorem KeepsC.row {c k : Nat} {w w' : World} {o : Obj} (h : KeepsC c w w') (hk : w.heap[k]? = some o) (hne : k ≠ c) : w'.heap[k]? = some o := (h.2 k (Array.getElem?_eq_some_iff.1 hk).1 hne).trans hk
/-- a struct laid into a box of its own: the two operations as one -/
theorem wpList_box {P : Program} {w : World} {ops : Array Oper} {rest : List Oper} {o1 o2 : Oper} {a : Act} {Q : Exit → Act → World → Prop} (g1 : o1.guard = none) (g2 : o2.guard = none) (ty : TypeId) (n : Nat) (y : Operand)
    (h1 : o1.op = .alloc ty) (hd : o1.dst = some n) (h2 : o2.op = .store ty (.tmp n) y) (cells zs : Array Value)
    (hz : (P.info? ty).map (fun i => (i.zero, i.size)) = some (some (.agg zs), cells.size)) (hzs : zs.size = cells.size)
    (hp : (a.put (some n) (.pointer (some ⟨w.heap.size, 0, none⟩))).eval (.tmp n) = .pointer (some ⟨w.heap.size, 0, none⟩))
    (hy : (a.put (some n) (.pointer (some ⟨w.heap.size, 0, none⟩))).eval y = .agg cells) (hone : cells.all (·.oneCell') = true)
    (h : wpList P ops Q rest ((a.put (some n) (.pointer (some ⟨w.heap.size, 0, none⟩))).put o2.dst undef) (w.alloc (.cells cells ty))) : wpList P ops Q (o1 :: o2 :: rest) a w := by
  obtain ⟨z1, z2⟩ := zero_of_info hz
  refine wpList_plain g1 fun K hK => ?_
  have hrun : (execOp a.eval o1).run P w = .ok (.value (.pointer (some ⟨w.heap.size, 0, none⟩))) (w.alloc (.cells zs ty)) := by
    unfold execOp
    simp [h1, Instr.alloc, z1, newVar, newRow, Value.cells]
  unfold Oper.wp
  rw [hrun, Oper.upon_value, hd]
  refine hK _ _ (wpList_plain g2 fun K2 hK2 => ?_)
  have hst := run_storeAt_new (P := P) w ty zs cells z2 hzs hone
  have hrun2 : (execOp (a.put (some n) (.pointer (some ⟨w.heap.size, 0, none⟩))).eval o2).run P (w.alloc (.cells zs ty)) = .ok .skip (w.alloc (.cells cells ty)) := by
    unfold execOp
    simp only [h2, hp, hy, Sem.run_bind, hst, Result.andThen_ok, Sem.run_pure]
  unfold Oper.wp
  rw [hrun2, Oper.upon_skip]
  exact hK2 _ _ h
theorem ac_info : (Try.prog.info? 42).map (fun i => (i.zero, i.size)) = some (some (.agg #[.int .i64 0, .int .i64 0, .int .i64 0, .int .i64 0, .string ⟨#[]⟩, .int .i64 0, .string ⟨#[]⟩, .int .i64 0, .int .i64 0, .string ⟨#[]⟩, .int .i64 0, .int .i64 0, .int .i64 0, .bool false, .int .i64 0, .bool false, .bool false, .bool false, .bool false, .int .i64 0, .slice none 0 0, .slice none 0 0, .slice none 0 0, .slice none 0 0, .bool false, .int .i64 0]), 26) := by kernel_rfl
theorem acC_one {w : World} {x : Ac} (h : MsgL w x.m x.q x.a x.sv x.d) : (acC x).toArray.all (·.oneCell') = true := by
  obtain ⟨kd, s, addr, port, m, q, av, sv, d⟩ := x
  simp only at h
  obtain ⟨aq, cq, rfl, _, _⟩ := h.qs.slice
  obtain ⟨aa, ca, rfl, _, _⟩ := h.an.slice
  obtain ⟨asv, cs, rfl, _, _⟩ := h.sv.slice
  obtain ⟨ad, cd, rfl, _, _⟩ := h.ad.slice
  simp [acC, Value.oneCell']
theorem ac_size (x : Ac) : (Try.prog.info? 42).map (·.size) = some (acC x).length := by rw [acC_len]; kernel_rfl
theorem ac_zero (x : Ac) : (Try.prog.info? 42).map (fun i => (i.zero, i.size)) = some (some (.agg #[.int .i64 0, .int .i64 0, .int .i64 0, .int .i64 0, .string ⟨#[]⟩, .int .i64 0, .string ⟨#[]⟩, .int .i64 0, .int .i64 0, .string ⟨#[]⟩, .int .i64 0, .int .i64 0, .int .i64 0, .bool false, .int .i64 0, .bool false, .bool false, .bool false, .bool false, .int .i64 0, .slice none 0 0, .slice none 0 0, .slice none 0 0, .slice none 0 0, .bool false, .int .i64 0]), (acC x).toArray.size) := by
  rw [ac_info]
  rfl
theorem acs_range {w : World} {b off k : Nat} {x : Ac} (h : ∀ i, i < 26 → w.cell? ⟨b, off + k * 26 + i, none⟩ = (acC x)[i]?) : w.rangeAt b (off + k * 26) (acC x) := fun j v hv => by
  have hj : j < 26 := by
    have := (List.getElem?_eq_some_iff.1 hv).1
    rwa [acC_len] at this
  rw [h j hj, hv]
end Go.Proofs.Ytblbphnmflbepaa

