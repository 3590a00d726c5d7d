/- Arguments opened: questions, messages. No conditions. -/
import Derived.Test.YtblbphnmflbepaaAlkB
namespace Go.Proofs.Ytblbphnmflbepaa
open Go.RowKit Go.ChangeShapes Go.WideShapes Go.Deep
set_option linter.unusedVariables false

def QnFit (q : Qn) : Prop := q.name.length ≤ maxLen ∧ Fits q.ty ∧ Fits q.cl
section
variable {H : Type} {enc : TypeId × Value → H} {w : World} {base b0 : Nat} {spare : Nat → Bool} {held : Bool}
theorem qn_elem {n : Nat} {cs : List Value} {y : DataW H × List MemPlace} (h : DataW.trod enc Try.prog w base spare held n 34 cs = some y) : ∃ r, QnFit r ∧ cs = en3 r := by
  obtain ⟨hl, n, hf⟩ := openE Try.underlying34 (by kernel_rfl) (by kernel_rfl) h
  obtain ⟨u0, y0, e0, h0⟩ := hf 0 _ rfl
  obtain ⟨u1, y1, e1, h1⟩ := hf 1 _ rfl
  obtain ⟨u2, y2, e2, h2⟩ := hf 2 _ rfl
  obtain ⟨a, b, c, rfl⟩ := three (show cs.length = 3 from hl)
  obtain rfl : a = u0 := Option.some.inj e0
  obtain rfl : b = u1 := Option.some.inj e1
  obtain rfl : c = u2 := Option.some.inj e2
  obtain ⟨s, rfl, hs⟩ := tStr h0
  obtain ⟨i, rfl, hi⟩ := tInt h1
  obtain ⟨j, rfl, hj⟩ := tInt h2
  exact ⟨⟨s, i, j⟩, ⟨hs, hi, hj⟩, rfl⟩
theorem open_Qn {v : Value} {d : DataW H} {p : List MemPlace} (hv : Value.okWide Try.prog w .any b0 34 v) (h : DataW.Trod enc Try.prog w base spare held 34 v d p) :
    ∃ r : Qn, v = .agg #[.string (mk r.name), .int .i64 r.ty, .int .i64 r.cl] ∧ QnFit r := by
  obtain ⟨cs, rfl, hl, n, hf⟩ := openS Try.underlying34 (by kernel_rfl) (by kernel_rfl) hv h
  obtain ⟨u0, y0, e0, h0⟩ := hf 0 _ rfl
  obtain ⟨u1, y1, e1, h1⟩ := hf 1 _ rfl
  obtain ⟨u2, y2, e2, h2⟩ := hf 2 _ rfl
  obtain ⟨a, b, c, rfl⟩ := three (show cs.length = 3 from hl)
  obtain rfl : a = u0 := Option.some.inj e0
  obtain rfl : b = u1 := Option.some.inj e1
  obtain rfl : c = u2 := Option.some.inj e2
  obtain ⟨s, rfl, hs⟩ := tStr h0
  obtain ⟨i, rfl, hi⟩ := tInt h1
  obtain ⟨j, rfl, hj⟩ := tInt h2
  exact ⟨⟨s, i, j⟩, rfl, hs, hi, hj⟩
theorem openQns {fuel : Nat} {v : Value} {y : DataW H × List MemPlace} (hd : DataW.trod enc Try.prog w base (fun _ => true) held fuel 37 [v] = some y) :
    ∃ a l cap, v = .slice a (l : List Qn).length cap ∧ Qns w v l ∧ ∀ r ∈ l, QnFit r :=
  open_slc 3 (by omega) en3 (fun _ => rfl) QnFit Try.underlying37 (by kernel_rfl) (fun _ _ _ h => qn_elem h) hd

theorem fourteen {α : Type} {l : List α} (h : l.length = 14) : ∃ a0 a1 a2 a3 a4 a5 a6 a7 a8 a9 a10 a11 a12 a13, l = [a0, a1, a2, a3, a4, a5, a6, a7, a8, a9, a10, a11, a12, a13] := by
  match l, h with
  | [a0, a1, a2, a3, a4, a5, a6, a7, a8, a9, a10, a11, a12, a13], _ => exact ⟨a0, a1, a2, a3, a4, a5, a6, a7, a8, a9, a10, a11, a12, a13, rfl⟩
structure MsgFit (m : Msg) : Prop where
  id : Fits m.id
  op : Fits m.op
  code : Fits m.code
  size : Fits m.size
  qs : ∀ q ∈ m.qs, QnFit q
  an : ∀ r ∈ m.an, RRFit r
  sv : ∀ r ∈ m.sv, RRFit r
  ad : ∀ r ∈ m.ad, RRFit r
theorem MsgFit.ok {m : Msg} (h : MsgFit m) : MsgOk m := ⟨fun q hq => (h.qs q hq).1, fun r hr => (h.an r hr).1, fun r hr => (h.sv r hr).1, fun r hr => (h.ad r hr).1⟩
theorem open_Msg {v : Value} {d : DataW H} {p : List MemPlace} (hv : Value.okWide Try.prog w .any b0 40 v) (h : DataW.Trod enc Try.prog w base (fun _ => true) held 40 v d p) :
    ∃ m q a s d', v = MV m q a s d' ∧ MsgL w m q a s d' ∧ MsgFit m := by
  obtain ⟨cs, rfl, hl, n, hf⟩ := openS Try.underlying40 (by kernel_rfl) (by kernel_rfl) hv h
  obtain ⟨u0, y0, e0, h0⟩ := hf 0 _ rfl
  obtain ⟨u1, y1, e1, h1⟩ := hf 1 _ rfl
  obtain ⟨u2, y2, e2, h2⟩ := hf 2 _ rfl
  obtain ⟨u3, y3, e3, h3⟩ := hf 3 _ rfl
  obtain ⟨u4, y4, e4, h4⟩ := hf 4 _ rfl
  obtain ⟨u5, y5, e5, h5⟩ := hf 5 _ rfl
  obtain ⟨u6, y6, e6, h6⟩ := hf 6 _ rfl
  obtain ⟨u7, y7, e7, h7⟩ := hf 7 _ rfl
  obtain ⟨u8, y8, e8, h8⟩ := hf 8 _ rfl
  obtain ⟨u9, y9, e9, h9⟩ := hf 9 _ rfl
  obtain ⟨u10, y10, e10, h10⟩ := hf 10 _ rfl
  obtain ⟨u11, y11, e11, h11⟩ := hf 11 _ rfl
  obtain ⟨u12, y12, e12, h12⟩ := hf 12 _ rfl
  obtain ⟨u13, y13, e13, h13⟩ := hf 13 _ rfl
  obtain ⟨a0, a1, a2, a3, a4, a5, a6, a7, a8, a9, a10, a11, a12, a13, rfl⟩ := fourteen (show cs.length = 14 from hl)
  obtain rfl : a0 = u0 := Option.some.inj e0
  obtain rfl : a1 = u1 := Option.some.inj e1
  obtain rfl : a2 = u2 := Option.some.inj e2
  obtain rfl : a3 = u3 := Option.some.inj e3
  obtain rfl : a4 = u4 := Option.some.inj e4
  obtain rfl : a5 = u5 := Option.some.inj e5
  obtain rfl : a6 = u6 := Option.some.inj e6
  obtain rfl : a7 = u7 := Option.some.inj e7
  obtain rfl : a8 = u8 := Option.some.inj e8
  obtain rfl : a9 = u9 := Option.some.inj e9
  obtain rfl : a10 = u10 := Option.some.inj e10
  obtain rfl : a11 = u11 := Option.some.inj e11
  obtain rfl : a12 = u12 := Option.some.inj e12
  obtain rfl : a13 = u13 := Option.some.inj e13
  obtain ⟨id, rfl, f0⟩ := tInt h0
  obtain ⟨b1, rfl⟩ := tBool h1
  obtain ⟨op, rfl, f2⟩ := tInt h2
  obtain ⟨b3, rfl⟩ := tBool h3
  obtain ⟨b4, rfl⟩ := tBool h4
  obtain ⟨b5, rfl⟩ := tBool h5
  obtain ⟨b6, rfl⟩ := tBool h6
  obtain ⟨code, rfl, f7⟩ := tInt h7
  obtain ⟨_, l8, _, _, s8, f8⟩ := openQns h8
  obtain ⟨_, l9, _, _, s9, f9⟩ := openRRs h9
  obtain ⟨_, l10, _, _, s10, f10⟩ := openRRs h10
  obtain ⟨_, l11, _, _, s11, f11⟩ := openRRs h11
  obtain ⟨b12, rfl⟩ := tBool h12
  obtain ⟨size, rfl, f13⟩ := tInt h13
  exact ⟨⟨id, b1, op, b3, b4, b5, b6, code, l8, l9, l10, l11, b12, size⟩, _, _, _, _, rfl, ⟨s8, s9, s10, s11⟩, ⟨f0, f2, f7, f13, f8, f9, f10, f11⟩⟩
end
end Go.Proofs.Ytblbphnmflbepaa

