/- Flight: slices.BinarySearchFunc at what was sent. -/
import Derived.Test.YtblbphnmflbepaaFlA
import Derived.Shelf.Abstract
namespace Go.Proofs.Ytblbphnmflbepaa
open Go.RowKit
set_option linter.unusedVariables false

def jobAt (l : List Sn) (k : Nat) : Int := (l.getD k s0).job
/-- told by their jobs, each once -/
def JobsUp (l : List Sn) : Prop := ∀ a b, a < b → b < l.length → jobAt l a < jobAt l b
/-- where a job is, or would be -/
def IsPos (l : List Sn) (t : Int) (k : Nat) : Prop := k ≤ l.length ∧ (∀ a, a < k → jobAt l a < t) ∧ ∀ b, k ≤ b → b < l.length → t ≤ jobAt l b
theorem cmpN_neg {a b : Int} : cmpN a b < 0 ↔ a < b := by unfold cmpN; split <;> (try split) <;> omega
theorem cmpN_zero {a b : Int} : cmpN a b = 0 ↔ a = b := by unfold cmpN; split <;> (try split) <;> omega
set_option maxRecDepth 100000 in
set_option maxHeartbeats 4000000 in
theorem search_any (a : Option Addr) (cap : Nat) (l : List Sn) (t : Int) (w : World) (hst : Sns w (.slice a l.length cap) l) (hn : l.length ≤ 1099511627776) (hup : JobsUp l) :
    Calls Try.prog 37 #[.slice a l.length cap, .int .i64 t, .func (.func 38) #[] #[]] w fun e w' =>
      ∃ k : Nat, IsPos l t k ∧ e = .returned (.tuple #[.int .i64 k, .bool (decide (k < l.length ∧ jobAt l k = t))]) ∧ Below w.heap.size w w' := by
  have hent : ∀ args w, (callFunc 38 args).run Try.prog w = .ok (.enter 38 args) w := enters_of Try.func38 (by kernel_rfl) rfl
  have HB := Go.Lib.hid (Below.refl w.heap.size w)
  have HST := Go.Lib.hid hst
  have HUP := Go.Lib.hid hup
  clear hst hup
  generalize hN : l.length = N at *
  have HN := Go.Lib.hid hN
  clear hN
  go_enter Try.func37, Try.ntmps37
  go_wp2_with fail
  go_loopw [9, 10, 11] (fun i j h wr => ∃ x y : Nat, i = .int .i64 x ∧ j = .int .i64 y ∧ x ≤ y ∧ y ≤ N ∧ (∀ b, b < x → jobAt l b < t) ∧ (∀ b, y ≤ b → b < N → t ≤ jobAt l b) ∧ Below w.heap.size w wr) (fun i j _ _ => (intOf j).toNat - (intOf i).toNat)
  case atStart => exact ⟨0, N, rfl, rfl, by omega, by omega, fun b h => by omega, fun b h1 h2 => by omega, HB.out⟩
  case round =>
    obtain ⟨x, y, rfl, rfl, hxy, hyn, hlo, hhi, hbr⟩ := hrel
    clear HB
    have HLO := Go.Lib.hid hlo
    have HHI := Go.Lib.hid hhi
    have HB := Go.Lib.hid hbr
    clear hlo hhi hbr
    by_cases hlt : x < y
    · obtain ⟨z, hz⟩ : ∃ z, z = (x + y) / 2 := ⟨_, rfl⟩
      have z1 : x ≤ z := by omega
      have z2 : z < y := by omega
      have w1 : IntKind.u64.wrap ((x : Int) + (y : Int)) = (x : Int) + (y : Int) := by rw [IntKind.wrap_u64]; omega
      have w2' : ((x : Int) + (y : Int)) / 2 = (z : Int) := by omega
      have hst := HST.out.below HB.out (Nat.le_refl _)
      obtain ⟨b, off, rfl, hbw, hcell⟩ := Sns.at (by rw [HN.out]; exact hst : Sns wr (.slice a l.length cap) l) (by rw [HN.out]; omega)
      have hat := hcell z (by rw [HN.out]; omega)
      have hjz : jobAt l z = (l.getD z s0).job := rfl
      generalize l.getD z s0 = s at *
      obtain ⟨sj, si, sp, sn, sa, qn, qt, qc, sz⟩ := s
      have e0 : wr.cell? ⟨b, off + z * 9, none⟩ = some (.int .i64 sj) := hat 0 (by decide)
      have e1 : wr.cell? ⟨b, off + z * 9 + 1, none⟩ = some (.int .i64 si) := hat 1 (by decide)
      have e2 : wr.cell? ⟨b, off + z * 9 + 2, none⟩ = some (.int .i64 sp) := hat 2 (by decide)
      have e3 : wr.cell? ⟨b, off + z * 9 + 3, none⟩ = some (.string (mk sn)) := hat 3 (by decide)
      have e4 : wr.cell? ⟨b, off + z * 9 + 4, none⟩ = some (.int .i64 sa) := hat 4 (by decide)
      have e5 : wr.cell? ⟨b, off + z * 9 + 5, none⟩ = some (.string (mk qn)) := hat 5 (by decide)
      have e6 : wr.cell? ⟨b, off + z * 9 + 6, none⟩ = some (.int .i64 qt) := hat 6 (by decide)
      have e7 : wr.cell? ⟨b, off + z * 9 + 7, none⟩ = some (.int .i64 qc) := hat 7 (by decide)
      have e8 : wr.cell? ⟨b, off + z * 9 + 8, none⟩ = some (.string (mk sz)) := hat 8 (by decide)
      have HJZ := Go.Lib.hid hjz
      have HZ := Go.Lib.hid hz
      clear hjz hz
      clear hat hcell hst
      by_cases hjt : sj < t
      · have c1 : cmpN sj t < 0 := cmpN_neg.2 hjt
        have hlo2 : ∀ b, b < z + 1 → jobAt l b < t := fun b hb => by
          rcases Nat.lt_or_ge b z with h | h
          · have := HUP.out b z h (by rw [HN.out]; omega)
            rw [HJZ.out] at this
            simp only at this
            omega
          · obtain rfl : b = z := by omega
            rw [HJZ.out]; exact hjt
        have hcl := placeF_any ⟨sj, si, sp, sn, sa, qn, qt, qc, sz⟩ t wr
        simp only [snV] at hcl
        generalize cmpN sj t = cv at *
        have HLO2 := Go.Lib.hid hlo2
        have HCL := Go.Lib.hid hcl
        clear hlo2 hcl
        clear hjt
        go_wp2_with fail
        refine HCL.out.mono ?_; rintro e wb ⟨rfl, hx⟩
        have hb2 := HB.out.trans (hx.mono HB.out.size)
        have HB2 := Go.Lib.hid hb2
        clear hb2
        clear hx
        go_wp2_with fail
        go_roundw
        case rel => exact ⟨z + 1, y, by go_num, rfl, by omega, by omega, HLO2.out, HHI.out, HB2.out⟩
        case measure => simp [intOf]; omega
      · have c1 : ¬ cmpN sj t < 0 := fun h => hjt (cmpN_neg.1 h)
        have hhi2 : ∀ b, z ≤ b → b < N → t ≤ jobAt l b := fun b hb hbn => by
          rcases Nat.lt_or_ge z b with h | h
          · have := HUP.out z b h (by rw [HN.out]; omega)
            rw [HJZ.out] at this
            simp only at this
            omega
          · obtain rfl : b = z := by omega
            rw [HJZ.out]; simp only; omega
        have hcl := placeF_any ⟨sj, si, sp, sn, sa, qn, qt, qc, sz⟩ t wr
        simp only [snV] at hcl
        generalize cmpN sj t = cv at *
        have HHI2 := Go.Lib.hid hhi2
        have HCL := Go.Lib.hid hcl
        clear hhi2 hcl
        clear hjt
        go_wp2_with fail
        refine HCL.out.mono ?_; rintro e wb ⟨rfl, hx⟩
        have hb2 := HB.out.trans (hx.mono HB.out.size)
        have HB2 := Go.Lib.hid hb2
        clear hb2
        clear hx
        go_wp2_with fail
        go_roundw
        case rel => exact ⟨x, z, rfl, rfl, by omega, by omega, HLO.out, HHI2.out, HB2.out⟩
        case measure => simp [intOf]; omega
    · obtain rfl : x = y := by omega
      have hpos : Hid (IsPos l t x) := Go.Lib.hid ⟨by rw [HN.out]; exact hyn, HLO.out, fun b h1 h2 => HHI.out b h1 (by rw [← HN.out]; exact h2)⟩
      by_cases hxn : x < N
      · have hst := HST.out.below HB.out (Nat.le_refl _)
        obtain ⟨b, off, rfl, hbw, hcell⟩ := Sns.at (by rw [HN.out]; exact hst : Sns wr (.slice a l.length cap) l) (by rw [HN.out]; omega)
        have hat := hcell x (by rw [HN.out]; omega)
        have hjz : jobAt l x = (l.getD x s0).job := rfl
        generalize l.getD x s0 = s at *
        obtain ⟨sj, si, sp, sn, sa, qn, qt, qc, sz⟩ := s
        have e0 : wr.cell? ⟨b, off + x * 9, none⟩ = some (.int .i64 sj) := hat 0 (by decide)
        have e1 : wr.cell? ⟨b, off + x * 9 + 1, none⟩ = some (.int .i64 si) := hat 1 (by decide)
        have e2 : wr.cell? ⟨b, off + x * 9 + 2, none⟩ = some (.int .i64 sp) := hat 2 (by decide)
        have e3 : wr.cell? ⟨b, off + x * 9 + 3, none⟩ = some (.string (mk sn)) := hat 3 (by decide)
        have e4 : wr.cell? ⟨b, off + x * 9 + 4, none⟩ = some (.int .i64 sa) := hat 4 (by decide)
        have e5 : wr.cell? ⟨b, off + x * 9 + 5, none⟩ = some (.string (mk qn)) := hat 5 (by decide)
        have e6 : wr.cell? ⟨b, off + x * 9 + 6, none⟩ = some (.int .i64 qt) := hat 6 (by decide)
        have e7 : wr.cell? ⟨b, off + x * 9 + 7, none⟩ = some (.int .i64 qc) := hat 7 (by decide)
        have e8 : wr.cell? ⟨b, off + x * 9 + 8, none⟩ = some (.string (mk sz)) := hat 8 (by decide)
        have hcl := placeF_any ⟨sj, si, sp, sn, sa, qn, qt, qc, sz⟩ t wr
        simp only [snV] at hcl
        simp only at hjz
        have HJZ := Go.Lib.hid hjz
        have HCL := Go.Lib.hid hcl
        clear hjz hcl
        clear hat hcell hst
        by_cases hjt : sj = t
        · have c1 : (cmpN sj t == 0) = true := beq_iff_eq.2 (cmpN_zero.2 hjt)
          have hres : Hid (decide (x < N ∧ jobAt l x = t) = true) := Go.Lib.hid (decide_eq_true ⟨hxn, by rw [HJZ.out]; exact hjt⟩)
          generalize cmpN sj t = cv at *
          clear hjt
          go_wp2_with fail
          refine HCL.out.mono ?_; rintro e wb ⟨rfl, hx⟩
          have HX := Go.Lib.hid hx
          clear hx
          go_wp2_with fail
          go_ret2
          exact ⟨x, hpos.out, by rw [hres.out]; rfl, HB.out.trans (HX.out.mono HB.out.size)⟩
        · have c1 : (cmpN sj t == 0) = false := beq_eq_false_iff_ne.2 (fun h => hjt (cmpN_zero.1 h))
          have hres : Hid (decide (x < N ∧ jobAt l x = t) = false) := Go.Lib.hid (decide_eq_false fun h => hjt (by rw [← HJZ.out]; exact h.2))
          generalize cmpN sj t = cv at *
          clear hjt
          go_wp2_with fail
          refine HCL.out.mono ?_; rintro e wb ⟨rfl, hx⟩
          have HX := Go.Lib.hid hx
          clear hx
          go_wp2_with fail
          go_ret2
          exact ⟨x, hpos.out, by rw [hres.out]; rfl, HB.out.trans (HX.out.mono HB.out.size)⟩
      · have hres : Hid (decide (x < N ∧ jobAt l x = t) = false) := Go.Lib.hid (decide_eq_false fun h => hxn h.1)
        go_wp2_with fail
        go_ret2
        exact ⟨x, hpos.out, by rw [hres.out]; rfl, HB.out⟩
end Go.Proofs.Ytblbphnmflbepaa

