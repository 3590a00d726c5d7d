/- RecordMakes: records that are made are as the document says, byte for byte; what may not be is none. For every input; no conditions. -/
import Derived.Test.YthfpijacemkbbaaDoorRqP
import Derived.Test.YthfpijacemkbbaaDoorDoor
import Derived.Test.YthfpijacemkbbaaDoorTie
import Derived.Test.YthfpijacemkbbaaDoorCards
namespace Go.Proofs.YthfpijacemkbbaaDoor.recordMakes
open Go.ChangeShapes Go.WideShapes Go.ChangeAt Go.RowKit
open Go.ChangeMaps (open_string shut_string)
set_option linter.unusedVariables false

set_option maxRecDepth 100000 in
set_option maxHeartbeats 16000000 in
theorem t1 (n o : List UInt8) (t ttl x y : Int) (w : World) (hn : n.length ≤ maxLen) (ho : o.length ≤ maxLen) (h0 : 300 < n.length ∨ (n.length ≤ 300 ∧ 300 < o.length)) :
    Calls Tryd.prog 4 #[.string (mk n), .int .i64 t, .int .i64 ttl, .string (mk o), .int .i64 x, .int .i64 y] w fun e w' => e = .returned (.bool true) ∧ Below w.heap.size w w' := by
  have HAW := Go.Lib.hid awake_any
  have hnm : (mk n).size = n.length := size_mk n
  have hom : (mk o).size = o.length := size_mk o
  unfold maxLen at hn ho
  rcases h0 with h0 | ⟨h0, h1⟩
  · have e1 : (300 : Int) < (n.length : Int) := by omega
    clear h0
    go_enter Tryd.func4, Tryd.ntmps4
    go_wp2_with fail
    refine (HAW.out _).mono ?_; rintro e wz ⟨rfl, hx⟩
    have HXX := Go.Lib.hid hx
    clear hx
    go_wp2_with fail
    go_ret
    exact ⟨rfl, HXX.out⟩
  · have e1 : ¬ (300 : Int) < (n.length : Int) := by omega
    have e2 : (300 : Int) < (o.length : Int) := by omega
    clear h0 h1
    go_enter Tryd.func4, Tryd.ntmps4
    go_wp2_with fail
    refine (HAW.out _).mono ?_; rintro e wz ⟨rfl, hx⟩
    have HXX := Go.Lib.hid hx
    clear hx
    go_wp2_with fail
    go_ret
    exact ⟨rfl, HXX.out⟩

set_option maxRecDepth 100000 in
set_option maxHeartbeats 16000000 in
theorem t2 (n o : List UInt8) (t ttl x y : Int) (w : World) (h0 : n.length ≤ 300) (h1 : o.length ≤ 300) :
    Calls Tryd.prog 4 #[.string (mk n), .int .i64 t, .int .i64 ttl, .string (mk o), .int .i64 x, .int .i64 y] w fun e w' => e = .returned (.bool true) ∧ Below w.heap.size w w' := by
  have HAW := Go.Lib.hid awake_any
  have HB := Go.Lib.hid (Below.refl w.heap.size w)
  have hnl : n.length ≤ maxLen := by unfold maxLen; omega
  have hol : o.length ≤ maxLen := by unfold maxLen; omega
  have ha := fun W => MakeA_any n ttl x W hnl
  have hra := fun W => refMakeA_any n ttl x W hnl
  have hn := fun W => MakeName_any n t ttl o W hnl hol
  have hrn := fun W => refMakeName_any n t ttl o W hnl hol
  have hs := fun W => MakeSOA_any n ttl x y W (by omega)
  have hrs := fun W => refMakeSOA_any n ttl x y W (by omega)
  generalize makeAN n ttl x = ra at *
  generalize makeNN n t ttl o = rn at *
  generalize makeSN n ttl x y = rs at *
  have HA := Go.Lib.hid ha
  have HRA := Go.Lib.hid hra
  have HN := Go.Lib.hid hn
  have HRN := Go.Lib.hid hrn
  have HS := Go.Lib.hid hs
  have HRS := Go.Lib.hid hrs
  clear ha hra hn hrn hs hrs
  have hnm : (mk n).size = n.length := size_mk n
  have hom : (mk o).size = o.length := size_mk o
  have e1 : ¬ (300 : Int) < (n.length : Int) := by omega
  have e2 : ¬ (300 : Int) < (o.length : Int) := by omega
  clear hnl hol
  go_enter Tryd.func4, Tryd.ntmps4
  go_wp2_with fail
  refine (HA.out _).mono ?_; rintro e wb1 ⟨rfl, hx⟩
  have hb := HB.out.trans (hx.mono HB.out.size)
  clear HB
  have HB := Go.Lib.hid hb
  clear hx hb
  go_wp2_with fail
  refine (HRA.out _).mono ?_; rintro e wb2 ⟨rfl, hx⟩
  have hb := HB.out.trans (hx.mono HB.out.size)
  clear HB
  have HB := Go.Lib.hid hb
  clear hx hb
  go_wp2_with fail
  refine (HN.out _).mono ?_; rintro e wb3 ⟨rfl, hx⟩
  have hb := HB.out.trans (hx.mono HB.out.size)
  clear HB
  have HB := Go.Lib.hid hb
  clear hx hb
  go_wp2_with fail
  refine (HRN.out _).mono ?_; rintro e wb4 ⟨rfl, hx⟩
  have hb := HB.out.trans (hx.mono HB.out.size)
  clear HB
  have HB := Go.Lib.hid hb
  clear hx hb
  go_wp2_with fail
  refine (HS.out _).mono ?_; rintro e wb5 ⟨rfl, hx⟩
  have hb := HB.out.trans (hx.mono HB.out.size)
  clear HB
  have HB := Go.Lib.hid hb
  clear hx hb
  go_wp2_with fail
  refine (HRS.out _).mono ?_; rintro e wb6 ⟨rfl, hx⟩
  have hb := HB.out.trans (hx.mono HB.out.size)
  clear HB
  have HB := Go.Lib.hid hb
  clear hx hb
  go_wp2_with fail
  refine (HAW.out _).mono ?_; rintro e wb7 ⟨rfl, hx⟩
  have hb := HB.out.trans (hx.mono HB.out.size)
  clear HB
  have HB := Go.Lib.hid hb
  clear hx hb
  go_wp2_with fail
  go_ret
  exact ⟨rfl, HB.out⟩

theorem walk (s0 : ByteArray) (t ttl : Int) (s3 : ByteArray) (x y : Int) (w : World) (h0 : s0.size ≤ maxLen) (_ : Fits t) (_ : Fits ttl) (h1 : s3.size ≤ maxLen) (_ : Fits x) (_ : Fits y) :
    Calls Tryd.prog 4 #[.string s0, .int .i64 t, .int .i64 ttl, .string s3, .int .i64 x, .int .i64 y] w fun e w' => e = .returned (.bool true) ∧ Below w.heap.size w w' := by
  obtain ⟨n, rfl⟩ : ∃ n, s0 = mk n := ⟨bl s0, (mk_bl s0).symm⟩
  obtain ⟨o, rfl⟩ : ∃ n, s3 = mk n := ⟨bl s3, (mk_bl s3).symm⟩
  rw [size_mk] at h0 h1
  by_cases hl : 300 < n.length ∨ (n.length ≤ 300 ∧ 300 < o.length)
  · exact t1 n o t ttl x y w h0 h1 hl
  · exact t2 n o t ttl x y w (by omega) (by omega)

set_option maxRecDepth 100000 in
theorem lifted (os : Os) (started : os.Started) (H : Type) (enc : TypeId × Value → H) :
    ReturnsInHanded {} Tryd.checked os 4 .any (fun w args => (Rows.recordMakesSpec.pre enc Tryd.prog Tryd.f4 [] false w args ∧ laidMetH Tryd.prog laidL w) ∧ sizedMet enc Tryd.prog Tryd.f4 (OpenSpec.ofChange Rows.recordMakesSpec) false w args) (Rows.recordMakesSpec.post enc Tryd.prog Tryd.f4 false true false false) := by
  refine returnsInHanded_of_change_and (C := Tryd.checked) (X := fun w _ => laidMetH Tryd.prog laidL w) (fun _ _ _ hh h => h.of_heap hh) own started (by kernel_rfl) Tryd.func4
    (ChangeSpec.witness_shaped (enc := enc) (C := Tryd.checked) (os := os) (X := fun w _ => laidMetH Tryd.prog laidL w) false (World.doorLaid Tryd.prog 400 os) #[.string ⟨#[]⟩, .int .i64 0, .int .i64 0, .string ⟨#[]⟩, .int .i64 0, .int .i64 0] 8 rfl (World.shaped_of_RefB (by kernel_rfl) (by kernel_rfl)) (by kernel_rfl) (by kernel_rfl) (by kernel_rfl) (door_met os _)) ?_
  intro W base args ds gs before hval0 hW _ _ hL _
  have hval : ∀ (j : Nat) t v, Tryd.f4.params[j]? = some t → args[j]? = some v → Value.okWide Tryd.prog W .any base t v := hval0
  refine law_post enc 6 (by kernel_rfl) rfl rfl (by kernel_rfl) (fun ds h => match ds, h with | [_, _, _, _, _, _], _ => rfl) hW ?_
  obtain ⟨p, q, hA0, hV, rfl, _, _⟩ := hW
  have hA : DataW.TrodAll enc Tryd.prog W 0 (fun _ => true) true Tryd.f4.params.toList args.toList ds p := hA0
  rw [Tryd.params4] at hA hval
  obtain ⟨v0, vs0, d0, ds0, p0, q0, hargs, rfl, rfl, h0, r0⟩ := trodAll_cons hA
  obtain ⟨v1, vs1, d1, ds1, p1, q1, rfl, rfl, rfl, h1, r1⟩ := trodAll_cons r0
  obtain ⟨v2, vs2, d2, ds2, p2, q2, rfl, rfl, rfl, h2, r2⟩ := trodAll_cons r1
  obtain ⟨v3, vs3, d3, ds3, p3, q3, rfl, rfl, rfl, h3, r3⟩ := trodAll_cons r2
  obtain ⟨v4, vs4, d4, ds4, p4, q4, rfl, rfl, rfl, h4, r4⟩ := trodAll_cons r3
  obtain ⟨v5, vs5, d5, ds5, p5, q5, rfl, rfl, rfl, h5, r5⟩ := trodAll_cons r4
  obtain ⟨rfl, rfl, rfl⟩ := trodAll_nil r5
  obtain rfl : args = #[v0, v1, v2, v3, v4, v5] := by cases args; simp_all
  obtain ⟨s0, rfl, rfl, rfl, w0⟩ := open_string Tryd.underlying9 (hval 0 9 v0 rfl rfl) h0
  obtain ⟨a1, rfl, rfl, rfl, w1⟩ := open_int Tryd.underlying3 (hval 1 3 v1 rfl rfl) h1
  obtain ⟨a2, rfl, rfl, rfl, w2⟩ := open_int Tryd.underlying3 (hval 2 3 v2 rfl rfl) h2
  obtain ⟨s3, rfl, rfl, rfl, w3⟩ := open_string Tryd.underlying9 (hval 3 9 v3 rfl rfl) h3
  obtain ⟨a4, rfl, rfl, rfl, w4⟩ := open_int Tryd.underlying3 (hval 4 3 v4 rfl rfl) h4
  obtain ⟨a5, rfl, rfl, rfl, w5⟩ := open_int Tryd.underlying3 (hval 5 3 v5 rfl rfl) h5
  exact walk s0 a1 a2 s3 a4 a5 W w0 (fits_of_wf w1) (fits_of_wf w2) w3 (fits_of_wf w4) (fits_of_wf w5)

theorem over : Rows.recordMakesRow.holds Tryd.pinned (OpenSpec.ofChange Rows.recordMakesSpec) :=
  OpenClaim.holds_of_wide 4 Tryd.f4 rfl rfl rfl rfl rfl rfl rfl ⟨rfl, rfl, rfl, rfl, rfl⟩ rfl rfl rfl rfl rfl (by kernel_rfl) Tryd.func4 (by kernel_rfl)
    (of_decide_eq_true (by kernel_rfl)) (by unfold Func.isWrapper; first | (rw [if_pos (by decide +kernel)]; kernel_rfl) | (rw [if_neg (by decide +kernel)]; exact ⟨rfl, rfl⟩))
    (fun os started H enc _ => lifted os started H enc)

/-- the statement: the row, its listed variables tied to the text -/
theorem proved : Rows.RecordMakesCardSaid :=
  Claim7.holds_tied_plain_at .later [] [.data, .data, .data] true _ false
    over (fun _ h => by cases h) (by kernel_rfl) (fun _ h => by cases h) recordMakes_row_tie rfl ⟨rfl, rfl⟩ (by kernel_rfl) rfl
    (fun f fn hf hfn => by
      obtain rfl : f = 4 := Option.some.inj ((show Tryd.prog.funcNamed "freshet/freshetlaw3.RecordMakes" = some 4 by kernel_rfl).symm.trans hf) |>.symm
      obtain rfl : fn = Tryd.f4 := (Option.some.inj (Tryd.func4.symm.trans hfn)).symm
      exact ⟨by kernel_rfl, fun j t ht => by
        rw [Tryd.params4] at ht
        have hm : t ∈ [9, 3, 3, 9, 3, 3] := by simpa using Array.mem_of_getElem? ht
        have hall : ([9, 3, 3, 9, 3, 3].all fun u => !Tryd.prog.wantsStandIn u) = true := by kernel_rfl
        exact (show Tryd.prog.wantsStandIn t = false by simpa using List.all_eq_true.1 hall t hm)⟩)
    (by kernel_rfl)
#print axioms proved
end Go.Proofs.YthfpijacemkbbaaDoor.recordMakes

