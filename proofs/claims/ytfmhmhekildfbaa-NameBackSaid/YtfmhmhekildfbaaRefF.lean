/- The contract of the reference's ParseName. Condition: the text has at most 100000 bytes. -/
import Derived.Test.YtfmhmhekildfbaaRefE
namespace Go.Proofs.Ytfmhmhekildfbaa
open Go.RowKit

theorem drop_cons {l : List UInt8} {k : Nat} (h : k < l.length) : l.drop k = l.getD k 0 :: l.drop (k + 1) := by
  rw [List.drop_eq_getElem_cons h]
  congr 1
  simp [h]

theorem extract_one (l : List UInt8) (k : Nat) (h : k < l.length) : (mk l).extract k (k + 1) = mk [l.getD k 0] := by
  rw [extract_mk, bl_mk]
  have : (l.drop k).take (k + 1 - k) = [l.getD k 0] := by
    rw [drop_cons h, show k + 1 - k = 1 by omega]
    rfl
  rw [this]

theorem below_drewN {B : Nat} {w wr : World} (h : Below B w wr) (n : Nat) : Below B w (wr.drewN n) := ⟨h.os, h.tape, h.output, h.size, h.block⟩

theorem takeR_plain {c : UInt8} (r : List UInt8) (h : ¬ c.toNat = 92) : Nm.takeR (c :: r) = (c, 1) := by
  cases r with
  | nil => rfl
  | cons d r => simp only [Nm.takeR]; rw [if_neg h]
theorem takeR_two {c d : UInt8} (r : List UInt8) (h : c.toNat = 92) (hd : Nm.dig3 (d :: r) = none) : Nm.takeR (c :: d :: r) = (d, 2) := by
  simp only [Nm.takeR]; rw [if_pos h, hd]
theorem takeR_four {c d : UInt8} {v : UInt8} (r : List UInt8) (h : c.toNat = 92) (hd : Nm.dig3 (d :: r) = some v) : Nm.takeR (c :: d :: r) = (v, 4) := by
  simp only [Nm.takeR]; rw [if_pos h, hd]

set_option maxRecDepth 100000 in
set_option maxHeartbeats 8000000 in
theorem refParse_any (s : ByteArray) (w : World) (hs : s.size ≤ 100000) :
    Calls Try.prog 14 #[.string s] w fun e w' => e = refEnd (Nm.parseW Nm.takeR (bl s)) ∧ Below w.heap.size w w' := by
  have hsz := size_bl s
  by_cases hdot : bl s = [46]
  · have hfin : Hid (Nm.parseW Nm.takeR (bl s) = some [0]) := Go.Lib.hid (by unfold Nm.parseW; rw [if_pos hdot])
    have h1 : (s.toList == [46]) = true := by rw [toList_bl, hdot]; rfl
    clear hdot hs hsz
    go_enter Try.func14, Try.ntmps14
    go_wp2_with fail
    go_ret2
    exact ⟨refEnd_some hfin.out, Below.refl _ _⟩
  · have h1 : (s.toList == [46]) = false := by rw [toList_bl, beq_eq_false_iff_ne]; exact hdot
    have hfin : Hid (Nm.parseW Nm.takeR (bl s) = (Nm.joinN (Nm.candOf Nm.takeR [] [] (bl s))).bind fun n => if Nm.textN n = bl s then some n else none) := Go.Lib.hid (by unfold Nm.parseW; rw [if_neg hdot])
    obtain ⟨t, rfl⟩ : ∃ t, s = mk t := ⟨bl s, (mk_bl s).symm⟩
    rw [bl_mk] at *
    have hst := size_mk t
    rw [hst] at hs
    clear hdot hsz
    generalize hN : t.length = N at *
    have HN := Go.Lib.hid hN
    clear hN
    go_enter Try.func14, Try.ntmps14
    go_wp2_with fail
    go_loopw [4, 5, 6] (fun v4 v5 v6 wr => ∃ (ls : List (List UInt8)) (now : List UInt8) (k : Nat), v5 = .string (mk now) ∧ v6 = .int .i64 k ∧ k ≤ N ∧ Nm.candOf Nm.takeR ls now (t.drop k) = Nm.candOf Nm.takeR [] [] t ∧
        ls.length + now.length ≤ k ∧ (∀ l ∈ ls, l.length ≤ 100000) ∧ wr.ownsRow w.heap.size 9 1 v4 ls.length (encS ls) ∧ Below w.heap.size w wr)
      (fun _ _ v _ => N - (intOf v).toNat)
    case atStart => exact ⟨[], [], 0, rfl, rfl, by omega, by simp, by simp, by simp, World.ownsRow_nil _ _ _ _, Below.refl _ _⟩
    case round =>
      obtain ⟨ls, now, k, rfl, rfl, hk, hcand, hlen, hall, hown, hb⟩ := hrel
      have hgw := hb.size
      have HC := Go.Lib.hid hcand
      have HA := Go.Lib.hid hall
      have HO := Go.Lib.hid hown
      have HB := Go.Lib.hid hb
      clear hcand hall hown hb
      have hsn := size_mk now
      by_cases hlt : k < N
      · have hkt : k < t.length := by rw [HN.out]; exact hlt
        have hks : k < (mk t).size := by rw [hst]; exact hlt
        have hg0 := get_mk hks
        have hd0 := drop_cons hkt
        have hx1 := extract_one t k hkt
        have HD0 := Go.Lib.hid hd0
        clear hd0
        generalize t.getD k 0 = c at *
        have hcc := c.toNat_lt
        by_cases hc : c.toNat = 46
        · have e1 : ((c.toNat : Int) == 46) = true := by rw [hc]; rfl
          have hstep : Hid (Nm.candOf Nm.takeR (ls ++ [now]) [] (t.drop (k + 1)) = Nm.candOf Nm.takeR [] [] t) := Go.Lib.hid (by rw [← HC.out, HD0.out, Nm.candOf_dot _ _ _ hc])
          clear hc
          go_wp2_with (at_builtin; refine wpList_app eiS (.tmp 32) (.tmp 34) rfl rfl w.heap.size rfl rfl (HO.out.alloc _) (slc_new _ 1 1 9 [.string (mk now)] rfl (by decide)) ?h1 ?h2 ?h3 ?h4 ?h5; rotate_right; intro v1 w1 hown1 hg1)
          case h1 => intro u hu; simp at hu; subst hu; rfl
          case h2 => unfold maxLen; omega
          case h3 => omega
          case h4 => simp; omega
          go_roundw
          case rel =>
            refine ⟨ls ++ [now], [], k + 1, rfl, by go_num, by omega, hstep.out, by simp; omega, ?_, by rw [List.length_append, encS_snoc]; exact hown1, below_app (HB.out.alloc hgw _) (HO.out.alloc _) hg1 (Nat.le_refl _) (by simp; omega)⟩
            intro l hl
            rcases List.mem_append.1 hl with h | h
            · exact HA.out l h
            · simp at h; subst h; omega
          case measure => simp [intOf]; omega
        · have e1 : ((c.toNat : Int) == 46) = false := by rw [beq_eq_false_iff_ne]; omega
          have htake : Nm.candOf Nm.takeR ls (now ++ [(Nm.takeR (c :: t.drop (k + 1))).1]) ((c :: t.drop (k + 1)).drop (Nm.takeR (c :: t.drop (k + 1))).2) = Nm.candOf Nm.takeR [] [] t := by
            rw [← HC.out, HD0.out, Nm.candOf_take (fun c r => (Nm.takeR_pos c r).1) _ _ _ hc]
          have HTAKE := Go.Lib.hid htake
          clear htake hc
          by_cases h92 : c.toNat = 92
          · have e2 : ((c.toNat : Int) == 92) = true := by rw [h92]; rfl
            by_cases hk1 : k + 1 < N
            · have hk1t : k + 1 < t.length := by rw [HN.out]; exact hk1
              have hk1s : k + 1 < (mk t).size := by rw [hst]; exact hk1
              have hg1 := get_mk hk1s
              have hx2 := extract_one t (k + 1) hk1t
              have hd1 := drop_cons hk1t
              have HD1 := Go.Lib.hid hd1
              have hcat : ∀ d, mk now ++ mk [d] = mk (now ++ [d]) := fun d => cat_mk now [d]
              have hso : ∀ d, (mk [d]).size = 1 := fun d => size_one d
              have q1 : ¬ 9223372036854775807 < now.length + 1 := by omega
              have e4 : (k : Int) + 1 < (N : Int) := by omega
              have e5 : (k : Int) + 1 ≤ (N : Int) := by omega
              have e6 : (k : Int) + 2 ≤ (N : Int) := by omega
              clear hd1
              have hC : Hid (Nm.dig3 (t.getD (k + 1) 0 :: t.drop (k + 1 + 1)) = none → Nm.candOf Nm.takeR ls (now ++ [t.getD (k + 1) 0]) (t.drop (k + 1 + 1)) = Nm.candOf Nm.takeR [] [] t) := Go.Lib.hid (fun h => by
                have := HTAKE.out
                rw [HD1.out, takeR_two _ h92 h] at this
                exact this)
              by_cases hk3 : k + 3 < N
              · have e3 : (k : Int) + 3 < (N : Int) := by omega
                have hk2s : k + 2 < (mk t).size := by rw [hst]; omega
                have hk3s : k + 3 < (mk t).size := by rw [hst]; exact hk3
                have hg2 := get_mk hk2s
                have hg3 := get_mk hk3s
                have hd2 := drop_cons (l := t) (k := k + 1 + 1) (by rw [HN.out]; omega)
                have hd3 := drop_cons (l := t) (k := k + 1 + 1 + 1) (by rw [HN.out]; omega)
                have hB : Hid (∀ v, Nm.dig3 (t.getD (k + 1) 0 :: t.drop (k + 1 + 1)) = some v → Nm.candOf Nm.takeR ls (now ++ [v]) (t.drop (k + 4)) = Nm.candOf Nm.takeR [] [] t) := Go.Lib.hid (fun v h => by
                  have := HTAKE.out
                  rw [HD1.out, takeR_four _ h92 h] at this
                  have e : (c :: t.getD (k + 1) 0 :: t.drop (k + 1 + 1)).drop 4 = t.drop (k + 4) := by
                    simp only [List.drop_succ_cons, List.drop_drop]
                  rw [← e]; exact this)
                have hdig : Nm.dig3 (t.getD (k + 1) 0 :: t.drop (k + 1 + 1)) = if Nm.dig (t.getD (k + 1) 0) && Nm.dig (t.getD (k + 2) 0) && Nm.dig (t.getD (k + 3) 0) then some (UInt8.ofNat (100 * ((t.getD (k + 1) 0).toNat - 48) + 10 * ((t.getD (k + 2) 0).toNat - 48) + ((t.getD (k + 3) 0).toNat - 48))) else none := by
                  rw [hd2, hd3]
                  rfl
                have HDIG := Go.Lib.hid hdig
                clear hd2 hd3 hdig HD1 HTAKE HD0 HC
                generalize t.getD (k + 1) 0 = d at *
                generalize t.getD (k + 2) 0 = d2 at *
                generalize t.getD (k + 3) 0 = d3 at *
                cases hq1 : Nm.dig d with
                | false =>
                  have hst2 : Hid (Nm.candOf Nm.takeR ls (now ++ [d]) (t.drop (k + 1 + 1)) = Nm.candOf Nm.takeR [] [] t) := Go.Lib.hid (hC.out (by rw [HDIG.out, hq1]; rfl))
                  clear h92
                  go_wp2_with fail
                  refine (digit_any _ _).mono ?_
                  rintro e w' ⟨rfl, rfl⟩
                  go_wp2_with fail
                  go_roundw
                  case rel => exact ⟨ls, now ++ [d], k + 1 + 1, rfl, by go_num, by omega, hst2.out, by simp; omega, HA.out, HO.out, HB.out⟩
                  case measure => simp [intOf]; omega
                | true =>
                  cases hq2 : Nm.dig d2 with
                  | false =>
                    have hst2 : Hid (Nm.candOf Nm.takeR ls (now ++ [d]) (t.drop (k + 1 + 1)) = Nm.candOf Nm.takeR [] [] t) := Go.Lib.hid (hC.out (by rw [HDIG.out, hq1, hq2]; rfl))
                    clear h92
                    go_wp2_with fail
                    refine (digit_any _ _).mono ?_
                    rintro e w' ⟨rfl, rfl⟩
                    go_wp2_with fail
                    refine (digit_any _ _).mono ?_
                    rintro e w' ⟨rfl, rfl⟩
                    go_wp2_with fail
                    go_roundw
                    case rel => exact ⟨ls, now ++ [d], k + 1 + 1, rfl, by go_num, by omega, hst2.out, by simp; omega, HA.out, HO.out, HB.out⟩
                    case measure => simp [intOf]; omega
                  | true =>
                    cases hq3 : Nm.dig d3 with
                    | false =>
                      have hst2 : Hid (Nm.candOf Nm.takeR ls (now ++ [d]) (t.drop (k + 1 + 1)) = Nm.candOf Nm.takeR [] [] t) := Go.Lib.hid (hC.out (by rw [HDIG.out, hq1, hq2, hq3]; rfl))
                      clear h92
                      go_wp2_with fail
                      refine (digit_any _ _).mono ?_
                      rintro e w' ⟨rfl, rfl⟩
                      go_wp2_with fail
                      refine (digit_any _ _).mono ?_
                      rintro e w' ⟨rfl, rfl⟩
                      go_wp2_with fail
                      refine (digit_any _ _).mono ?_
                      rintro e w' ⟨rfl, rfl⟩
                      go_wp2_with fail
                      go_roundw
                      case rel => exact ⟨ls, now ++ [d], k + 1 + 1, rfl, by go_num, by omega, hst2.out, by simp; omega, HA.out, HO.out, HB.out⟩
                      case measure => simp [intOf]; omega
                    | true =>
                      have hst2 := hB.out _ (by rw [HDIG.out, hq1, hq2, hq3]; rfl)
                      have HST2 := Go.Lib.hid hst2
                      obtain ⟨r1, r2⟩ := dig_iff.1 hq1
                      obtain ⟨r3, r4⟩ := dig_iff.1 hq2
                      obtain ⟨r5, r6⟩ := dig_iff.1 hq3
                      clear h92 hst2
                      have hwr : IntKind.u8.wrap (((d.toNat : Int) - 48) * 100 + ((d2.toNat : Int) - 48) * 10 + ((d3.toNat : Int) - 48)) = ((UInt8.ofNat (100 * (d.toNat - 48) + 10 * (d2.toNat - 48) + (d3.toNat - 48))).toNat : Int) := by
                        have e : ∀ k, (UInt8.ofNat k).toNat = k % 256 := fun k => by simp
                        rw [IntKind.wrap_u8, e]
                        omega
                      have hwr2 := hwr
                      rw [IntKind.wrap_u8] at hwr2
                      generalize UInt8.ofNat (100 * (d.toNat - 48) + 10 * (d2.toNat - 48) + (d3.toNat - 48)) = x at *
                      go_wp2_with fail
                      refine (digit_any _ _).mono ?_
                      rintro e w' ⟨rfl, rfl⟩
                      go_wp2_with fail
                      refine (digit_any _ _).mono ?_
                      rintro e w' ⟨rfl, rfl⟩
                      go_wp2_with fail
                      refine (digit_any _ _).mono ?_
                      rintro e w' ⟨rfl, rfl⟩
                      go_wp2_with fail
                      go_quiet (fail)
                      have hconv : (convert 44 9 (.slice (some ⟨wr.heap.size, 0, none⟩) 1 1)).run Try.prog ((wr.drewN nq).alloc (.cells #[.int .u8 x.toNat] 5)) = .ok (.string (mk [x])) ((wr.drewN nq).alloc (.cells #[.int .u8 x.toNat] 5)) := run_conv_new (wr.drewN nq) 1 [.int .u8 x.toNat] [x] rfl rfl (by decide)
                      go_wp2_with fail
                      go_roundw
                      case rel => exact ⟨ls, now ++ [x], k + 4, rfl, by go_num, by omega, HST2.out, by simp; omega, HA.out, HO.out.alloc _, (below_drewN HB.out nq).alloc hgw _⟩
                      case measure => simp [intOf]; omega
              · have e3 : ¬ ((k : Int) + 3 < (N : Int)) := by omega
                have hst2 : Hid (Nm.candOf Nm.takeR ls (now ++ [t.getD (k + 1) 0]) (t.drop (k + 1 + 1)) = Nm.candOf Nm.takeR [] [] t) := Go.Lib.hid (hC.out (by
                  have hl : (t.drop (k + 1 + 1)).length ≤ 1 := by rw [List.length_drop, HN.out]; omega
                  match t.drop (k + 1 + 1), hl with
                  | [], _ => rfl
                  | [_], _ => rfl
                  | _ :: _ :: _, h => simp at h))
                generalize t.getD (k + 1) 0 = d at *
                clear h92
                go_wp2_with fail
                go_roundw
                case rel => exact ⟨ls, now ++ [d], k + 1 + 1, rfl, by go_num, by omega, hst2.out, by simp; omega, HA.out, HO.out, HB.out⟩
                case measure => simp [intOf]; omega
            · -- the mark is the last byte
              have hnil : t.drop (k + 1) = [] := List.drop_of_length_le (by rw [HN.out]; omega)
              have hst2 : Hid (Nm.candOf Nm.takeR ls (now ++ [c]) (t.drop (k + 1)) = Nm.candOf Nm.takeR [] [] t) := Go.Lib.hid (by
                have := HTAKE.out
                rw [hnil] at this ⊢
                exact this)
              have e3 : ¬ ((k : Int) + 3 < (N : Int)) := by omega
              have e4 : ¬ ((k : Int) + 1 < (N : Int)) := by omega
              have e5 : (k : Int) + 1 ≤ (N : Int) := by omega
              have hcat := cat_mk now [c]
              have hso := size_one c
              have q1 : ¬ 9223372036854775807 < now.length + 1 := by omega
              clear h92 hnil
              go_wp2_with fail
              go_roundw
              case rel => exact ⟨ls, now ++ [c], k + 1, rfl, by go_num, by omega, hst2.out, by simp; omega, HA.out, HO.out, HB.out⟩
              case measure => simp [intOf]; omega
          · have e2 : ((c.toNat : Int) == 92) = false := by rw [beq_eq_false_iff_ne]; omega
            have hst2 : Hid (Nm.candOf Nm.takeR ls (now ++ [c]) (t.drop (k + 1)) = Nm.candOf Nm.takeR [] [] t) := Go.Lib.hid (by
                have := HTAKE.out
                rw [takeR_plain _ h92] at this
                exact this)
            have e5 : (k : Int) + 1 ≤ (N : Int) := by omega
            have hcat := cat_mk now [c]
            have hso := size_one c
            have q1 : ¬ 9223372036854775807 < now.length + 1 := by omega
            clear h92
            go_wp2_with fail
            go_roundw
            case rel => exact ⟨ls, now ++ [c], k + 1, rfl, by go_num, by omega, hst2.out, by simp; omega, HA.out, HO.out, HB.out⟩
            case measure => simp [intOf]; omega
      · obtain rfl : k = N := by omega
        have hls : Hid (ls = Nm.candOf Nm.takeR [] [] t) := Go.Lib.hid (by rw [← HC.out, List.drop_of_length_le (by rw [HN.out]; exact Nat.le_refl _)]; rfl)
        have hst2 := strs_owned HO.out
        have hll : ls.length ≤ 100000 := by omega
        obtain ⟨a, cap, rfl, _, _⟩ := hst2.slice
        have hj := refJoin_any a cap ls wr hst2 (by omega)
        have HJ := Go.Lib.hid hj
        rw [← hls.out] at hfin
        clear hst2 hj hls
        cases hjn : Nm.joinN ls with
        | none =>
          rw [hjn] at HJ hfin
          clear hjn
          go_wp2_with fail
          refine HJ.out.mono ?_
          rintro e w1 ⟨rfl, hb1⟩
          unfold refEnd
          simp only [Option.getD_none, Option.isSome_none]
          go_wp2_with fail
          go_ret2
          exact ⟨refEnd_none hfin.out, HB.out.trans (hb1.mono hgw)⟩
        | some n =>
          have htx := fun w => refText_any (mk n) w
          rw [bl_mk] at htx
          have HTX := Go.Lib.hid htx
          rw [hjn] at HJ hfin
          clear hjn htx
          by_cases heq : Nm.textN n = t
          · have hf : Hid (Nm.parseW Nm.takeR t = some n) := Go.Lib.hid (by rw [hfin.out, Option.bind_some, if_pos heq])
            have e1 := bne_mk_false heq
            have e2 := beq_mk_true heq
            clear hfin heq
            go_wp2_with fail
            refine HJ.out.mono ?_
            rintro e w1 ⟨rfl, hb1⟩
            have HB1 := Go.Lib.hid hb1
            clear hb1
            unfold refEnd
            simp only [Option.getD_some, Option.isSome_some]
            go_wp2_with fail
            refine (HTX.out _).mono ?_
            rintro e w2 ⟨rfl, hb2⟩
            go_wp2_with fail
            go_ret2
            exact ⟨refEnd_some hf.out, (HB.out.trans (HB1.out.mono hgw)).trans (hb2.mono (Nat.le_trans hgw HB1.out.size))⟩
          · have hf : Hid (Nm.parseW Nm.takeR t = none) := Go.Lib.hid (by rw [hfin.out, Option.bind_some, if_neg heq])
            have e1 := bne_mk_true heq
            have e2 := beq_mk_false heq
            clear hfin heq
            go_wp2_with fail
            refine HJ.out.mono ?_
            rintro e w1 ⟨rfl, hb1⟩
            have HB1 := Go.Lib.hid hb1
            clear hb1
            unfold refEnd
            simp only [Option.getD_some, Option.isSome_some]
            go_wp2_with fail
            refine (HTX.out _).mono ?_
            rintro e w2 ⟨rfl, hb2⟩
            go_wp2_with fail
            go_ret2
            exact ⟨refEnd_none hf.out, (HB.out.trans (HB1.out.mono hgw)).trans (hb2.mono (Nat.le_trans hgw HB1.out.size))⟩
end Go.Proofs.Ytfmhmhekildfbaa

