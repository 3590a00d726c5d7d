/- The contracts of name.digits, take: what a text begins with. -/
import Derived.Test.YtfmhmhekildfbaaNameG
namespace Go.Proofs.Ytfmhmhekildfbaa
open Go.RowKit

def numD (l : List UInt8) : Nat := l.foldl (fun n d => 10 * n + (d.toNat - 48)) 0
theorem numD_snoc (l : List UInt8) (d : UInt8) : numD (l ++ [d]) = 10 * numD l + (d.toNat - 48) := by simp [numD]
theorem dig3_eq (l : List UInt8) : Nm.dig3 l = if 3 ≤ l.length ∧ (l.take 3).all Nm.dig = true then some (UInt8.ofNat (numD (l.take 3))) else none := by
  match l with
  | [] => rfl
  | [_] => simp [Nm.dig3]
  | [_, _] => simp [Nm.dig3]
  | a :: b :: c :: r =>
    simp only [Nm.dig3, List.length_cons, List.take_succ_cons, List.take_zero, List.all_cons, List.all_nil, Bool.and_true]
    have h3 : 3 ≤ r.length + 1 + 1 + 1 := by omega
    have e : numD [a, b, c] = 100 * (a.toNat - 48) + 10 * (b.toNat - 48) + (c.toNat - 48) := by simp [numD]; omega
    rw [e]
    by_cases h : (Nm.dig a && Nm.dig b && Nm.dig c) = true
    · rw [if_pos h, if_pos ⟨h3, by rw [← Bool.and_assoc]; exact h⟩]
    · rw [if_neg h, if_neg (fun x => h (by rw [Bool.and_assoc]; exact x.2))]
theorem dig_iff {c : UInt8} : Nm.dig c = true ↔ 48 ≤ c.toNat ∧ c.toNat ≤ 57 := by simp [Nm.dig]
theorem get_mk {l : List UInt8} {k : Nat} (h : k < (mk l).size) : (mk l)[k] = l.getD k 0 := by
  rw [get_bl _ _ h]
  rw [size_mk] at h
  simp [bl_mk, h]

def DigEnd (x : UInt8) (e : Ending) : Prop := ∃ b, e = .returned (.tuple #[.int .u8 x.toNat, .bool b])
theorem DigEnd.of {x : UInt8} {n : Int} {b : Bool} (h : n = x.toNat) : DigEnd x (.returned (.tuple #[.int .u8 n, .bool b])) := ⟨b, by rw [h]⟩

set_option maxRecDepth 100000 in
set_option maxHeartbeats 1000000 in
theorem digits_any (l : List UInt8) (w : World) :
    Calls Try.prog 52 #[.string (mk l)] w fun e w' => DigEnd ((Nm.dig3 l).getD 0) e ∧ w = w' := by
  have hs := size_mk l
  have HS := Go.Lib.hid hs
  by_cases h3 : l.length < 3
  · have hfin : Hid (((Nm.dig3 l).getD 0).toNat = 0) := Go.Lib.hid (by
      rw [dig3_eq, if_neg (fun x => absurd x.1 (by omega))]; rfl)
    have h1 : ((mk l).size : Int) < 3 := by rw [hs]; omega
    clear hs
    go_enter Try.func52, Try.ntmps52
    go_wp2_with fail
    go_ret2
    exact ⟨DigEnd.of (by rw [hfin.out]; rfl), rfl⟩
  · have h1 : ¬ ((mk l).size : Int) < 3 := by rw [hs]; omega
    clear hs
    go_enter Try.func52, Try.ntmps52
    go_wp2_with fail
    go_loop [4, 9] (fun n i => ∃ k N : Nat, i = .int .i64 k ∧ n = .int .i64 N ∧ k ≤ 3 ∧ N = numD (l.take k) ∧ (l.take k).all Nm.dig = true ∧ (k = 0 → N = 0) ∧ (k ≤ 1 → N ≤ 9) ∧ (k ≤ 2 → N ≤ 99) ∧ N ≤ 999) (fun _ i => 3 - (intOf i).toNat)
    case atStart => exact ⟨0, 0, rfl, rfl, by omega, by simp [numD], by simp, fun _ => rfl, by omega, by omega, by omega⟩
    case round =>
      obtain ⟨k, N, rfl, rfl, hk, hN, hall, b0, b1, b2, b3⟩ := hrel
      have HNN := Go.Lib.hid hN
      have HALL := Go.Lib.hid hall
      clear hN hall
      by_cases hlt : k < 3
      · have hks : k < (mk l).size := by rw [HS.out]; omega
        have hg := get_mk hks
        have hsn := getD_take_succ l 0 (k := k) (by omega)
        have HSN := Go.Lib.hid hsn
        have hbad : Hid (Nm.dig (l.getD k 0) = false → ((Nm.dig3 l).getD 0).toNat = 0) := Go.Lib.hid (fun h => by
          rw [dig3_eq, if_neg]
          · rfl
          · rintro ⟨_, h2⟩
            rw [List.all_eq_true] at h2
            have hm : l.getD k 0 ∈ l.take 3 := by
              rw [List.getD_eq_getElem?_getD, List.getElem?_eq_getElem (by omega)]
              exact List.mem_take_iff_getElem.2 ⟨k, by omega, rfl⟩
            have := h2 _ hm
            rw [h] at this
            cases this)
        clear hsn
        generalize l.getD k 0 = c at *
        have hcl := c.toNat_lt
        by_cases hc1 : c.toNat < 48
        · have e1 : (c.toNat : Int) < 48 := by omega
          go_wp2_with fail
          go_ret2
          exact ⟨DigEnd.of (by rw [hbad.out (by unfold Nm.dig; simp; omega)]; rfl), rfl⟩
        · have e1 : ¬ (c.toNat : Int) < 48 := by omega
          by_cases hc2 : 57 < c.toNat
          · have e2 : 57 < (c.toNat : Int) := by omega
            go_wp2_with fail
            go_ret2
            exact ⟨DigEnd.of (by rw [hbad.out (by unfold Nm.dig; simp; omega)]; rfl), rfl⟩
          · have e2 : ¬ 57 < (c.toNat : Int) := by omega
            go_wp2_with fail
            go_round
            case rel => exact ⟨k + 1, 10 * N + (c.toNat - 48), by go_num, by go_num, by omega, by rw [HSN.out, numD_snoc, ← HNN.out], by rw [HSN.out, List.all_append, HALL.out]; simp [Nm.dig]; omega, by omega, by omega, by omega, by omega⟩
            case measure => simp [intOf]; omega
      · have hke : k = 3 := by omega
        have hfin : Hid (((Nm.dig3 l).getD 0).toNat = N % 256) := Go.Lib.hid (by
          have h4 := HALL.out
          have h5 := HNN.out
          rw [hke] at h4 h5
          rw [dig3_eq, if_pos ⟨by omega, h4⟩, ← h5]
          simp)
        go_wp2_with fail
        go_ret2
        exact ⟨DigEnd.of (by rw [hfin.out]; omega), rfl⟩
theorem extract_mk_drop (l : List UInt8) (k : Nat) : (mk l).extract k (mk l).size = mk (l.drop k) := by
  rw [extract_mk, bl_mk, size_mk, List.take_of_length_le (by simp)]

def TakeEnd (p : UInt8 × Nat) : Ending := .returned (.tuple #[.int .u8 p.1.toNat, .int .i64 p.2])
theorem TakeEnd.of {p : UInt8 × Nat} {c k : Int} {x : UInt8} {n : Nat} (h : p = (x, n)) (hc : c = x.toNat) (hk : k = n) : Ending.returned (.tuple #[.int .u8 c, .int .i64 k]) = TakeEnd p := by subst h hc hk; rfl

set_option maxRecDepth 100000 in
set_option maxHeartbeats 1000000 in
theorem take_any (c : UInt8) (r : List UInt8) (w : World) :
    Calls Try.prog 37 #[.string (mk (c :: r))] w fun e w' => e = TakeEnd (Nm.takeB (c :: r)) ∧ w = w' := by
  have hs := size_mk (c :: r)
  have h0 : 0 < (mk (c :: r)).size := by rw [hs]; simp
  have hg0 := get_mk h0
  rw [List.getD_cons_zero] at hg0
  cases r with
  | nil =>
    have hfin : Hid (Nm.takeB [c] = (c, 1)) := Go.Lib.hid rfl
    have hs1 : (((mk [c]).size : Int) == 1) = true := rfl
    clear hs
    by_cases h92 : ((c.toNat : Int) != 92) = false
    · go_enter Try.func37, Try.ntmps37
      go_wp2_with fail
      go_ret2
      exact ⟨TakeEnd.of hfin.out rfl rfl, rfl⟩
    · have h92' : ((c.toNat : Int) != 92) = true := by simpa using h92
      clear h92
      go_enter Try.func37, Try.ntmps37
      go_wp2_with fail
      go_ret2
      exact ⟨TakeEnd.of hfin.out rfl rfl, rfl⟩
  | cons d r =>
    have h1 : 1 < (mk (c :: d :: r)).size := by rw [hs]; simp
    have hg1 := get_mk h1
    rw [List.getD_cons_succ, List.getD_cons_zero] at hg1
    by_cases h92 : ((c.toNat : Int) != 92) = false
    · have h92n : c.toNat = 92 := by
        rw [bne_eq_false_iff_eq] at h92
        omega
      have hs1 : (((mk (c :: d :: r)).size : Int) == 1) = false := by rw [hs, beq_eq_false_iff_ne]; simp; omega
      have hdl := d.toNat_lt
      by_cases hd : Nm.dig d = true
      · obtain ⟨d1, d2⟩ := dig_iff.1 hd
        have hfin : Hid (Nm.takeB (c :: d :: r) = ((Nm.dig3 (d :: r)).getD 0, min 4 (r.length + 2))) := Go.Lib.hid (by simp only [Nm.takeB]; rw [if_pos h92n, if_pos hd])
        have hex := extract_mk_drop (c :: d :: r) 1
        rw [List.drop_succ_cons, List.drop_zero] at hex
        have hdg := fun w => digits_any (d :: r) w
        have HDG := Go.Lib.hid hdg
        have e1 : ¬ ((d.toNat : Int) < 48) := by omega
        have e2 : ¬ (57 < (d.toNat : Int)) := by omega
        have HS := Go.Lib.hid hs
        clear hdg hs h92n hd
        go_enter Try.func37, Try.ntmps37
        go_wp2_with fail
        refine (HDG.out _).mono ?_
        rintro e w' ⟨⟨b, rfl⟩, rfl⟩
        go_wp2_with fail
        go_ret2
        exact ⟨TakeEnd.of hfin.out rfl (by rw [HS.out]; simp; omega), rfl⟩
      · have hd' : Nm.dig d = false := by simpa using hd
        have hfin : Hid (Nm.takeB (c :: d :: r) = (d, 2)) := Go.Lib.hid (by simp only [Nm.takeB]; rw [if_pos h92n, if_neg hd])
        by_cases d1 : d.toNat < 48
        · have e1 : ((d.toNat : Int) < 48) := by omega
          clear hs h92n hd hd' 
          go_enter Try.func37, Try.ntmps37
          go_wp2_with fail
          go_ret2
          exact ⟨TakeEnd.of hfin.out rfl rfl, rfl⟩
        · have e1 : ¬ ((d.toNat : Int) < 48) := by omega
          have e2 : (57 < (d.toNat : Int)) := by
            have : ¬ (48 ≤ d.toNat ∧ d.toNat ≤ 57) := fun x => hd (dig_iff.2 x)
            omega
          clear hs h92n hd hd' 
          go_enter Try.func37, Try.ntmps37
          go_wp2_with fail
          go_ret2
          exact ⟨TakeEnd.of hfin.out rfl rfl, rfl⟩
    · have h92' : ((c.toNat : Int) != 92) = true := by simpa using h92
      have hfin : Hid (Nm.takeB (c :: d :: r) = (c, 1)) := Go.Lib.hid (by simp only [Nm.takeB]; rw [if_neg (fun e => h92 (by rw [e]; rfl))])
      clear h92 hs
      go_enter Try.func37, Try.ntmps37
      go_wp2_with fail
      go_ret2
      exact ⟨TakeEnd.of hfin.out rfl rfl, rfl⟩
end Go.Proofs.Ytfmhmhekildfbaa

