/- Plain: records that are made of names, what they say. No program in sight but values. -/
import Derived.Test.YthfpijacemkbbaaDoorRqM
namespace Go.Proofs.YthfpijacemkbbaaDoor
open Go.RowKit
set_option linter.unusedVariables false

/-- a name that stands behind what is known -/
theorem lead_at {a b : List UInt8} (hv : Nm.valid b = true) (r : List UInt8) : Nm.lead ((a ++ (b ++ r)).drop a.length) = some b.length := by
  rw [List.drop_left]
  exact Rc.take_lead (by simp) (by rw [List.take_left]; exact hv)
theorem lead_self {b : List UInt8} (hv : Nm.valid b = true) : Nm.lead b = some b.length := Rc.take_lead (Nat.le_refl _) (by rw [List.take_length]; exact hv)
theorem valid_le {b : List UInt8} (hv : Nm.valid b = true) : 1 ≤ b.length ∧ b.length ≤ 255 := by
  have h := lead_self hv
  obtain ⟨h1, h2, _⟩ := Nm.lead_le h
  exact ⟨h1, h2⟩
/-- one name behind so many bytes -/
theorem place_one {t : Int} {k : Nat} (hs : Rc.shape t = some (k, 1, 0)) {a b : List UInt8} (ha : a.length = k) (hv : Nm.valid b = true) (hk : k ≤ 700) :
    Rc.dataB t (a ++ b) = true ∧ Rc.partsN t (a ++ b) = some [(k, b.length)] := by
  have hl := (valid_le hv).2
  have hn : ¬ t = 1 ∧ ¬ t = 28 ∧ ¬ t = 16 := by refine ⟨?_, ?_, ?_⟩ <;> (rintro rfl; simp [Rc.shape] at hs)
  have hld : Nm.lead ((a ++ b).drop k) = some b.length := by
    have := lead_at (a := a) hv []
    rw [List.append_nil, ha] at this
    exact this
  have hp : Rc.placesP t (a ++ b) = ([(k, b.length)], true) := by
    unfold Rc.placesP
    rw [hs]
    simp only
    rw [if_neg (by rw [List.length_append]; omega)]
    have : Rc.names (a ++ b) k 1 = some ([(k, b.length)], k + b.length) := by
      rw [Rc.names_succ (show Rc.names (a ++ b) k 0 = some ([], k) from rfl), hld]
      rfl
    rw [this]
    simp only [List.length_append, Prod.mk.injEq, decide_eq_true_eq, true_and]
    omega
  have hd : Rc.dataB t (a ++ b) = true := by
    unfold Rc.dataB
    rw [if_neg (by rw [List.length_append]; omega), if_neg hn.1, if_neg hn.2.1, if_neg hn.2.2, hp]
  exact ⟨hd, by rw [Rc.partsN_some hd, hp]⟩
/-- two names, then twenty bytes -/
theorem place_two {a b c : List UInt8} (ha : Nm.valid a = true) (hb : Nm.valid b = true) (hc : c.length = 20) :
    Rc.dataB 6 (a ++ (b ++ c)) = true ∧ Rc.partsN 6 (a ++ (b ++ c)) = some [(0, a.length), (a.length, b.length)] := by
  have h1 := (valid_le ha).2
  have h2 := (valid_le hb).2
  have hl1 : Nm.lead ((a ++ (b ++ c)).drop 0) = some a.length := lead_at (a := []) ha (b ++ c)
  have hl2 : Nm.lead ((a ++ (b ++ c)).drop (0 + a.length)) = some b.length := by rw [Nat.zero_add]; exact lead_at (a := a) hb c
  have hp : Rc.placesP 6 (a ++ (b ++ c)) = ([(0, a.length), (a.length, b.length)], true) := by
    unfold Rc.placesP
    rw [show Rc.shape 6 = some (0, 2, 20) from rfl]
    simp only
    rw [if_neg (by omega)]
    have e1 : Rc.names (a ++ (b ++ c)) 0 1 = some ([(0, a.length)], 0 + a.length) := by
      rw [Rc.names_succ (show Rc.names (a ++ (b ++ c)) 0 0 = some ([], 0) from rfl), hl1]
      rfl
    have e2 : Rc.names (a ++ (b ++ c)) 0 2 = some ([(0, a.length), (a.length, b.length)], a.length + b.length) := by
      rw [Rc.names_succ e1, hl2]
      simp
    rw [e2]
    simp only [List.length_append, Prod.mk.injEq, decide_eq_true_eq, true_and]
    omega
  have hd : Rc.dataB 6 (a ++ (b ++ c)) = true := by
    unfold Rc.dataB
    rw [if_neg (by simp only [List.length_append]; omega), if_neg (by omega), if_neg (by omega), if_neg (by omega), hp]
  exact ⟨hd, by rw [Rc.partsN_some hd, hp]⟩
theorem valid_root : Nm.valid [0] = true := by decide +kernel
theorem soa_data {n : List UInt8} {x y : Int} (hn : Nm.valid n = true) : Rc.dataB 6 (soaD n x y) = true := (place_two (a := n) (b := [0]) hn valid_root (c := four x ++ (four 1 ++ (four 2 ++ (four 3 ++ four y)))) rfl).1

theorem chk {n d : List UInt8} {t : Int} (hn : Nm.valid n = true) (h1 : 1 ≤ t) (h2 : t ≤ 40) (hd : Rc.dataB t d = true) (l : Int) (hl : 0 ≤ l ∧ l ≤ 2147483647) : checkB ⟨n, t, 1, l, d⟩ = true := by
  unfold checkB
  simp only [hn, hd, Bool.and_true, Bool.true_and, Bool.and_eq_true, decide_eq_true_eq, bne_iff_ne, ne_eq]
  omega
theorem madeN_ok {r : Rc.RR} (h : checkB r = true) : madeN r = r := by unfold madeN; rw [if_pos h]
theorem makeN_ok {n to : List UInt8} {t : Int} (ht : t = 2 ∨ t = 5 ∨ t = 12) (hn : Nm.valid n = true) (ho : Nm.valid to = true) {l : Int} (hl : 0 ≤ l ∧ l ≤ 2147483647) : makeNN n t l to = ⟨n, t, 1, l, to⟩ := by
  unfold makeNN
  rw [if_pos ht]
  exact madeN_ok (chk hn (by omega) (by omega) (parts_one ht ho).1 l hl)
theorem data_a (x : Int) : Rc.dataB 1 (four x) = true := rfl
theorem makeA_ok {n : List UInt8} {x : Int} (hn : Nm.valid n = true) (h0 : 0 ≤ x) (h1 : x < 4294967296) {l : Int} (hl : 0 ≤ l ∧ l ≤ 2147483647) : makeAN n l x = ⟨n, 1, 1, l, four x⟩ := by
  unfold makeAN
  rw [if_pos (by omega)]
  exact madeN_ok (chk hn (by omega) (by omega) (data_a x) l hl)
theorem makeS_ok {n : List UInt8} {x y : Int} (hn : Nm.valid n = true) (h0 : 0 ≤ x ∧ x < 4294967296) (h1 : 0 ≤ y ∧ y < 4294967296) {l : Int} (hl : 0 ≤ l ∧ l ≤ 2147483647) : makeSN n l x y = ⟨n, 6, 1, l, soaD n x y⟩ := by
  unfold makeSN
  rw [if_pos (by omega)]
  exact madeN_ok (chk hn (by omega) (by omega) (soa_data hn) l hl)
theorem targ_one {t : Int} {k : Nat} (hs : Rc.shape t = some (k, 1, 0)) {a b : List UInt8} (ha : a.length = k) (hv : Nm.valid b = true) (hk : k ≤ 700) : targV t (a ++ b) = .tuple #[.string (mk b), .bool true] := by
  have h6 : ¬ t = 6 := by rintro rfl; simp [Rc.shape] at hs
  have hp := (place_one hs ha hv hk).2
  have : targP t (a ++ b) = (b, true) := by
    unfold targP
    rw [if_neg h6, hp]
    simp only [Option.getD_some]
    rw [← ha, List.drop_left, List.take_length]
  unfold targV
  rw [this]
theorem targ_name {t : Int} (ht : t = 2 ∨ t = 5 ∨ t = 12) {b : List UInt8} (hv : Nm.valid b = true) : targV t b = .tuple #[.string (mk b), .bool true] :=
  targ_one (k := 0) (by unfold Rc.shape; rw [if_pos ht]) (a := []) rfl hv (by omega)
theorem targ_a (d : List UInt8) : targV 1 d = .tuple #[.string ⟨#[]⟩, .bool false] := by
  have : targP 1 d = ([], false) := by
    unfold targP
    rw [if_neg (by decide)]
    have : (Rc.partsN 1 d).getD [] = [] := by
      unfold Rc.partsN
      split
      · rfl
      · rfl
    rw [this]
  unfold targV
  rw [this]
  rfl
theorem targ_soa (d : List UInt8) : targV 6 d = .tuple #[.string ⟨#[]⟩, .bool false] := by
  unfold targV targP
  rw [if_pos rfl]
  rfl
theorem addr_a {x : Int} (h0 : 0 ≤ x) (h1 : x < 4294967296) : addrV 1 (four x) = .tuple #[.int .i64 x, .bool true] := by
  unfold addrV
  rw [if_pos ⟨rfl, rfl⟩]
  have := num4_four x h0 h1
  unfold four
  simp only [List.getD_cons_zero, List.getD_cons_succ]
  rw [this]
theorem addr_no {t : Int} (ht : ¬ t = 1) (d : List UInt8) : addrV t d = .tuple #[.int .i64 0, .bool false] := by
  unfold addrV
  rw [if_neg (fun h => ht h.1)]
theorem min_no {t : Int} (ht : ¬ t = 6) (d : List UInt8) : minV t d = .tuple #[.int .i64 0, .bool false] := by
  unfold minV
  rw [if_neg (fun h => ht h.1)]
theorem min_soa {n : List UInt8} {x y : Int} (hn : Nm.valid n = true) (h0 : 0 ≤ y) (h1 : y < 4294967296) : minV 6 (soaD n x y) = .tuple #[.int .i64 y, .bool true] := by
  unfold minV
  rw [if_pos ⟨rfl, soa_data hn⟩]
  have hd : (soaD n x y).drop ((soaD n x y).length - 4) = four y := by
    have e : soaD n x y = (n ++ ([0] ++ (four x ++ (four 1 ++ (four 2 ++ four 3))))) ++ four y := by simp [soaD]
    rw [e, List.length_append, show (four y).length = 4 from rfl, Nat.add_sub_cancel, List.drop_left]
  unfold lastN
  rw [hd]
  have := num4_four y h0 h1
  unfold four
  simp only [List.getD_cons_zero, List.getD_cons_succ]
  rw [this]
end Go.Proofs.YthfpijacemkbbaaDoor

