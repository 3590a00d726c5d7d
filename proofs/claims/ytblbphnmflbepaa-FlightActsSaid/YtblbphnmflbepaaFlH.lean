/- Flight: slices.Delete at a row that is owned; slices.Clone of what was sent. -/
import Derived.Test.YtblbphnmflbepaaFlG
import Derived.Lib.SlicesDelete
import Derived.Lib.SliceRun
namespace Go.Proofs.Ytblbphnmflbepaa
open Go.RowKit Go.Lib
set_option linter.unusedVariables false

theorem sn_zero : ∃ i z, Try.prog.info? 36 = some i ∧ i.zero = some z ∧ i.size = 9 ∧ i.bytes ≤ 256 ∧ z.cells.size = 9 ∧ ∀ v ∈ z.cells.toList, v.oneCell' = true := by
  have h : (Try.prog.info? 36).map (fun i => (i.size, decide (i.bytes ≤ 256), i.zero.map (fun z => (z.cells.size, z.cells.toList.all Value.oneCell')))) = some (9, true, some (9, true)) := by kernel_rfl
  cases hq : Try.prog.info? 36 with
  | none => rw [hq] at h; cases h
  | some i =>
    rw [hq] at h
    simp only [Option.map_some, Option.some.injEq, Prod.mk.injEq] at h
    obtain ⟨h1, h2, h3⟩ := h
    cases hz : i.zero with
    | none => rw [hz] at h3; cases h3
    | some z =>
      rw [hz] at h3
      simp only [Option.map_some, Option.some.injEq, Prod.mk.injEq] at h3
      exact ⟨i, z, rfl, hz, h1, of_decide_eq_true h2, h3.1, fun v hv => List.all_eq_true.1 h3.2 v hv⟩
theorem zeroCells_one {z : Array Value} (hz : 0 < z.size) (h1 : ∀ v ∈ z.toList, v.oneCell' = true) (n : Nat) : ∀ v ∈ (Builtin.zeroCells z n).toList, v.oneCell' = true := by
  intro v hv
  simp only [Builtin.zeroCells, Array.toList_map, List.mem_map] at hv
  obtain ⟨i, _, rfl⟩ := hv
  have hi : i % z.size < z.size := Nat.mod_lt _ hz
  refine h1 _ ?_
  rw [getElem!_pos z _ hi]
  simp
/-- clear, at elements of any number of cells -/
theorem run_clear_rows {P : Program} (w : World) (t e ty : TypeId) (i : TypeInfo) (z : Value) (k : Nat) (ht : P.underlying t = some (.slice e)) (hi : P.info? e = some i) (hz : i.zero = some z) (hk : z.cells.size = k) (hk0 : 0 < k)
    (h1 : ∀ v ∈ z.cells.toList, v.oneCell' = true) (b o n c : Nat) (hn : 0 < n)
    (hc : ∀ j, j < n * k → (w.cell? ⟨b, o + j, none⟩).isSome = true) (hf : ∀ j, j < n * k → w.frozen? ⟨b, o + j, none⟩ = false) :
    (Builtin.clear_ #[t] ty #[.slice (some ⟨b, o, none⟩) n c]).run P w = .ok (.tuple #[]) (w.setCells b o (Builtin.zeroCells z.cells n).toList) := by
  have hl : (Builtin.zeroCells z.cells n).toList.length = n * k := by simp [Builtin.zeroCells, hk]
  have hst := run_storeCells_cells (P := P) b o (Builtin.zeroCells z.cells n).toList 0 w (by rw [hl]; simpa using hc) (by rw [hl]; simpa using hf) (zeroCells_one (by omega) h1 n)
  simp only [Nat.add_zero] at hst
  obtain ⟨m, rfl⟩ : ∃ m, n = m + 1 := ⟨n - 1, by omega⟩
  have hv : (zeroValue e).run P w = .ok z w := by simp [zeroValue, typeInfo, hi, hz]
  simp [Builtin.clear_, run_underlying ht, hv, hst]
set_option maxHeartbeats 4000000 in
set_option maxRecDepth 1000000 in
theorem delete_walk (blk off n cap i j : Nat) (cs : List Value) (w : World) (hlt : i < j) (hj : j ≤ n) (hcap : n ≤ cap) (hm : cap ≤ 9223372036854775807) (hcl : cs.length = n * 9)
    (hcs : ∀ k v, cs[k]? = some v → w.cell? ⟨blk, off + k, none⟩ = some v) (hfz : ∀ k, w.frozen? ⟨blk, off + k, none⟩ = false) (h1c : ∀ v ∈ cs, v.oneCell' = true) :
    Calls Try.prog 29 #[.slice (some ⟨blk, off, none⟩) n cap, .int .i64 i, .int .i64 j] w fun e w' =>
      ∃ zs, e = .returned (.slice (some ⟨blk, off, none⟩) (i + (n - j)) cap) ∧ zs.length = (n - (i + (n - j))) * 9 ∧ w' = (w.drew.setCells blk (off + i * 9) (cs.drop (j * 9))).setCells blk (off + (i + (n - j)) * 9) zs := by
  obtain ⟨i0, z, hi0, hz0, hzs, hzb, hzc, hz1⟩ := sn_zero
  have mixed : Try.prog.follows .mixedOrders = true := by kernel_rfl
  obtain ⟨news, hnews⟩ : ∃ news, news = cs.drop (j * 9) := ⟨_, rfl⟩
  have hlen : news.length = (n - j) * 9 := by rw [hnews, List.length_drop, hcl]; omega
  obtain ⟨A, hA, hsrc⟩ : ∃ A : Addr, (if cap = j then some (⟨blk, off, none⟩ : Addr) else some ⟨blk, off + j * 9, none⟩) = some A ∧ Hid (∀ t u, news[t]? = some u → w.drew.cell? (A.add t) = some u) := by
    by_cases h : cap = j
    · refine ⟨⟨blk, off, none⟩, by simp [h], fun t u hu => ?_⟩
      have h0 : news.length = 0 := by omega
      rw [List.length_eq_zero_iff.1 h0] at hu
      simp at hu
    · refine ⟨⟨blk, off + j * 9, none⟩, by simp [h], fun t u hu => ?_⟩
      rw [Addr.add_lit, Nat.add_assoc]
      rw [hnews, List.getElem?_drop] at hu
      exact hcs _ _ hu
  have s1 : Hid (news.length = (n - j) * 9) := hlen
  have s2 : Hid (∀ u ∈ news, u.oneCell' = true) := fun u hu => h1c u (by rw [hnews] at hu; exact List.mem_of_mem_drop hu)
  have hin : ∀ k, k < n * 9 → (w.cell? ⟨blk, off + k, none⟩).isSome = true := fun k hk => by rw [hcs k _ (List.getElem?_eq_getElem (by omega))]; rfl
  have s3 : Hid (∀ t, t < news.length → (w.drew.cell? ⟨blk, off + i * 9 + t, none⟩).isSome = true ∧ w.drew.frozen? ⟨blk, off + i * 9 + t, none⟩ = false) := by
    intro t ht
    rw [hlen] at ht
    rw [Nat.add_assoc]
    exact ⟨hin (i * 9 + t) (by omega), hfz _⟩
  obtain ⟨W1, hW1⟩ : ∃ W1, W1 = w.drew.setCells blk (off + i * 9) news := ⟨_, rfl⟩
  have hcl1 : ∀ ty, (Builtin.clear_ #[72] ty #[.slice (some ⟨blk, off + (i + (n - j)) * 9, none⟩) (n - (i + (n - j))) (cap - (i + (n - j)))]).run Try.prog W1 = .ok (.tuple #[]) (W1.setCells blk (off + (i + (n - j)) * 9) (Builtin.zeroCells z.cells (n - (i + (n - j)))).toList) :=
    fun ty => run_clear_rows W1 72 36 ty i0 z 9 Try.underlying72 hi0 hz0 hzc (by decide) hz1 blk _ _ _ (by omega)
      (fun t ht => by
        rw [hW1, Nat.add_assoc]
        exact isSome_setCells blk _ _ w.drew (fun t ht => by rw [Nat.add_assoc]; exact hin _ (by rw [hlen] at ht; omega)) _ (hin _ (by omega)))
      (fun t ht => by rw [hW1, World.frozen?_setCells, Nat.add_assoc]; exact hfz _)
  have hzl : (Builtin.zeroCells z.cells (n - (i + (n - j)))).toList.length = (n - (i + (n - j))) * 9 := by simp [Builtin.zeroCells, hzc]
  generalize (Builtin.zeroCells z.cells (n - (i + (n - j)))).toList = zs at *
  have hW : Hid (W1 = w.drew.setCells blk (off + i * 9) news) := hW1
  have hN : Hid (news = cs.drop (j * 9)) := hnews
  have hic : i ≤ cap := by omega
  have hjc : j ≤ cap := by omega
  have hA2 := Go.Lib.hid hzl
  clear hW1 hcs hfz hin hnews hlen hzl h1c hzb
  go_enter Try.func29, Try.ntmps29
  go_wp2_with fail
  go_region_law_o (refine step_append_room rfl (.tmp 22) (.tmp 25) 72 rfl 36 i0 9 Try.underlying72 hi0 hzs blk off i cap (by simp [Act.eval, Act.put]) A (n - j) (cap - j) news (by simp [Act.eval, Act.put]) s1.out hsrc.out s2.out (by omega) s3.out ?_; rw [← hW.out])
  go_wp2
  go_ret
  exact ⟨zs, rfl, hA2.out, by rw [hW.out, hN.out]⟩

theorem deleted_cells {w : World} {g i n : Nat} {cs zs : List Value} (hi : i < n) (hcl : cs.length = n * 9)
    (hsp : ∀ j, j < n * 9 → (w.cell? ⟨g, j, none⟩).isSome = true) (hh : ∀ j, j < i * 9 → w.cell? ⟨g, j, none⟩ = cs[j]?) (W : World)
    (hW : ∀ x, W.cell? x = ((w.setCells g (i * 9) (cs.drop ((i + 1) * 9))).setCells g ((n - 1) * 9) zs).cell? x) :
    ∀ j, j < (n - 1) * 9 → W.cell? ⟨g, j, none⟩ = (cs.take (i * 9) ++ cs.drop ((i + 1) * 9))[j]? := by
  intro j hj
  have hdl : (cs.drop ((i + 1) * 9)).length = (n - (i + 1)) * 9 := by rw [List.length_drop, hcl]; omega
  have htl : (cs.take (i * 9)).length = i * 9 := by rw [List.length_take, hcl]; omega
  rw [hW, World.cell?_setCells_out g zs _ _ ⟨g, j, none⟩ (fun _ _ => .inl (by show j < _; omega))]
  by_cases h1 : j < i * 9
  · rw [World.cell?_setCells_out g _ _ _ ⟨g, j, none⟩ (fun _ _ => .inl h1), hh j h1, List.getElem?_append_left (by omega), List.getElem?_take, if_pos h1]
  · have := World.cell?_setCells_in g (cs.drop ((i + 1) * 9)) (i * 9) w (fun t ht => hsp _ (by omega)) (j - i * 9) (by omega)
    rw [show i * 9 + (j - i * 9) = j by omega] at this
    rw [this, List.getElem?_append_right (by omega), htl, List.getElem?_eq_getElem (by omega)]

theorem delete_any (base n i : Nat) (v : Value) (cs : List Value) (w : World)
    (hown : w.ownsRow base 36 9 v n cs) (hi : i < n) (h1c : ∀ v ∈ cs, v.oneCell' = true) :
    Calls Try.prog 29 #[v, .int .i64 i, .int .i64 ((i : Int) + 1)] w fun e w' =>
      ∃ v', e = .returned v' ∧ w'.ownsRow base 36 9 v' (n - 1) (cs.take (i * 9) ++ cs.drop ((i + 1) * 9)) ∧ w.grownBy w' v.ownBlock ∧ v'.ownBlock = v.ownBlock := by
  rcases hown.2 with ⟨_, hn0⟩ | ⟨g, cap, cur, rfl, hbg, hg, hnc, hcm, hcz, htk⟩
  · omega
  · have hcs : ∀ j v, cs[j]? = some v → w.cell? ⟨g, 0 + j, none⟩ = some v := fun j v h => by
      rw [Nat.zero_add, cell_row hg]
      rw [← htk, List.getElem?_take] at h
      split at h
      · rw [← h]; simp
      · cases h
    have hc63 : cap ≤ 9223372036854775807 := by unfold maxLen at hcm; omega
    refine (delete_walk g 0 n cap i (i + 1) cs w (by omega) hi hnc hc63 hown.1 hcs (fun k => frozen_row hg _) h1c).mono ?_
    rintro e w' ⟨zs, rfl, hzl, rfl⟩
    obtain ⟨c1, h1, hz1, hg1⟩ := setCells_row (cs.drop ((i + 1) * 9)) (0 + i * 9) w.drew cur hg
    obtain ⟨c2, h2, hz2, hg2⟩ := setCells_row zs (0 + (i + (n - (i + 1))) * 9) _ c1 h1
    have hnn : i + (n - (i + 1)) = n - 1 := by omega
    refine ⟨_, rfl, ?_, ((grownBy_drew w _).trans hg1).trans hg2, rfl⟩
    rw [hnn] at h2 ⊢
    refine owns_of_cells h2 hbg (by omega) hcm (by rw [hz2, hz1, hcz]) ?_ ?_
    · have := hown.1
      rw [List.length_append, List.length_take, List.length_drop]; omega
    · refine deleted_cells (zs := zs) hi hown.1 (w := w.drew) (fun j hj => by
        show (w.cell? _).isSome = true
        rw [cell_row hg, Array.getElem?_eq_getElem (by
          have : n * 9 ≤ cap * 9 := Nat.mul_le_mul_right _ hnc
          omega)]; rfl) (fun j hj => ?_) _ (fun x => ?_)
      · show w.cell? _ = _
        have := hown.1
        have h := hcs j _ (List.getElem?_eq_getElem (by omega))
        rw [Nat.zero_add] at h
        rw [h, List.getElem?_eq_getElem]
      · rw [Nat.zero_add, Nat.zero_add]
set_option maxHeartbeats 2000000 in
set_option maxRecDepth 100000 in
theorem clone_some (b off n c : Nat) (cs : List Value) (w : World) (hcl : cs.length = n * 9) (hbig : n ≤ 274877906944) (hc : ∀ j v, cs[j]? = some v → w.cell? ⟨b, off + j, none⟩ = some v) (h1c : ∀ v ∈ cs, v.oneCell' = true) :
    Calls Try.prog 35 #[.slice (some ⟨b, off, none⟩) n c] w fun e w' => ∃ v', e = .returned v' ∧ w'.ownsRow w.heap.size 36 9 v' n cs ∧ Below w.heap.size w w' := by
  obtain ⟨i0, z, hi, hz0, hz1, hzb, hzc, hz2⟩ := sn_zero
  have q22 : ∀ (w : World) (a : Option Addr) (n c n' c' : Nat), (binOp .eql 72 (.slice a n c) (.slice none n' c')).run Try.prog w = .ok (.bool a.isNone) w := fun w a n c n' c' => Lib.run_eql_slice_nil w _ _ a n c n' c' Try.underlying72
  have A : Hid (∀ j v, cs[j]? = some v → w.cell? ⟨b, off + j, none⟩ = some v) := hc
  have A2 : Hid (∀ v ∈ cs, v.oneCell' = true) := h1c
  clear hc h1c
  go_enter Try.func35, Try.ntmps35
  go_wp2_with (at_builtin; refine wpList_append_own _ rfl _ _ 72 rfl w.heap.size 36 i0 z 9 i0.bytes Try.underlying72 hi hz0 hz1 rfl hzc (by decide) _ _ _ rfl (World.ownsRow_made w #[] 0 (Nat.le_refl _) (Nat.zero_le _) rfl) ⟨b, off, none⟩ n c cs rfl ?qc1 ?qc2 ?qc3 ?qc4 ?qc5 ?qc6 ?_)
  case qc1 => exact hcl
  case qc2 =>
    intro j u hj
    rw [Addr.add_lit]
    exact Lib.cell?_alloc_some _ (A.out j u hj)
  case qc3 => exact A2.out
  case qc4 => unfold maxLen; omega
  case qc5 => exact Nat.le_trans (Nat.mul_le_mul (by omega : 0 + n ≤ 274877906944) hzb) (by decide)
  case qc6 => simp
  intro v' w1 hown hgrow hnil
  go_wp2
  go_ret
  refine ⟨v', rfl, by simpa using hown, ?_⟩
  exact ((Below.refl _ w).alloc (Nat.le_refl _) _).grown hgrow (by simp) (by intro k hk; simp [Value.ownBlock] at hk; omega)

set_option maxHeartbeats 1000000 in
theorem clone_nil (n c : Nat) (w : World) :
    Calls Try.prog 35 #[.slice none n c] w fun e w' => e = .returned (.slice none 0 0) ∧ w' = w := by
  have q22 : ∀ (w : World) (a : Option Addr) (n c n' c' : Nat), (binOp .eql 72 (.slice a n c) (.slice none n' c')).run Try.prog w = .ok (.bool a.isNone) w := fun w a n c n' c' => Lib.run_eql_slice_nil w _ _ a n c n' c' Try.underlying72
  go_enter Try.func35, Try.ntmps35
  go_wp2
  go_ret
  exact ⟨rfl, rfl⟩

/-- of an owned row a copy in memory of its own -/
theorem clone_any (base n : Nat) (v : Value) (cs : List Value) (w : World) (hown : w.ownsRow base 36 9 v n cs) (hbig : n ≤ 274877906944) (h1c : ∀ v ∈ cs, v.oneCell' = true) :
    Calls Try.prog 35 #[v] w fun e w' => ∃ v', e = .returned v' ∧ w'.ownsRow w.heap.size 36 9 v' n cs ∧ Below w.heap.size w w' := by
  rcases hown.2 with ⟨rfl, hn0⟩ | ⟨g, cap, cur, rfl, hbg, hg, hnc, hcm, hcz, htk⟩
  · refine (clone_nil 0 0 w).mono ?_
    rintro e w' ⟨rfl, rfl⟩
    exact ⟨_, rfl, ⟨hown.1, .inl ⟨rfl, hn0⟩⟩, Below.refl _ _⟩
  · exact clone_some g 0 n cap cs w hown.1 hbig (fun j v h => by
      rw [Nat.zero_add, cell_row hg]
      rw [← htk, List.getElem?_take] at h
      split at h
      · rw [← h]; simp
      · cases h) h1c
end Go.Proofs.Ytblbphnmflbepaa

