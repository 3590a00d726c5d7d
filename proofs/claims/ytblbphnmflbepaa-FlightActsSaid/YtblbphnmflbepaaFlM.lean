/- Flight: the table's Match. -/
import Derived.Test.YtblbphnmflbepaaFlL
import Derived.Test.YtblbphnmflbepaaMsgC
import Derived.Test.YtblbphnmflbepaaAlkB
namespace Go.Proofs.Ytblbphnmflbepaa
open Go.RowKit Go.Lib Go.Shelf Go.Sq
set_option linter.unusedVariables false
attribute [local go_sem] Oper.semAt_some

/-- is it this one's answer? -/
def hitN (addr port : Int) (m : Msg) (s : Sn) : Bool := decide (s.port = port) && decide (s.sa = addr) && answersN (askN (bits .and .i64 s.id 65535) ⟨s.qn, s.qt, s.qc⟩) m
def matchN (addr port : Int) (m : Msg) (l : List Sn) : Sn × Bool := match l.find? (hitN addr port m) with
  | some s => (s, true)
  | none => (s0, false)
theorem matchN_some {addr port : Int} {m : Msg} {l : List Sn} {s : Sn} (h : l.find? (hitN addr port m) = some s) : matchN addr port m l = (s, true) := by unfold matchN; rw [h]
theorem matchN_none {addr port : Int} {m : Msg} {l : List Sn} (h : l.find? (hitN addr port m) = none) : matchN addr port m l = (s0, false) := by unfold matchN; rw [h]
def SnOk (l : List Sn) : Prop := ∀ s ∈ l, s.qn.length ≤ maxLen

theorem ownFrom_heap {β : Type} (B k : Nat) (f : β → Array Value) (T : TypeId) (fr : Nat × Nat) : OwnFrom B (fun s W => W.heap[k]? = some (.cells (f s) T fr)) := fun s W W' row hs hg hr => by
  have hlt := (Array.getElem?_eq_some_iff.1 hs).1
  refine (hg.block k hlt fun e => ?_).trans hs
  obtain ⟨_, o, ho, hc⟩ := hr k e.symm
  rw [hs] at ho
  cases ho
  cases hc
theorem ownFrom_ex {β γ : Type} {B : Nat} {I : γ → β → World → Prop} (h : ∀ g, OwnFrom B (I g)) : OwnFrom B (fun s W => ∃ g, I g s W) := fun s W W' row hs hg hr => by
  obtain ⟨g, h1⟩ := hs
  exact ⟨g, h g s W W' row h1 hg hr⟩

theorem heap6 (w : World) (o1 o2 o3 o4 o5 o6 : Obj) : ∀ W, W = (((((w.alloc o1).alloc o2).alloc o3).alloc o4).alloc o5).alloc o6 →
    W.heap[w.heap.size]? = some o1 ∧ W.heap[w.heap.size + 1]? = some o2 ∧ W.heap[w.heap.size + 1 + 1]? = some o3 ∧ W.heap[w.heap.size + 1 + 1 + 1]? = some o4 ∧ W.heap[w.heap.size + 1 + 1 + 1 + 1]? = some o5 ∧ W.heap[w.heap.size + 1 + 1 + 1 + 1 + 1]? = some o6 ∧ W.heap.size = w.heap.size + 6 ∧ Below w.heap.size w W := by
  rintro W rfl
  have old : ∀ (W : World) (o : Obj) (k : Nat), k < W.heap.size → (W.alloc o).heap[k]? = W.heap[k]? := fun W o k h => Lib.alloc_old W o k h
  refine ⟨?_, ?_, ?_, ?_, ?_, ?_, ?_, ?_⟩
  · rw [old, old, old, old, old, heap_alloc_new]
    all_goals (simp only [World.size_alloc]; omega)
  · have := heap_alloc_new (w.alloc o1) o2
    rw [World.size_alloc] at this
    rw [old, old, old, old, this]
    all_goals (simp only [World.size_alloc]; omega)
  · have := heap_alloc_new ((w.alloc o1).alloc o2) o3
    simp only [World.size_alloc] at this
    rw [old, old, old, this]
    all_goals (simp only [World.size_alloc]; omega)
  · have := heap_alloc_new (((w.alloc o1).alloc o2).alloc o3) o4
    simp only [World.size_alloc] at this
    rw [old, old, this]
    all_goals (simp only [World.size_alloc]; omega)
  · have := heap_alloc_new ((((w.alloc o1).alloc o2).alloc o3).alloc o4) o5
    simp only [World.size_alloc] at this
    rw [old, this]
    all_goals (simp only [World.size_alloc]; omega)
  · have := heap_alloc_new (((((w.alloc o1).alloc o2).alloc o3).alloc o4).alloc o5) o6
    simp only [World.size_alloc] at this
    exact this
  · simp only [World.size_alloc]
  · exact ((((((Below.refl _ w).alloc (by simp) _).alloc (by simp) _).alloc (by simp; omega) _).alloc (by simp; omega) _).alloc (by simp; omega) _).alloc (by simp; omega) _

/-- what was sent in a variable, and a truth in another -/
theorem results_sn_box {fn : Func} {p q : Tmp} (h : fn.results = #[.cell p 36, .cell q 4]) (tmps : Array Value) (w : World) (a b : Nat) (s : Sn) (y : Bool)
    (hp : tmps.getD p undef = .pointer (some ⟨a, 0, none⟩)) (hq : tmps.getD q undef = .pointer (some ⟨b, 0, none⟩)) (hx : w.heap[a]? = some (.cells (snA s) 36 (0, 0))) (hy : w.heap[b]? = some (.cells #[.bool y] 4 (0, 0))) :
    (results fn tmps).run Try.prog w = .ok (.tuple #[snV s, .bool y]) w := by
  obtain ⟨fs, hu⟩ : ∃ fs, Try.prog.underlying 36 = some (.struct fs) := ⟨_, Try.underlying36⟩
  have hb : ∀ w, (isAgg 4).run Try.prog w = .ok false w := fun w => by simp [isAgg, go_sem]
  have hp' : tmps[p]?.getD undef = .pointer (some ⟨a, 0, none⟩) := by simpa using hp
  have hq' : tmps[q]?.getD undef = .pointer (some ⟨b, 0, none⟩) := by simpa using hq
  have hyc : w.cell? ⟨b, 0, none⟩ = some (.bool y) := by simp [World.cell?, hy]
  have hl1 := run_loadVar_row (P := Try.prog) w a _ 36 (snA s) (0, 0) _ hx hu rfl sn_size
  have hl2 : (loadVar 4 ⟨b, 0, none⟩).run Try.prog w = .ok (.bool y) w := by
    simp [loadVar, load, Sem.run_bind, hb, Result.andThen, go_sem]
    simp [Sem.run, hyc]
  simp [results, h, hp', hq', asAddr, hl1, hl2]

abbrev frM (b : Nat) (addr port : Int) (mv : Value) (H N : Nat) (s : Sn) : Act := { tmps := #[.pointer (some ⟨b, 0, none⟩), .int .i64 addr, .int .i64 port, mv, undef, .pointer (some ⟨H, 0, none⟩), .pointer (some ⟨H + 1, 0, none⟩), .pointer (some ⟨H + 1 + 1, 0, none⟩), .pointer (some ⟨H + 1 + 1 + 1, 0, none⟩), .pointer (some ⟨H + 1 + 1 + 1 + 1, 0, none⟩),
  .pointer (some ⟨N, 0, none⟩), .pointer (some ⟨b, 0, none⟩), .func (.func 34) #[] #[.pointer (some ⟨H + 1 + 1 + 1 + 1 + 1, 0, none⟩)], snV s, undef, undef, undef, undef, undef, undef, undef, undef, undef, undef, undef, undef, undef, undef, undef, undef, undef, undef, undef, undef, undef, undef], defers := [] }
/-- none yet -/
def MatI (w2 : World) (h : Sn → Bool) (pre : List Sn) (W : World) : Prop := Below w2.heap.size w2 W ∧ ∀ s ∈ pre, h s = false
/-- the one -/
def MatX (w : World) (h : Sn → Bool) (H : Nat) (c : Code) (pre : List Sn) (W : World) : Prop :=
  (Below w.heap.size w W ∧ (W.heap[H + 1 + 1 + 1]? = some (.cells (snA (pre.getLastD s0)) 36 (0, 0)) ∧ W.heap[H + 1 + 1 + 1 + 1]? = some (.cells #[.bool true] 4 (0, 0)))) ∧ c = .ret ∧ pre.find? h = some (pre.getLastD s0)
theorem find_snoc {h : Sn → Bool} {pre : List Sn} {x : Sn} (hp : ∀ s ∈ pre, h s = false) (hx : h x = true) : (pre ++ [x]).find? h = some ((pre ++ [x]).getLastD s0) := by
  rw [List.find?_append, List.find?_eq_none.2 (fun s hs => by simp [hp s hs])]
  simp [hx]
theorem find_prefix {h : Sn → Bool} {pre l : List Sn} {x : Sn} (hp : pre <+: l) (hx : pre.find? h = some x) : l.find? h = some x := by
  obtain ⟨t, rfl⟩ := hp
  rw [List.find?_append, hx]; rfl

set_option maxRecDepth 100000 in
set_option maxHeartbeats 4000000 in
theorem Match_any (base b : Nat) (most : Int) (l : List Sn) (addr port : Int) (m : Msg) (q a s d : Value) (w : World) (hT : IsTab base b most l w) (hl : l.length ≤ 274877906944) (hm : MsgL w m q a s d) (hn : ∀ x ∈ m.qs, x.name.length ≤ maxLen) (hs : SnOk l) :
    Calls Try.prog 15 #[.pointer (some ⟨b, 0, none⟩), .int .i64 addr, .int .i64 port, MV m q a s d] w fun e w' =>
      e = .returned (.tuple #[snV (matchN addr port m l).1, .bool (matchN addr port m l).2]) ∧ Below w.heap.size w w' := by
  have mixed : Try.prog.follows .mixedOrders = true := by kernel_rfl
  obtain ⟨aq, cq, rfl, _, _⟩ := hm.qs.slice
  obtain ⟨aa, ca, rfl, _, _⟩ := hm.an.slice
  obtain ⟨asv, cs, rfl, _, _⟩ := hm.sv.slice
  obtain ⟨ad, cd, rfl, _, _⟩ := hm.ad.slice
  have hall := fun w => All_any (.pointer (some ⟨b, 0, none⟩)) w (.inr ⟨b, rfl⟩)
  have HALL := Go.Lib.hid hall
  have HM := Go.Lib.hid hm
  have HT := Go.Lib.hid hT
  have HSOK := Go.Lib.hid hs
  clear hall hm hT hs
  refine (callsIn_wide (n := 8)).1 ?_
  refine callsIn_of_wp_marks Try.func15 rfl trivial ?_ rfl
  simp only [Try.ntmps15, List.size_toArray, List.length_cons, List.length_nil, Nat.reduceAdd, Nat.reduceSub, Array.replicate_succ, Array.replicate_zero, List.push_toArray, List.append_toArray, List.nil_append, List.cons_append]
  gi_wp2_with fail
  refine ⟨trivial, (callsIn_wide.2 (HALL.out _)).mono ?_⟩
  rintro e w2 ⟨rfl, hw2⟩
  obtain ⟨k5, k6, k7, k8, k9, kB, hz2, hb2⟩ := heap6 w _ _ _ _ _ _ w2 hw2
  have k8 : w2.heap[w.heap.size + 1 + 1 + 1]? = some (.cells (snA s0) 36 (0, 0)) := k8
  clear hw2
  have hseq := all_seq 7 (by omega) _ base b most l w2 (HT.out.below hb2) hl (by rw [hz2]; exact Nat.lt_succ_self _) (by show w2.cell? ⟨w.heap.size + 1 + 1 + 1 + 1 + 1, 0, none⟩ = _; simp [World.cell?, kB])
  have hm2 := HM.out.below hb2 (Nat.le_refl _)
  have HSEQ := Go.Lib.hid hseq
  have HZ2 := Go.Lib.hid hz2
  have HB2 := Go.Lib.hid hb2
  have HM2 := Go.Lib.hid hm2
  have K5 := Go.Lib.hid k5
  have K6 := Go.Lib.hid k6
  have K7 := Go.Lib.hid k7
  have K8 := Go.Lib.hid k8
  have K9 := Go.Lib.hid k9
  clear hseq hz2 hb2 hm2 k5 k6 k7 k8 k9
  clear kB
  gi_wp2_with fail
  refine wpIn_rangeFunc_ok rfl (by omega) (gf := 34) (lb := #[.pointer (some ⟨w.heap.size + 1 + 1 + 1 + 1 + 1, 0, none⟩)]) rfl trivial (enters_of Try.func34 (by kernel_rfl) rfl)
    HSEQ.out KpT.trans (fun W l o o' _ h1 h2 _ => KpT.put W l o o' h1 h2) (Below.refl _ _) (fun _ => rfl)
    (MatI w2 (hitN addr port m)) (MatX w (hitN addr port m) w.heap.size)
    (OwnFrom.and (ownFrom_below (Nat.le_refl _) (Nat.le_refl _)) (ownFrom_pure _ _))
    (fun c => OwnFrom.and (OwnFrom.and (ownFrom_below (Nat.le_refl _) (by rw [HZ2.out]; omega)) (OwnFrom.and (ownFrom_heap _ _ (fun pre : List Sn => snA (pre.getLastD s0)) _ _) (ownFrom_heap _ _ (fun _ => _) _ _))) (ownFrom_pure _ _))
    ⟨Below.refl _ _, fun s hs => by cases hs⟩ (fun x a' W => ∃ N, (w2.heap.size ≤ N ∧ a' = frM b addr port (MV m (.slice aq m.qs.length cq) (.slice aa m.an.length ca) (.slice asv m.sv.length cs) (.slice ad m.ad.length cd)) w.heap.size N x) ∧ W.heap[N]? = some (.cells (snA x) 36 (0, 0)))
    (fun x a' => ownFrom_ex fun N => OwnFrom.and (ownFrom_pure _ (fun _ => _)) (ownFrom_heap _ _ (fun _ => _) _ _)) ?assign ?body ?done ?stop
  case assign =>
    intro lp pre x W K hi hok hK
    have HK := Go.Lib.hid hK
    have HI := Go.Lib.hid hi
    clear hK hi
    unfold encSn
    gi_wp2
    refine HK.out _ _ (keepsFrom_below ((Below.refl _ W).alloc (Nat.le_refl _) _)) ((KpT.refl W).alloc _) ⟨HI.out.1.alloc HI.out.1.size _, HI.out.2⟩ ⟨W.heap.size, ⟨HI.out.1.size, rfl⟩, heap_alloc_new _ _⟩
  case body =>
    rintro lp pre x a' W ⟨hb, hpre⟩ hok ⟨N, ⟨hN, rfl⟩, hx⟩
    obtain ⟨e0, e1, e2, e3, e4, e5, e6, e7, e8⟩ := SnBlk.of_heap hx
    have hNl := (Array.getElem?_eq_some_iff.1 hx).1
    have hzz := HZ2.out
    have h5 := (hb.block _ (by omega)).trans K5.out
    have h6 := (hb.block _ (by omega)).trans K6.out
    have h7 := (hb.block _ (by omega)).trans K7.out
    have h8 := (hb.block _ (by omega)).trans K8.out
    have h9 := (hb.block _ (by omega)).trans K9.out
    have l5 := (Array.getElem?_eq_some_iff.1 h5).1
    have l6 := (Array.getElem?_eq_some_iff.1 h6).1
    have l7 := (Array.getElem?_eq_some_iff.1 h7).1
    have l8 := (Array.getElem?_eq_some_iff.1 h8).1
    have l9 := (Array.getElem?_eq_some_iff.1 h9).1
    have c0 := BelowC.cell (W := W) e0 hNl
    have c1 := BelowC.cell (W := W) e1 hNl
    have c2 := BelowC.cell (W := W) e2 hNl
    have c3 := BelowC.cell (W := W) e3 hNl
    have c4 := BelowC.cell (W := W) e4 hNl
    have c5 := BelowC.cell (W := W) e5 hNl
    have c6 := BelowC.cell (W := W) e6 hNl
    have c7 := BelowC.cell (W := W) e7 hNl
    have c8 := BelowC.cell (W := W) e8 hNl
    have c9 := BelowC.cell (W := W) (show W.cell? ⟨w.heap.size, 0, none⟩ = some (.int .i64 addr) by simp [World.cell?, h5]) l5
    have c10 := BelowC.cell (W := W) (show W.cell? ⟨w.heap.size + 1, 0, none⟩ = some (.int .i64 port) by simp [World.cell?, h6]) l6
    have m0 := BelowC.cell (W := W) (show W.cell? ⟨w.heap.size + 1 + 1, 0, none⟩ = some (.int .i64 m.id) by simp [World.cell?, h7]) l7
    have m1 := BelowC.cell (W := W) (show W.cell? ⟨w.heap.size + 1 + 1, 1, none⟩ = some (.bool m.resp) by simp [World.cell?, h7]) l7
    have m2 := BelowC.cell (W := W) (show W.cell? ⟨w.heap.size + 1 + 1, 2, none⟩ = some (.int .i64 m.op) by simp [World.cell?, h7]) l7
    have m3 := BelowC.cell (W := W) (show W.cell? ⟨w.heap.size + 1 + 1, 3, none⟩ = some (.bool m.auth) by simp [World.cell?, h7]) l7
    have m4 := BelowC.cell (W := W) (show W.cell? ⟨w.heap.size + 1 + 1, 4, none⟩ = some (.bool m.cut) by simp [World.cell?, h7]) l7
    have m5 := BelowC.cell (W := W) (show W.cell? ⟨w.heap.size + 1 + 1, 5, none⟩ = some (.bool m.des) by simp [World.cell?, h7]) l7
    have m6 := BelowC.cell (W := W) (show W.cell? ⟨w.heap.size + 1 + 1, 6, none⟩ = some (.bool m.avail) by simp [World.cell?, h7]) l7
    have m7 := BelowC.cell (W := W) (show W.cell? ⟨w.heap.size + 1 + 1, 7, none⟩ = some (.int .i64 m.code) by simp [World.cell?, h7]) l7
    have m8 := BelowC.cell (W := W) (show W.cell? ⟨w.heap.size + 1 + 1, 8, none⟩ = some (.slice aq m.qs.length cq) by simp [World.cell?, h7]) l7
    have m9 := BelowC.cell (W := W) (show W.cell? ⟨w.heap.size + 1 + 1, 9, none⟩ = some (.slice aa m.an.length ca) by simp [World.cell?, h7]) l7
    have m10 := BelowC.cell (W := W) (show W.cell? ⟨w.heap.size + 1 + 1, 10, none⟩ = some (.slice asv m.sv.length cs) by simp [World.cell?, h7]) l7
    have m11 := BelowC.cell (W := W) (show W.cell? ⟨w.heap.size + 1 + 1, 11, none⟩ = some (.slice ad m.ad.length cd) by simp [World.cell?, h7]) l7
    have m12 := BelowC.cell (W := W) (show W.cell? ⟨w.heap.size + 1 + 1, 12, none⟩ = some (.bool m.edns) by simp [World.cell?, h7]) l7
    have m13 := BelowC.cell (W := W) (show W.cell? ⟨w.heap.size + 1 + 1, 13, none⟩ = some (.int .i64 m.size) by simp [World.cell?, h7]) l7
    have hne : Nonempty (Subtype (Below W.heap.size W)) := ⟨⟨W, Below.refl _ _⟩⟩
    clear h5 h6 h7 e0 e1 e2 e3 e4 e5 e6 e7 e8
    have HB := Go.Lib.hid hb
    have HPRE := Go.Lib.hid hpre
    have HX := Go.Lib.hid hx
    have HOK := Go.Lib.hid hok
    have H8 := Go.Lib.hid h8
    have H9 := Go.Lib.hid h9
    have HZZ := Go.Lib.hid hzz
    have HNN := Go.Lib.hid hN
    clear hb hpre hx hok h8 h9 hzz hN
    -- no
    have hno : ∀ W7, Below W.heap.size W W7 → hitN addr port m x = false → KeepsFrom w2.heap.size W W7 ∧ KpT IsSn W W7 ∧ MatI w2 (hitN addr port m) (pre ++ [x]) W7 := fun W7 h7 hf => ⟨keepsFrom_below h7, KpT.of_below h7, HB.out.trans (h7.mono HB.out.size), fun s hs => by
      rcases List.mem_append.1 hs with h | h
      · exact HPRE.out s h
      · obtain rfl := List.mem_singleton.1 h; exact hf⟩
    have HNO := Go.Lib.hid hno
    clear hno
    by_cases hp : x.port = port
    · have p1 : (x.port == port) = true := beq_iff_eq.2 hp
      by_cases hsa : x.sa = addr
      · have p2 : (x.sa == addr) = true := beq_iff_eq.2 hsa
        have hask := fun w => Ask_any x.id ⟨x.qn, x.qt, x.qc⟩ w
        have hhit : hitN addr port m x = answersN (askN (bits .and .i64 x.id 65535) ⟨x.qn, x.qt, x.qc⟩) m := by unfold hitN; rw [decide_eq_true hp, decide_eq_true hsa]; rfl
        have HASK := Go.Lib.hid hask
        have HHIT := Go.Lib.hid hhit
        clear hask hhit
        clear hp hsa
        gi_wp2_with fail
        refine Go.Mix.wpIn_region_mixT (Es := [16, 18]) 19 (Below W.heap.size W) mixed (by kernel_rfl) (Below.refl _ _).drew ?_
        iterate 16 (refine Go.Mix.mixT_step rfl (fun K hK => ?_); have HKK := Go.Lib.hid hK; clear hK; go_simp; refine HKK.out _ _ ?_; clear HKK K)
        refine Go.Mix.mixT_eff rfl (fun K hK => ?_)
        have HKK := Go.Lib.hid hK
        clear hK
        go_simp
        refine (HASK.out _).mono ?_; rintro e w3 ⟨f1, f2, f3, f4, rfl, htm, hx3⟩
        have hb3 : Below W.heap.size W w3 := ((Below.refl W.heap.size W).drew).trans hx3
        have hans := Answers_any (askN (bits .and .i64 x.id 65535) ⟨x.qn, x.qt, x.qc⟩) m f1 f2 f3 f4 (.slice aq m.qs.length cq) (.slice aa m.an.length ca) (.slice asv m.sv.length cs) (.slice ad m.ad.length cd) w3 htm.lies (HM2.out.below (HB.out.trans (hb3.mono HB.out.size)) (Nat.le_refl _))
          (fun y hy => by obtain rfl := List.mem_singleton.1 hy; exact HSOK.out x (List.IsPrefix.subset HOK.out (by simp))) hn
        rw [← HHIT.out] at hans
        have HB3 := Go.Lib.hid hb3
        have HANS := Go.Lib.hid hans
        clear hb3 hans
        clear hx3 htm
        go_simp
        refine HKK.out _ _ HB3.out ?_
        clear HKK K
        iterate 1 (refine Go.Mix.mixT_step rfl (fun K hK => ?_); have HKK := Go.Lib.hid hK; clear hK; go_simp; refine HKK.out _ _ ?_; clear HKK K)
        refine Go.Mix.mixT_eff rfl (fun K hK => ?_)
        have HKK := Go.Lib.hid hK
        clear hK
        go_simp
        refine HANS.out.mono ?_; rintro e w4 ⟨rfl, hx4⟩
        have hb4 : Below W.heap.size W w4 := HB3.out.trans (hx4.mono HB3.out.size)
        have HB4 := Go.Lib.hid hb4
        clear hb4
        clear hx4
        go_simp
        refine HKK.out _ _ HB4.out ?_
        clear HKK K c9 c10 m0 m1 m2 m3 m4 m5 m6 m7 m8 m9 m10 m11 m12 m13
        refine Go.Mix.mixT_last rfl (fun K hK => ?_)
        have HKK := Go.Lib.hid hK
        clear hK
        go_simp
        refine HKK.out _ _ ?_
        clear HKK K c0 c1 c2 c3 c4 c5 c6 c7 c8 hne
        cases hh : hitN addr port m x with
        | false =>
          gi_wp2_with fail
          exact HNO.out _ HB4.out hh
        | true =>
          have hfind := find_snoc HPRE.out hh
          have h8 := (HB4.out.block _ l8).trans H8.out
          have h9 := (HB4.out.block _ l9).trans H9.out
          have hxx := (HB4.out.block _ hNl).trans HX.out
          obtain ⟨e0, e1, e2, e3, e4, e5, e6, e7, e8⟩ := SnBlk.of_heap hxx
          obtain ⟨b0, b1, b2, b3, b4, b5, b6, b7, b8⟩ := SnBlk.of_heap h8
          have hfr : ∀ i, w4.frozen? ⟨w.heap.size + 1 + 1 + 1, i, none⟩ = false := frozen_row h8
          have hfr9 : ∀ i, w4.frozen? ⟨w.heap.size + 1 + 1 + 1 + 1, i, none⟩ = false := frozen_row h9
          have b9 : w4.cell? ⟨w.heap.size + 1 + 1 + 1 + 1, 0, none⟩ = some (.bool false) := by simp [World.cell?, h9]
          have H84 := Go.Lib.hid h8
          have H94 := Go.Lib.hid h9
          have HFIND := Go.Lib.hid hfind
          clear h8 h9 hfind
          clear hxx hh
          gi_wp2_with fail
          show KeepsFrom w2.heap.size W ((w4.setCells (w.heap.size + 1 + 1 + 1) 0 (snC x)).setCell ⟨w.heap.size + 1 + 1 + 1 + 1, 0, none⟩ (.bool true)) ∧ MatX w (hitN addr port m) w.heap.size .ret (pre ++ [x]) ((w4.setCells (w.heap.size + 1 + 1 + 1) 0 (snC x)).setCell ⟨w.heap.size + 1 + 1 + 1 + 1, 0, none⟩ (.bool true))
          have hzz := HZZ.out
          rw [box_set H84.out]
          have r8 := heap_row (cs := snA x) H84.out
          have r9 : (w4.setRow (w.heap.size + 1 + 1 + 1) (snA x)).heap[w.heap.size + 1 + 1 + 1 + 1]? = _ := (setRow_other _ _ _ _ (by omega)).trans H94.out
          have hbR : Below w.heap.size w (w4.setRow (w.heap.size + 1 + 1 + 1) (snA x)) := below_row (HB2.out.trans ((HB.out.trans (HB4.out.mono HB.out.size)).mono (by omega))) (by omega) _
          have hkR : KeepsFrom w2.heap.size W (w4.setRow (w.heap.size + 1 + 1 + 1) (snA x)) := (keepsFrom_below HB4.out).trans ⟨by rw [setRow_size]; exact Nat.le_refl _, fun k o hk ho _ => by rw [setRow_other _ _ _ _ (by omega)]; exact ho⟩
          generalize w4.setRow (w.heap.size + 1 + 1 + 1) (snA x) = Z at *
          have hset : Z.setCell ⟨w.heap.size + 1 + 1 + 1 + 1, 0, none⟩ (.bool true) = Z.setRow (w.heap.size + 1 + 1 + 1 + 1) #[.bool true] := setCell_eq_setRow Z _ 0 _ _ (0, 0) (.bool true) r9
          rw [hset]
          refine ⟨hkR.trans ⟨by rw [setRow_size]; exact Nat.le_refl _, fun k o hk ho _ => by rw [setRow_other _ _ _ _ (by omega)]; exact ho⟩, ⟨below_row hbR (by omega) _, ?_, heap_row r9⟩, rfl, HFIND.out⟩
          rw [setRow_other _ _ _ _ (by omega), r8]
          simp
      · have p2 : (x.sa == addr) = false := beq_eq_false_iff_ne.2 hsa
        have hf : hitN addr port m x = false := by unfold hitN; rw [decide_eq_false hsa, Bool.and_false, Bool.false_and]
        have HF := Go.Lib.hid hf
        clear hf
        clear hp hsa
        gi_wp2_with fail
        refine Go.Mix.wpIn_region_mixT (Es := [16, 18]) 19 (Below W.heap.size W) mixed (by kernel_rfl) (Below.refl _ _).drew ?_
        iterate 16 (refine Go.Mix.mixT_step rfl (fun K hK => ?_); have HKK := Go.Lib.hid hK; clear hK; go_simp; refine HKK.out _ _ ?_; clear HKK K)
        refine Go.Mix.mixT_eff rfl (fun K hK => ?_)
        have HKK := Go.Lib.hid hK
        clear hK
        go_simp
        refine HKK.out _ _ (Below.refl _ _).drew ?_
        clear HKK K
        iterate 1 (refine Go.Mix.mixT_step rfl (fun K hK => ?_); have HKK := Go.Lib.hid hK; clear hK; go_simp; refine HKK.out _ _ ?_; clear HKK K)
        refine Go.Mix.mixT_eff rfl (fun K hK => ?_)
        have HKK := Go.Lib.hid hK
        clear hK
        go_simp
        refine HKK.out _ _ (Below.refl _ _).drew ?_
        clear HKK K
        refine Go.Mix.mixT_last rfl (fun K hK => ?_)
        have HKK := Go.Lib.hid hK
        clear hK
        go_simp
        refine HKK.out _ _ ?_
        clear HKK K
        gi_wp2_with fail
        exact HNO.out _ (Below.refl _ _).drew HF.out
    · have p1 : (x.port == port) = false := beq_eq_false_iff_ne.2 hp
      have hf : hitN addr port m x = false := by unfold hitN; rw [decide_eq_false hp, Bool.false_and, Bool.false_and]
      have HF := Go.Lib.hid hf
      clear hf
      clear hp
      gi_wp2_with fail
      refine Go.Mix.wpIn_region_mixT (Es := [16, 18]) 19 (Below W.heap.size W) mixed (by kernel_rfl) (Below.refl _ _).drew ?_
      iterate 16 (refine Go.Mix.mixT_step rfl (fun K hK => ?_); have HKK := Go.Lib.hid hK; clear hK; go_simp; refine HKK.out _ _ ?_; clear HKK K)
      refine Go.Mix.mixT_eff rfl (fun K hK => ?_)
      have HKK := Go.Lib.hid hK
      clear hK
      go_simp
      refine HKK.out _ _ (Below.refl _ _).drew ?_
      clear HKK K
      iterate 1 (refine Go.Mix.mixT_step rfl (fun K hK => ?_); have HKK := Go.Lib.hid hK; clear hK; go_simp; refine HKK.out _ _ ?_; clear HKK K)
      refine Go.Mix.mixT_eff rfl (fun K hK => ?_)
      have HKK := Go.Lib.hid hK
      clear hK
      go_simp
      refine HKK.out _ _ (Below.refl _ _).drew ?_
      clear HKK K
      refine Go.Mix.mixT_last rfl (fun K hK => ?_)
      have HKK := Go.Lib.hid hK
      clear hK
      go_simp
      refine HKK.out _ _ ?_
      clear HKK K
      gi_wp2_with fail
      exact HNO.out _ (Below.refl _ _).drew HF.out
  case done =>
    rintro D ys W hD rfl ⟨hb, hpre⟩ hK
    have hr : Hid (matchN addr port m ys = (s0, false)) := Go.Lib.hid (matchN_none (List.find?_eq_none.2 fun s hs => by simp [hpre s hs]))
    have hzz := HZ2.out
    have h8 := (hb.block _ (by omega)).trans K8.out
    have h9 := (hb.block _ (by omega)).trans K9.out
    obtain ⟨b0, b1, b2, b3, b4, b5, b6, b7, b8⟩ := SnBlk.of_heap h8
    have hfr : ∀ i, W.frozen? ⟨w.heap.size + 1 + 1 + 1, i, none⟩ = false := frozen_row h8
    have hfr9 : ∀ i, W.frozen? ⟨w.heap.size + 1 + 1 + 1 + 1, i, none⟩ = false := frozen_row h9
    have b9 : W.cell? ⟨w.heap.size + 1 + 1 + 1 + 1, 0, none⟩ = some (.bool false) := by simp [World.cell?, h9]
    have HB := Go.Lib.hid hb
    have HDD := Go.Lib.hid hD
    have HK := Go.Lib.hid hK
    have H8 := Go.Lib.hid h8
    have H9 := Go.Lib.hid h9
    have HZZ := Go.Lib.hid hzz
    clear hb hD hK h8 h9 hzz
    gi_wp2_with fail
    have h8 := H8.out
    have h9 := H9.out
    have hWW : (W.setCells (w.heap.size + 1 + 1 + 1) 0 (snC s0)).setCell ⟨w.heap.size + 1 + 1 + 1 + 1, 0, none⟩ (.bool false) = W := by
      rw [box_set h8, setRow_self W _ _ _ _ h8, setCell_eq_setRow W _ 0 _ _ (0, 0) _ h9]
      exact setRow_self W _ _ _ _ h9
    change bodyPostM _ _ _ _ _ _ _ ((W.setCells (w.heap.size + 1 + 1 + 1) 0 (snC s0)).setCell ⟨w.heap.size + 1 + 1 + 1 + 1, 0, none⟩ (.bool false))
    rw [hWW]
    have hD' := HDD.out
    have hzz := HZ2.out
    refine ⟨by simp, .inl ⟨_, _, rfl, run_takeDeferred HK.out, ?_⟩⟩
    have q8 := (World.putObj_heap_other (w := W) (r := D) (o := .deferred none) (k := w.heap.size + 1 + 1 + 1) (by omega)).trans h8
    have q9 := (World.putObj_heap_other (w := W) (r := D) (o := .deferred none) (k := w.heap.size + 1 + 1 + 1 + 1) (by omega)).trans h9
    refine ⟨_, results_sn_box rfl _ _ _ _ _ _ rfl rfl q8 q9, ?_⟩
    exact ⟨by rw [hr.out], (HB2.out.trans (HB.out.mono (by omega))).trans (belowK_b (w := w) (Nat.le_refl _) W D _ _ (by omega) HK.out rfl rfl)⟩
  case stop =>
    rintro D c pre W hD hpre ⟨⟨hb, h8, h9⟩, rfl, hf⟩ hK
    have hr : Hid (matchN addr port m l = (pre.getLastD s0, true)) := Go.Lib.hid (matchN_some (find_prefix hpre hf))
    have HB := Go.Lib.hid hb
    have HDD := Go.Lib.hid hD
    have HK := Go.Lib.hid hK
    have H8 := Go.Lib.hid h8
    have H9 := Go.Lib.hid h9
    clear hb hD hK h8 h9
    gi_wp2_with fail
    refine ⟨by simp, .inl ⟨_, _, rfl, run_takeDeferred HK.out, ?_⟩⟩
    have hD' := HDD.out
    rw [HZ2.out] at hD'
    have q8 := (World.putObj_heap_other (w := W) (r := D) (o := .deferred none) (k := w.heap.size + 1 + 1 + 1) (by omega)).trans H8.out
    have q9 := (World.putObj_heap_other (w := W) (r := D) (o := .deferred none) (k := w.heap.size + 1 + 1 + 1 + 1) (by omega)).trans H9.out
    refine ⟨_, results_sn_box rfl _ _ _ _ _ _ rfl rfl q8 q9, ?_⟩
    exact ⟨by rw [hr.out], HB.out.trans (belowK_b (w := w) (Nat.le_refl _) W D _ _ (by omega) HK.out rfl rfl)⟩
end Go.Proofs.Ytblbphnmflbepaa

