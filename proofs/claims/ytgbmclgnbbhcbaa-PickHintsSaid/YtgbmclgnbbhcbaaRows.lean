/-
  No cell of these rows narrows 'for every input' (looked for: loops, veiled, ifaces, maps, wideKeys, modest, calm, conditions, laid).
  DERIVED. THE GIVEN ROWS OF THIS SEAT. 4 by the template 'for every input the law returns true; each argument reads behind the call as it read before'; 0 by the template 'total and deterministic' (their statements: YtgbmclgnbbhcbaaTotals.lean).
  GIVEN WITH THE SEED: the statements are not yours to turn. If you find one false, say at which input.
  Laid BY PROGRAM, IN A SANDBOX (cutbox-rows.mjs): the forced cells as the released guide's own fill.sh prints them over the translation 8a93f156b358a67a… (all of the seat's roots in one cut). By AI agents, Wed Nov 11 2026. No macro, syntax, notation, axiom, sorry.
-/
import Derived.Test.YtgbmclgnbbhcbaaChecked
import GoSem.Claim
import GoSem.ClaimJoined
import GoSem.ClaimMapViews
import Derived.JoinedTies
import Derived.KernelRfl
namespace Go.Proofs.Ytgbmclgnbbhcbaa
/- THE CELL 'sum', in the pinned program and in every row, IS THE sha256 OF THE DUMP (.gsa) THAT YtgbmclgnbbhcbaaProg.lean LOADS. Nothing in Lean hashes anything: it is a label: what it is worth is what the hold of that sum in a sandbox is worth. -/
noncomputable def Try.pinned : Pinned := { name := "ytgbmclgnbbhcbaa", sum := "8a93f156b358a67a458749a0234291102c7b02d57d24c4a03832da1fd7197dff", checked := Try.checked }
namespace Rows
def none {H : Type} : Left H := { results := [], args := [] }

/-- 'freshetlaw15.PickHints': WHATEVER THE INPUT: true; the input reads as it did. -/
def pickHintsSpec : ChangeSpec := { name := "pickHints", fn := fun _ => fun
  | [d] => { results := [.lit (.bool true)], args := [d] }
  | _ => none }
def pickHintsRow : OpenClaim := { program := "ytgbmclgnbbhcbaa", sum := "8a93f156b358a67a458749a0234291102c7b02d57d24c4a03832da1fd7197dff", func := "freshet/freshetlaw15.PickHints", spec := "pickHints", unfollowed := true, recurses := true, apart := false }
def PickHintsSaid : Prop := pickHintsRow.holds Try.pinned (OpenSpec.ofChange pickHintsSpec)

/-- ITS FALSE NEIGHBOUR: 'it returns false'. Refute it at one input. -/
def pickHintsWrong : ChangeSpec := { name := "pickHints", fn := fun _ => fun
  | [d] => { results := [.lit (.bool false)], args := [d] }
  | _ => none }
def PickHintsWrongFalsely : Prop := pickHintsRow.holds Try.pinned (OpenSpec.ofChange pickHintsWrong)

/-- 'freshetlaw15.PickAll': WHATEVER THE INPUT: true; the input reads as it did. -/
def pickAllSpec : ChangeSpec := { name := "pickAll", fn := fun _ => fun
  | [d1, d2] => { results := [.lit (.bool true)], args := [d1, d2] }
  | _ => none }
def pickAllRow : OpenClaim := { program := "ytgbmclgnbbhcbaa", sum := "8a93f156b358a67a458749a0234291102c7b02d57d24c4a03832da1fd7197dff", func := "freshet/freshetlaw15.PickAll", spec := "pickAll", unfollowed := true, recurses := true, apart := false }
def PickAllSaid : Prop := pickAllRow.holds Try.pinned (OpenSpec.ofChange pickAllSpec)

/-- ITS FALSE NEIGHBOUR: 'it returns false'. Refute it at one input. -/
def pickAllWrong : ChangeSpec := { name := "pickAll", fn := fun _ => fun
  | [d1, d2] => { results := [.lit (.bool false)], args := [d1, d2] }
  | _ => none }
def PickAllWrongFalsely : Prop := pickAllRow.holds Try.pinned (OpenSpec.ofChange pickAllWrong)

/-- 'freshetlaw15.PickOrder': WHATEVER THE INPUT: true; the input reads as it did. -/
def pickOrderSpec : ChangeSpec := { name := "pickOrder", fn := fun _ => fun
  | [d] => { results := [.lit (.bool true)], args := [d] }
  | _ => none }
def pickOrderRow : OpenClaim := { program := "ytgbmclgnbbhcbaa", sum := "8a93f156b358a67a458749a0234291102c7b02d57d24c4a03832da1fd7197dff", func := "freshet/freshetlaw15.PickOrder", spec := "pickOrder", unfollowed := true, recurses := true, apart := false }
def PickOrderSaid : Prop := pickOrderRow.holds Try.pinned (OpenSpec.ofChange pickOrderSpec)

/-- ITS FALSE NEIGHBOUR: 'it returns false'. Refute it at one input. -/
def pickOrderWrong : ChangeSpec := { name := "pickOrder", fn := fun _ => fun
  | [d] => { results := [.lit (.bool false)], args := [d] }
  | _ => none }
def PickOrderWrongFalsely : Prop := pickOrderRow.holds Try.pinned (OpenSpec.ofChange pickOrderWrong)

/-- 'freshetlaw15.PickMissing': WHATEVER THE INPUT: true; the input reads as it did. -/
def pickMissingSpec : ChangeSpec := { name := "pickMissing", fn := fun _ => fun
  | [d1, d2] => { results := [.lit (.bool true)], args := [d1, d2] }
  | _ => none }
def pickMissingRow : OpenClaim := { program := "ytgbmclgnbbhcbaa", sum := "8a93f156b358a67a458749a0234291102c7b02d57d24c4a03832da1fd7197dff", func := "freshet/freshetlaw15.PickMissing", spec := "pickMissing", unfollowed := true, recurses := true, apart := false }
def PickMissingSaid : Prop := pickMissingRow.holds Try.pinned (OpenSpec.ofChange pickMissingSpec)

/-- ITS FALSE NEIGHBOUR: 'it returns false'. Refute it at one input. -/
def pickMissingWrong : ChangeSpec := { name := "pickMissing", fn := fun _ => fun
  | [d1, d2] => { results := [.lit (.bool false)], args := [d1, d2] }
  | _ => none }
def PickMissingWrongFalsely : Prop := pickMissingRow.holds Try.pinned (OpenSpec.ofChange pickMissingWrong)

/- THE SECOND FORM. 'bulk': how many values and letters a reading holds, each counted each time it is reached (what is shared counts as often as it is met; a slice's spare places count too). A statement '..UptoSaid' is the law's where the arguments, and the package variables that the reading takes, are together of bulk at most 1048576: NARROWER than '..Said'. Prove '..Said' where nothing that the law and all that it calls make is longer than what came in: it says more and counts as full. Else prove '..UptoSaid'. A law counts once. -/
mutual
def uptoBulk {H : Type} : DataW H → Nat
  | .lit (.string bytes) => bytes.length + 1
  | .lit _ => 1
  | .nil => 1
  | .ptr d => uptoBulk d + 1
  | .slice elems spare => uptoBulkAll elems + uptoBulkAll spare + 1
  | .agg parts => uptoBulkAll parts + 1
  | .iface _ d => uptoBulk d + 1
  | .map entries => uptoBulkEntries entries + 1
  | .held _ => 1
def uptoBulkAll {H : Type} : List (DataW H) → Nat
  | [] => 0
  | d :: r => uptoBulk d + uptoBulkAll r
def uptoBulkEntries {H : Type} : List (Lit × DataW H) → Nat
  | [] => 0
  | x :: r => uptoBulkEntry x + uptoBulkEntries r
def uptoBulkEntry {H : Type} : Lit × DataW H → Nat
  | (.string bytes, d) => bytes.length + uptoBulk d + 1
  | (_, d) => uptoBulk d + 1
 end
def uptoSmall : (H : Type) → List (DataW H) → Bool := fun _ ds => decide (uptoBulkAll ds ≤ 1048576)
def OpenSpec.upto (s : _root_.Go.ChangeSpec) : _root_.Go.OpenSpec := { _root_.Go.OpenSpec.ofChange s with cond := some uptoSmall }

/-- 'freshetlaw15.PickHints', WHERE WHAT IT READS IS OF BULK AT MOST 1048576: true; the input reads as it did. -/
def pickHintsUptoRow : OpenClaim := { program := "ytgbmclgnbbhcbaa", sum := "8a93f156b358a67a458749a0234291102c7b02d57d24c4a03832da1fd7197dff", func := "freshet/freshetlaw15.PickHints", spec := "pickHints", unfollowed := true, recurses := true, apart := false, narrowed := true }
def PickHintsUptoSaid : Prop := pickHintsUptoRow.holds Try.pinned (OpenSpec.upto pickHintsSpec)

/-- 'freshetlaw15.PickAll', WHERE WHAT IT READS IS OF BULK AT MOST 1048576: true; the input reads as it did. -/
def pickAllUptoRow : OpenClaim := { program := "ytgbmclgnbbhcbaa", sum := "8a93f156b358a67a458749a0234291102c7b02d57d24c4a03832da1fd7197dff", func := "freshet/freshetlaw15.PickAll", spec := "pickAll", unfollowed := true, recurses := true, apart := false, narrowed := true }
def PickAllUptoSaid : Prop := pickAllUptoRow.holds Try.pinned (OpenSpec.upto pickAllSpec)

/-- 'freshetlaw15.PickOrder', WHERE WHAT IT READS IS OF BULK AT MOST 1048576: true; the input reads as it did. -/
def pickOrderUptoRow : OpenClaim := { program := "ytgbmclgnbbhcbaa", sum := "8a93f156b358a67a458749a0234291102c7b02d57d24c4a03832da1fd7197dff", func := "freshet/freshetlaw15.PickOrder", spec := "pickOrder", unfollowed := true, recurses := true, apart := false, narrowed := true }
def PickOrderUptoSaid : Prop := pickOrderUptoRow.holds Try.pinned (OpenSpec.upto pickOrderSpec)

/-- 'freshetlaw15.PickMissing', WHERE WHAT IT READS IS OF BULK AT MOST 1048576: true; the input reads as it did. -/
def pickMissingUptoRow : OpenClaim := { program := "ytgbmclgnbbhcbaa", sum := "8a93f156b358a67a458749a0234291102c7b02d57d24c4a03832da1fd7197dff", func := "freshet/freshetlaw15.PickMissing", spec := "pickMissing", unfollowed := true, recurses := true, apart := false, narrowed := true }
def PickMissingUptoSaid : Prop := pickMissingUptoRow.holds Try.pinned (OpenSpec.upto pickMissingSpec)

end Rows
end Go.Proofs.Ytgbmclgnbbhcbaa
