/-
  No cell of these rows narrows 'for every input' (looked for: loops, veiled, ifaces, maps, wideKeys, modest, calm, conditions, laid).
  DERIVED. THE GIVEN ROWS OF THIS SEAT. 8 by the template 'for every input the law returns true; each argument reads behind the call as it read before'; 0 by the template 'total and deterministic' (their statements: YtfmhmhekildfbaaTotals.lean).
  GIVEN WITH THE SEED: the statements are not yours to turn. If you find one false, say at which input.
  Laid BY PROGRAM, IN A SANDBOX (cutbox-rows.mjs): the forced cells as the released guide's own fill.sh prints them over the translation 4bb0f1643d51348b… (all of the seat's roots in one cut). By AI agents, Wed Nov 11 2026. No macro, syntax, notation, axiom, sorry.
-/
import Derived.Test.YtfmhmhekildfbaaChecked
import GoSem.Claim
import GoSem.ClaimJoined
import GoSem.ClaimMapViews
import Derived.JoinedTies
import Derived.KernelRfl
namespace Go.Proofs.Ytfmhmhekildfbaa
/- THE CELL 'sum', in the pinned program and in every row, IS THE sha256 OF THE DUMP (.gsa) THAT YtfmhmhekildfbaaProg.lean LOADS. Nothing in Lean hashes anything: it is a label: what it is worth is what the hold of that sum in a sandbox is worth. -/
noncomputable def Try.pinned : Pinned := { name := "ytfmhmhekildfbaa", sum := "4bb0f1643d51348b7a365e4b6a47efb6c00833d346b5a381b4a0110baab4d983", checked := Try.checked }
namespace Rows
def none {H : Type} : Left H := { results := [], args := [] }

/-- 'freshetlaw1.NameTells': WHATEVER THE INPUT: true; the input reads as it did. -/
def nameTellsSpec : ChangeSpec := { name := "nameTells", fn := fun _ => fun
  | [d1, d2] => { results := [.lit (.bool true)], args := [d1, d2] }
  | _ => none }
def nameTellsRow : OpenClaim := { program := "ytfmhmhekildfbaa", sum := "4bb0f1643d51348b7a365e4b6a47efb6c00833d346b5a381b4a0110baab4d983", func := "freshet/freshetlaw1.NameTells", spec := "nameTells", inPlace := ["internal/abi.NoEscape"], unfollowed := true, recurses := true, apart := false }
def NameTellsSaid : Prop := nameTellsRow.holds Try.pinned (OpenSpec.ofChange nameTellsSpec)

/-- ITS FALSE NEIGHBOUR: 'it returns false'. Refute it at one input. -/
def nameTellsWrong : ChangeSpec := { name := "nameTells", fn := fun _ => fun
  | [d1, d2] => { results := [.lit (.bool false)], args := [d1, d2] }
  | _ => none }
def NameTellsWrongFalsely : Prop := nameTellsRow.holds Try.pinned (OpenSpec.ofChange nameTellsWrong)

/-- 'freshetlaw1.NamePairs': WHATEVER THE INPUT: true; the input reads as it did. -/
def namePairsSpec : ChangeSpec := { name := "namePairs", fn := fun _ => fun
  | [d1, d2, d3] => { results := [.lit (.bool true)], args := [d1, d2, d3] }
  | _ => none }
def namePairsRow : OpenClaim := { program := "ytfmhmhekildfbaa", sum := "4bb0f1643d51348b7a365e4b6a47efb6c00833d346b5a381b4a0110baab4d983", func := "freshet/freshetlaw1.NamePairs", spec := "namePairs", inPlace := ["internal/abi.NoEscape"], unfollowed := true, recurses := true, apart := false }
def NamePairsSaid : Prop := namePairsRow.holds Try.pinned (OpenSpec.ofChange namePairsSpec)

/-- ITS FALSE NEIGHBOUR: 'it returns false'. Refute it at one input. -/
def namePairsWrong : ChangeSpec := { name := "namePairs", fn := fun _ => fun
  | [d1, d2, d3] => { results := [.lit (.bool false)], args := [d1, d2, d3] }
  | _ => none }
def NamePairsWrongFalsely : Prop := namePairsRow.holds Try.pinned (OpenSpec.ofChange namePairsWrong)

/-- 'freshetlaw1.NameOrder': WHATEVER THE INPUT: true; the input reads as it did. -/
def nameOrderSpec : ChangeSpec := { name := "nameOrder", fn := fun _ => fun
  | [d1, d2, d3] => { results := [.lit (.bool true)], args := [d1, d2, d3] }
  | _ => none }
def nameOrderRow : OpenClaim := { program := "ytfmhmhekildfbaa", sum := "4bb0f1643d51348b7a365e4b6a47efb6c00833d346b5a381b4a0110baab4d983", func := "freshet/freshetlaw1.NameOrder", spec := "nameOrder", inPlace := ["internal/abi.NoEscape"], unfollowed := true, recurses := true, apart := false }
def NameOrderSaid : Prop := nameOrderRow.holds Try.pinned (OpenSpec.ofChange nameOrderSpec)

/-- ITS FALSE NEIGHBOUR: 'it returns false'. Refute it at one input. -/
def nameOrderWrong : ChangeSpec := { name := "nameOrder", fn := fun _ => fun
  | [d1, d2, d3] => { results := [.lit (.bool false)], args := [d1, d2, d3] }
  | _ => none }
def NameOrderWrongFalsely : Prop := nameOrderRow.holds Try.pinned (OpenSpec.ofChange nameOrderWrong)

/-- 'freshetlaw1.NameBack': WHATEVER THE INPUT: true; the input reads as it did. -/
def nameBackSpec : ChangeSpec := { name := "nameBack", fn := fun _ => fun
  | [d1, d2] => { results := [.lit (.bool true)], args := [d1, d2] }
  | _ => none }
def nameBackRow : OpenClaim := { program := "ytfmhmhekildfbaa", sum := "4bb0f1643d51348b7a365e4b6a47efb6c00833d346b5a381b4a0110baab4d983", func := "freshet/freshetlaw1.NameBack", spec := "nameBack", inPlace := ["internal/abi.NoEscape"], unfollowed := true, recurses := true, apart := false }
def NameBackSaid : Prop := nameBackRow.holds Try.pinned (OpenSpec.ofChange nameBackSpec)

/-- ITS FALSE NEIGHBOUR: 'it returns false'. Refute it at one input. -/
def nameBackWrong : ChangeSpec := { name := "nameBack", fn := fun _ => fun
  | [d1, d2] => { results := [.lit (.bool false)], args := [d1, d2] }
  | _ => none }
def NameBackWrongFalsely : Prop := nameBackRow.holds Try.pinned (OpenSpec.ofChange nameBackWrong)

/-- 'freshetlaw1.NameFolds': WHATEVER THE INPUT: true; the input reads as it did. -/
def nameFoldsSpec : ChangeSpec := { name := "nameFolds", fn := fun _ => fun
  | [d1, d2] => { results := [.lit (.bool true)], args := [d1, d2] }
  | _ => none }
def nameFoldsRow : OpenClaim := { program := "ytfmhmhekildfbaa", sum := "4bb0f1643d51348b7a365e4b6a47efb6c00833d346b5a381b4a0110baab4d983", func := "freshet/freshetlaw1.NameFolds", spec := "nameFolds", inPlace := ["internal/abi.NoEscape"], unfollowed := true, recurses := true, apart := false }
def NameFoldsSaid : Prop := nameFoldsRow.holds Try.pinned (OpenSpec.ofChange nameFoldsSpec)

/-- ITS FALSE NEIGHBOUR: 'it returns false'. Refute it at one input. -/
def nameFoldsWrong : ChangeSpec := { name := "nameFolds", fn := fun _ => fun
  | [d1, d2] => { results := [.lit (.bool false)], args := [d1, d2] }
  | _ => none }
def NameFoldsWrongFalsely : Prop := nameFoldsRow.holds Try.pinned (OpenSpec.ofChange nameFoldsWrong)

/-- 'freshetlaw1.NameUnder': WHATEVER THE INPUT: true; the input reads as it did. -/
def nameUnderSpec : ChangeSpec := { name := "nameUnder", fn := fun _ => fun
  | [d1, d2] => { results := [.lit (.bool true)], args := [d1, d2] }
  | _ => none }
def nameUnderRow : OpenClaim := { program := "ytfmhmhekildfbaa", sum := "4bb0f1643d51348b7a365e4b6a47efb6c00833d346b5a381b4a0110baab4d983", func := "freshet/freshetlaw1.NameUnder", spec := "nameUnder", inPlace := ["internal/abi.NoEscape"], unfollowed := true, recurses := true, apart := false }
def NameUnderSaid : Prop := nameUnderRow.holds Try.pinned (OpenSpec.ofChange nameUnderSpec)

/-- ITS FALSE NEIGHBOUR: 'it returns false'. Refute it at one input. -/
def nameUnderWrong : ChangeSpec := { name := "nameUnder", fn := fun _ => fun
  | [d1, d2] => { results := [.lit (.bool false)], args := [d1, d2] }
  | _ => none }
def NameUnderWrongFalsely : Prop := nameUnderRow.holds Try.pinned (OpenSpec.ofChange nameUnderWrong)

/-- 'freshetlaw1.NameLimits': WHATEVER THE INPUT: true; the input reads as it did. -/
def nameLimitsSpec : ChangeSpec := { name := "nameLimits", fn := fun _ => fun
  | [d] => { results := [.lit (.bool true)], args := [d] }
  | _ => none }
def nameLimitsRow : OpenClaim := { program := "ytfmhmhekildfbaa", sum := "4bb0f1643d51348b7a365e4b6a47efb6c00833d346b5a381b4a0110baab4d983", func := "freshet/freshetlaw1.NameLimits", spec := "nameLimits", inPlace := ["internal/abi.NoEscape"], unfollowed := true, recurses := true, apart := false }
def NameLimitsSaid : Prop := nameLimitsRow.holds Try.pinned (OpenSpec.ofChange nameLimitsSpec)

/-- ITS FALSE NEIGHBOUR: 'it returns false'. Refute it at one input. -/
def nameLimitsWrong : ChangeSpec := { name := "nameLimits", fn := fun _ => fun
  | [d] => { results := [.lit (.bool false)], args := [d] }
  | _ => none }
def NameLimitsWrongFalsely : Prop := nameLimitsRow.holds Try.pinned (OpenSpec.ofChange nameLimitsWrong)

/-- 'freshetlaw1.NameTexts': WHATEVER THE INPUT: true; the input reads as it did. -/
def nameTextsSpec : ChangeSpec := { name := "nameTexts", fn := fun _ => fun
  | [d1, d2] => { results := [.lit (.bool true)], args := [d1, d2] }
  | _ => none }
def nameTextsRow : OpenClaim := { program := "ytfmhmhekildfbaa", sum := "4bb0f1643d51348b7a365e4b6a47efb6c00833d346b5a381b4a0110baab4d983", func := "freshet/freshetlaw1.NameTexts", spec := "nameTexts", inPlace := ["internal/abi.NoEscape"], unfollowed := true, recurses := true, apart := false }
def NameTextsSaid : Prop := nameTextsRow.holds Try.pinned (OpenSpec.ofChange nameTextsSpec)

/-- ITS FALSE NEIGHBOUR: 'it returns false'. Refute it at one input. -/
def nameTextsWrong : ChangeSpec := { name := "nameTexts", fn := fun _ => fun
  | [d1, d2] => { results := [.lit (.bool false)], args := [d1, d2] }
  | _ => none }
def NameTextsWrongFalsely : Prop := nameTextsRow.holds Try.pinned (OpenSpec.ofChange nameTextsWrong)

/- THE SECOND FORM. 'bulk': how many values and letters a reading holds, each counted each time it is reached (what is shared counts as often as it is met; a slice's spare places count too). A statement '..UptoSaid' is the law's where the arguments, and the package variables that the reading takes, are together of bulk at most 1048576: NARROWER than '..Said'. Prove '..Said' where nothing that the law and all that it calls make is longer than what came in: it says more and counts as full. Else prove '..UptoSaid'. A law counts once. -/
mutual
def uptoBulk {H : Type} : DataW H → Nat
  | .lit (.string bytes) => bytes.length + 1
  | .lit _ => 1
  | .nil => 1
  | .ptr d => uptoBulk d + 1
  | .slice elems spare => uptoBulkAll elems + uptoBulkAll spare + 1
  | .agg parts => uptoBulkAll parts + 1
  | .iface _ d => uptoBulk d + 1
  | .map entries => uptoBulkEntries entries + 1
  | .held _ => 1
def uptoBulkAll {H : Type} : List (DataW H) → Nat
  | [] => 0
  | d :: r => uptoBulk d + uptoBulkAll r
def uptoBulkEntries {H : Type} : List (Lit × DataW H) → Nat
  | [] => 0
  | x :: r => uptoBulkEntry x + uptoBulkEntries r
def uptoBulkEntry {H : Type} : Lit × DataW H → Nat
  | (.string bytes, d) => bytes.length + uptoBulk d + 1
  | (_, d) => uptoBulk d + 1
 end
def uptoSmall : (H : Type) → List (DataW H) → Bool := fun _ ds => decide (uptoBulkAll ds ≤ 1048576)
def OpenSpec.upto (s : _root_.Go.ChangeSpec) : _root_.Go.OpenSpec := { _root_.Go.OpenSpec.ofChange s with cond := some uptoSmall }

/-- 'freshetlaw1.NameTells', WHERE WHAT IT READS IS OF BULK AT MOST 1048576: true; the input reads as it did. -/
def nameTellsUptoRow : OpenClaim := { program := "ytfmhmhekildfbaa", sum := "4bb0f1643d51348b7a365e4b6a47efb6c00833d346b5a381b4a0110baab4d983", func := "freshet/freshetlaw1.NameTells", spec := "nameTells", inPlace := ["internal/abi.NoEscape"], unfollowed := true, recurses := true, apart := false, narrowed := true }
def NameTellsUptoSaid : Prop := nameTellsUptoRow.holds Try.pinned (OpenSpec.upto nameTellsSpec)

/-- 'freshetlaw1.NamePairs', WHERE WHAT IT READS IS OF BULK AT MOST 1048576: true; the input reads as it did. -/
def namePairsUptoRow : OpenClaim := { program := "ytfmhmhekildfbaa", sum := "4bb0f1643d51348b7a365e4b6a47efb6c00833d346b5a381b4a0110baab4d983", func := "freshet/freshetlaw1.NamePairs", spec := "namePairs", inPlace := ["internal/abi.NoEscape"], unfollowed := true, recurses := true, apart := false, narrowed := true }
def NamePairsUptoSaid : Prop := namePairsUptoRow.holds Try.pinned (OpenSpec.upto namePairsSpec)

/-- 'freshetlaw1.NameOrder', WHERE WHAT IT READS IS OF BULK AT MOST 1048576: true; the input reads as it did. -/
def nameOrderUptoRow : OpenClaim := { program := "ytfmhmhekildfbaa", sum := "4bb0f1643d51348b7a365e4b6a47efb6c00833d346b5a381b4a0110baab4d983", func := "freshet/freshetlaw1.NameOrder", spec := "nameOrder", inPlace := ["internal/abi.NoEscape"], unfollowed := true, recurses := true, apart := false, narrowed := true }
def NameOrderUptoSaid : Prop := nameOrderUptoRow.holds Try.pinned (OpenSpec.upto nameOrderSpec)

/-- 'freshetlaw1.NameBack', WHERE WHAT IT READS IS OF BULK AT MOST 1048576: true; the input reads as it did. -/
def nameBackUptoRow : OpenClaim := { program := "ytfmhmhekildfbaa", sum := "4bb0f1643d51348b7a365e4b6a47efb6c00833d346b5a381b4a0110baab4d983", func := "freshet/freshetlaw1.NameBack", spec := "nameBack", inPlace := ["internal/abi.NoEscape"], unfollowed := true, recurses := true, apart := false, narrowed := true }
def NameBackUptoSaid : Prop := nameBackUptoRow.holds Try.pinned (OpenSpec.upto nameBackSpec)

/-- 'freshetlaw1.NameFolds', WHERE WHAT IT READS IS OF BULK AT MOST 1048576: true; the input reads as it did. -/
def nameFoldsUptoRow : OpenClaim := { program := "ytfmhmhekildfbaa", sum := "4bb0f1643d51348b7a365e4b6a47efb6c00833d346b5a381b4a0110baab4d983", func := "freshet/freshetlaw1.NameFolds", spec := "nameFolds", inPlace := ["internal/abi.NoEscape"], unfollowed := true, recurses := true, apart := false, narrowed := true }
def NameFoldsUptoSaid : Prop := nameFoldsUptoRow.holds Try.pinned (OpenSpec.upto nameFoldsSpec)

/-- 'freshetlaw1.NameUnder', WHERE WHAT IT READS IS OF BULK AT MOST 1048576: true; the input reads as it did. -/
def nameUnderUptoRow : OpenClaim := { program := "ytfmhmhekildfbaa", sum := "4bb0f1643d51348b7a365e4b6a47efb6c00833d346b5a381b4a0110baab4d983", func := "freshet/freshetlaw1.NameUnder", spec := "nameUnder", inPlace := ["internal/abi.NoEscape"], unfollowed := true, recurses := true, apart := false, narrowed := true }
def NameUnderUptoSaid : Prop := nameUnderUptoRow.holds Try.pinned (OpenSpec.upto nameUnderSpec)

/-- 'freshetlaw1.NameLimits', WHERE WHAT IT READS IS OF BULK AT MOST 1048576: true; the input reads as it did. -/
def nameLimitsUptoRow : OpenClaim := { program := "ytfmhmhekildfbaa", sum := "4bb0f1643d51348b7a365e4b6a47efb6c00833d346b5a381b4a0110baab4d983", func := "freshet/freshetlaw1.NameLimits", spec := "nameLimits", inPlace := ["internal/abi.NoEscape"], unfollowed := true, recurses := true, apart := false, narrowed := true }
def NameLimitsUptoSaid : Prop := nameLimitsUptoRow.holds Try.pinned (OpenSpec.upto nameLimitsSpec)

/-- 'freshetlaw1.NameTexts', WHERE WHAT IT READS IS OF BULK AT MOST 1048576: true; the input reads as it did. -/
def nameTextsUptoRow : OpenClaim := { program := "ytfmhmhekildfbaa", sum := "4bb0f1643d51348b7a365e4b6a47efb6c00833d346b5a381b4a0110baab4d983", func := "freshet/freshetlaw1.NameTexts", spec := "nameTexts", inPlace := ["internal/abi.NoEscape"], unfollowed := true, recurses := true, apart := false, narrowed := true }
def NameTextsUptoSaid : Prop := nameTextsUptoRow.holds Try.pinned (OpenSpec.upto nameTextsSpec)

end Rows
end Go.Proofs.Ytfmhmhekildfbaa
