/-
  No cell of these rows narrows 'for every input' (looked for: loops, veiled, ifaces, maps, wideKeys, modest, calm, conditions, laid).
  DERIVED. THE GIVEN ROWS OF THIS SEAT. 5 by the template 'for every input the law returns true; each argument reads behind the call as it read before'; 0 by the template 'total and deterministic' (their statements: YtcamopppeanipaaTotals.lean).
  GIVEN WITH THE SEED: the statements are not yours to turn. If you find one false, say at which input.
  Laid BY PROGRAM, IN A SANDBOX (cutbox-rows.mjs): the forced cells as the released guide's own fill.sh prints them over the translation 965392fdb7dd158b… (all of the seat's roots in one cut). By AI agents, Wed Nov 11 2026. No macro, syntax, notation, axiom, sorry.
-/
import Derived.Test.YtcamopppeanipaaChecked
import GoSem.Claim
import GoSem.ClaimJoined
import GoSem.ClaimMapViews
import Derived.JoinedTies
import Derived.KernelRfl
namespace Go.Proofs.Ytcamopppeanipaa
/- THE CELL 'sum', in the pinned program and in every row, IS THE sha256 OF THE DUMP (.gsa) THAT YtcamopppeanipaaProg.lean LOADS. Nothing in Lean hashes anything: it is a label: what it is worth is what the hold of that sum in a sandbox is worth. -/
noncomputable def Try.pinned : Pinned := { name := "ytcamopppeanipaa", sum := "965392fdb7dd158b8247ca1ae615a38ffce4fc6963ae71449dc5bf4c1047ac4a", checked := Try.checked }
namespace Rows
def none {H : Type} : Left H := { results := [], args := [] }

/-- 'freshetlaw5.MatchTells': WHATEVER THE INPUT: true; the input reads as it did. -/
def matchTellsSpec : ChangeSpec := { name := "matchTells", fn := fun _ => fun
  | [d1, d2, d3, d4, d5, d6] => { results := [.lit (.bool true)], args := [d1, d2, d3, d4, d5, d6] }
  | _ => none }
def matchTellsRow : OpenClaim := { program := "ytcamopppeanipaa", sum := "965392fdb7dd158b8247ca1ae615a38ffce4fc6963ae71449dc5bf4c1047ac4a", func := "freshet/freshetlaw5.MatchTells", spec := "matchTells", unfollowed := true, recurses := true, apart := false }
def MatchTellsSaid : Prop := matchTellsRow.holds Try.pinned (OpenSpec.ofChange matchTellsSpec)

/-- ITS FALSE NEIGHBOUR: 'it returns false'. Refute it at one input. -/
def matchTellsWrong : ChangeSpec := { name := "matchTells", fn := fun _ => fun
  | [d1, d2, d3, d4, d5, d6] => { results := [.lit (.bool false)], args := [d1, d2, d3, d4, d5, d6] }
  | _ => none }
def MatchTellsWrongFalsely : Prop := matchTellsRow.holds Try.pinned (OpenSpec.ofChange matchTellsWrong)

/-- 'freshetlaw5.MatchAnswers': WHATEVER THE INPUT: true; the input reads as it did. -/
def matchAnswersSpec : ChangeSpec := { name := "matchAnswers", fn := fun _ => fun
  | [d1, d2, d3, d4, d5] => { results := [.lit (.bool true)], args := [d1, d2, d3, d4, d5] }
  | _ => none }
def matchAnswersRow : OpenClaim := { program := "ytcamopppeanipaa", sum := "965392fdb7dd158b8247ca1ae615a38ffce4fc6963ae71449dc5bf4c1047ac4a", func := "freshet/freshetlaw5.MatchAnswers", spec := "matchAnswers", unfollowed := true, recurses := true, apart := false }
def MatchAnswersSaid : Prop := matchAnswersRow.holds Try.pinned (OpenSpec.ofChange matchAnswersSpec)

/-- ITS FALSE NEIGHBOUR: 'it returns false'. Refute it at one input. -/
def matchAnswersWrong : ChangeSpec := { name := "matchAnswers", fn := fun _ => fun
  | [d1, d2, d3, d4, d5] => { results := [.lit (.bool false)], args := [d1, d2, d3, d4, d5] }
  | _ => none }
def MatchAnswersWrongFalsely : Prop := matchAnswersRow.holds Try.pinned (OpenSpec.ofChange matchAnswersWrong)

/-- 'freshetlaw5.MatchSets': WHATEVER THE INPUT: true; the input reads as it did. -/
def matchSetsSpec : ChangeSpec := { name := "matchSets", fn := fun _ => fun
  | [d1, d2] => { results := [.lit (.bool true)], args := [d1, d2] }
  | _ => none }
def matchSetsRow : OpenClaim := { program := "ytcamopppeanipaa", sum := "965392fdb7dd158b8247ca1ae615a38ffce4fc6963ae71449dc5bf4c1047ac4a", func := "freshet/freshetlaw5.MatchSets", spec := "matchSets", unfollowed := true, recurses := true, apart := false }
def MatchSetsSaid : Prop := matchSetsRow.holds Try.pinned (OpenSpec.ofChange matchSetsSpec)

/-- ITS FALSE NEIGHBOUR: 'it returns false'. Refute it at one input. -/
def matchSetsWrong : ChangeSpec := { name := "matchSets", fn := fun _ => fun
  | [d1, d2] => { results := [.lit (.bool false)], args := [d1, d2] }
  | _ => none }
def MatchSetsWrongFalsely : Prop := matchSetsRow.holds Try.pinned (OpenSpec.ofChange matchSetsWrong)

/-- 'freshetlaw5.MatchReplies': WHATEVER THE INPUT: true; the input reads as it did. -/
def matchRepliesSpec : ChangeSpec := { name := "matchReplies", fn := fun _ => fun
  | [d1, d2, d3] => { results := [.lit (.bool true)], args := [d1, d2, d3] }
  | _ => none }
def matchRepliesRow : OpenClaim := { program := "ytcamopppeanipaa", sum := "965392fdb7dd158b8247ca1ae615a38ffce4fc6963ae71449dc5bf4c1047ac4a", func := "freshet/freshetlaw5.MatchReplies", spec := "matchReplies", unfollowed := true, recurses := true, apart := false }
def MatchRepliesSaid : Prop := matchRepliesRow.holds Try.pinned (OpenSpec.ofChange matchRepliesSpec)

/-- ITS FALSE NEIGHBOUR: 'it returns false'. Refute it at one input. -/
def matchRepliesWrong : ChangeSpec := { name := "matchReplies", fn := fun _ => fun
  | [d1, d2, d3] => { results := [.lit (.bool false)], args := [d1, d2, d3] }
  | _ => none }
def MatchRepliesWrongFalsely : Prop := matchRepliesRow.holds Try.pinned (OpenSpec.ofChange matchRepliesWrong)

/-- 'freshetlaw5.MatchOrder': WHATEVER THE INPUT: true; the input reads as it did. -/
def matchOrderSpec : ChangeSpec := { name := "matchOrder", fn := fun _ => fun
  | [d1, d2] => { results := [.lit (.bool true)], args := [d1, d2] }
  | _ => none }
def matchOrderRow : OpenClaim := { program := "ytcamopppeanipaa", sum := "965392fdb7dd158b8247ca1ae615a38ffce4fc6963ae71449dc5bf4c1047ac4a", func := "freshet/freshetlaw5.MatchOrder", spec := "matchOrder", unfollowed := true, recurses := true, apart := false }
def MatchOrderSaid : Prop := matchOrderRow.holds Try.pinned (OpenSpec.ofChange matchOrderSpec)

/-- ITS FALSE NEIGHBOUR: 'it returns false'. Refute it at one input. -/
def matchOrderWrong : ChangeSpec := { name := "matchOrder", fn := fun _ => fun
  | [d1, d2] => { results := [.lit (.bool false)], args := [d1, d2] }
  | _ => none }
def MatchOrderWrongFalsely : Prop := matchOrderRow.holds Try.pinned (OpenSpec.ofChange matchOrderWrong)

/- THE SECOND FORM. 'bulk': how many values and letters a reading holds, each counted each time it is reached (what is shared counts as often as it is met; a slice's spare places count too). A statement '..UptoSaid' is the law's where the arguments, and the package variables that the reading takes, are together of bulk at most 1048576: NARROWER than '..Said'. Prove '..Said' where nothing that the law and all that it calls make is longer than what came in: it says more and counts as full. Else prove '..UptoSaid'. A law counts once. -/
mutual
def uptoBulk {H : Type} : DataW H → Nat
  | .lit (.string bytes) => bytes.length + 1
  | .lit _ => 1
  | .nil => 1
  | .ptr d => uptoBulk d + 1
  | .slice elems spare => uptoBulkAll elems + uptoBulkAll spare + 1
  | .agg parts => uptoBulkAll parts + 1
  | .iface _ d => uptoBulk d + 1
  | .map entries => uptoBulkEntries entries + 1
  | .held _ => 1
def uptoBulkAll {H : Type} : List (DataW H) → Nat
  | [] => 0
  | d :: r => uptoBulk d + uptoBulkAll r
def uptoBulkEntries {H : Type} : List (Lit × DataW H) → Nat
  | [] => 0
  | x :: r => uptoBulkEntry x + uptoBulkEntries r
def uptoBulkEntry {H : Type} : Lit × DataW H → Nat
  | (.string bytes, d) => bytes.length + uptoBulk d + 1
  | (_, d) => uptoBulk d + 1
 end
def uptoSmall : (H : Type) → List (DataW H) → Bool := fun _ ds => decide (uptoBulkAll ds ≤ 1048576)
def OpenSpec.upto (s : _root_.Go.ChangeSpec) : _root_.Go.OpenSpec := { _root_.Go.OpenSpec.ofChange s with cond := some uptoSmall }

/-- 'freshetlaw5.MatchTells', WHERE WHAT IT READS IS OF BULK AT MOST 1048576: true; the input reads as it did. -/
def matchTellsUptoRow : OpenClaim := { program := "ytcamopppeanipaa", sum := "965392fdb7dd158b8247ca1ae615a38ffce4fc6963ae71449dc5bf4c1047ac4a", func := "freshet/freshetlaw5.MatchTells", spec := "matchTells", unfollowed := true, recurses := true, apart := false, narrowed := true }
def MatchTellsUptoSaid : Prop := matchTellsUptoRow.holds Try.pinned (OpenSpec.upto matchTellsSpec)

/-- 'freshetlaw5.MatchAnswers', WHERE WHAT IT READS IS OF BULK AT MOST 1048576: true; the input reads as it did. -/
def matchAnswersUptoRow : OpenClaim := { program := "ytcamopppeanipaa", sum := "965392fdb7dd158b8247ca1ae615a38ffce4fc6963ae71449dc5bf4c1047ac4a", func := "freshet/freshetlaw5.MatchAnswers", spec := "matchAnswers", unfollowed := true, recurses := true, apart := false, narrowed := true }
def MatchAnswersUptoSaid : Prop := matchAnswersUptoRow.holds Try.pinned (OpenSpec.upto matchAnswersSpec)

/-- 'freshetlaw5.MatchSets', WHERE WHAT IT READS IS OF BULK AT MOST 1048576: true; the input reads as it did. -/
def matchSetsUptoRow : OpenClaim := { program := "ytcamopppeanipaa", sum := "965392fdb7dd158b8247ca1ae615a38ffce4fc6963ae71449dc5bf4c1047ac4a", func := "freshet/freshetlaw5.MatchSets", spec := "matchSets", unfollowed := true, recurses := true, apart := false, narrowed := true }
def MatchSetsUptoSaid : Prop := matchSetsUptoRow.holds Try.pinned (OpenSpec.upto matchSetsSpec)

/-- 'freshetlaw5.MatchReplies', WHERE WHAT IT READS IS OF BULK AT MOST 1048576: true; the input reads as it did. -/
def matchRepliesUptoRow : OpenClaim := { program := "ytcamopppeanipaa", sum := "965392fdb7dd158b8247ca1ae615a38ffce4fc6963ae71449dc5bf4c1047ac4a", func := "freshet/freshetlaw5.MatchReplies", spec := "matchReplies", unfollowed := true, recurses := true, apart := false, narrowed := true }
def MatchRepliesUptoSaid : Prop := matchRepliesUptoRow.holds Try.pinned (OpenSpec.upto matchRepliesSpec)

/-- 'freshetlaw5.MatchOrder', WHERE WHAT IT READS IS OF BULK AT MOST 1048576: true; the input reads as it did. -/
def matchOrderUptoRow : OpenClaim := { program := "ytcamopppeanipaa", sum := "965392fdb7dd158b8247ca1ae615a38ffce4fc6963ae71449dc5bf4c1047ac4a", func := "freshet/freshetlaw5.MatchOrder", spec := "matchOrder", unfollowed := true, recurses := true, apart := false, narrowed := true }
def MatchOrderUptoSaid : Prop := matchOrderUptoRow.holds Try.pinned (OpenSpec.upto matchOrderSpec)

end Rows
end Go.Proofs.Ytcamopppeanipaa
