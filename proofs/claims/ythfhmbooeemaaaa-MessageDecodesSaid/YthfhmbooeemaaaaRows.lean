/-
  No cell of these rows narrows 'for every input' (looked for: loops, veiled, ifaces, maps, wideKeys, modest, calm, conditions, laid).
  DERIVED. THE GIVEN ROWS OF THIS SEAT. 8 by the template 'for every input the law returns true; each argument reads behind the call as it read before'; 0 by the template 'total and deterministic' (their statements: YthfhmbooeemaaaaTotals.lean).
  GIVEN WITH THE SEED: the statements are not yours to turn. If you find one false, say at which input.
  Laid BY PROGRAM, IN A SANDBOX (cutbox-rows.mjs): the forced cells as the released guide's own fill.sh prints them over the translation cc687a7199b01e6e… (all of the seat's roots in one cut). By AI agents, Wed Nov 11 2026. No macro, syntax, notation, axiom, sorry.
-/
import Derived.Test.YthfhmbooeemaaaaChecked
import GoSem.Claim
import GoSem.ClaimJoined
import GoSem.ClaimMapViews
import Derived.JoinedTies
import Derived.KernelRfl
namespace Go.Proofs.Ythfhmbooeemaaaa
/- THE CELL 'sum', in the pinned program and in every row, IS THE sha256 OF THE DUMP (.gsa) THAT YthfhmbooeemaaaaProg.lean LOADS. Nothing in Lean hashes anything: it is a label: what it is worth is what the hold of that sum in a sandbox is worth. -/
noncomputable def Try.pinned : Pinned := { name := "ythfhmbooeemaaaa", sum := "cc687a7199b01e6ec6b22658f1eeeca2b62e7177915d44c07dcea2679cb2cc47", checked := Try.checked }
namespace Rows
def none {H : Type} : Left H := { results := [], args := [] }

/-- 'freshetlaw4.MessageDecodes': WHATEVER THE INPUT: true; the input reads as it did. -/
def messageDecodesSpec : ChangeSpec := { name := "messageDecodes", fn := fun _ => fun
  | [d] => { results := [.lit (.bool true)], args := [d] }
  | _ => none }
def messageDecodesRow : OpenClaim := { program := "ythfhmbooeemaaaa", sum := "cc687a7199b01e6ec6b22658f1eeeca2b62e7177915d44c07dcea2679cb2cc47", func := "freshet/freshetlaw4.MessageDecodes", spec := "messageDecodes", unfollowed := true, recurses := true, apart := false }
def MessageDecodesSaid : Prop := messageDecodesRow.holds Try.pinned (OpenSpec.ofChange messageDecodesSpec)

/-- ITS FALSE NEIGHBOUR: 'it returns false'. Refute it at one input. -/
def messageDecodesWrong : ChangeSpec := { name := "messageDecodes", fn := fun _ => fun
  | [d] => { results := [.lit (.bool false)], args := [d] }
  | _ => none }
def MessageDecodesWrongFalsely : Prop := messageDecodesRow.holds Try.pinned (OpenSpec.ofChange messageDecodesWrong)

/-- 'freshetlaw4.MessageBack': WHATEVER THE INPUT: true; the input reads as it did. -/
def messageBackSpec : ChangeSpec := { name := "messageBack", fn := fun _ => fun
  | [d1, d2, d3, d4] => { results := [.lit (.bool true)], args := [d1, d2, d3, d4] }
  | _ => none }
def messageBackRow : OpenClaim := { program := "ythfhmbooeemaaaa", sum := "cc687a7199b01e6ec6b22658f1eeeca2b62e7177915d44c07dcea2679cb2cc47", func := "freshet/freshetlaw4.MessageBack", spec := "messageBack", unfollowed := true, recurses := true, apart := false }
def MessageBackSaid : Prop := messageBackRow.holds Try.pinned (OpenSpec.ofChange messageBackSpec)

/-- ITS FALSE NEIGHBOUR: 'it returns false'. Refute it at one input. -/
def messageBackWrong : ChangeSpec := { name := "messageBack", fn := fun _ => fun
  | [d1, d2, d3, d4] => { results := [.lit (.bool false)], args := [d1, d2, d3, d4] }
  | _ => none }
def MessageBackWrongFalsely : Prop := messageBackRow.holds Try.pinned (OpenSpec.ofChange messageBackWrong)

/-- 'freshetlaw4.MessageRecords': WHATEVER THE INPUT: true; the input reads as it did. -/
def messageRecordsSpec : ChangeSpec := { name := "messageRecords", fn := fun _ => fun
  | [d1, d2] => { results := [.lit (.bool true)], args := [d1, d2] }
  | _ => none }
def messageRecordsRow : OpenClaim := { program := "ythfhmbooeemaaaa", sum := "cc687a7199b01e6ec6b22658f1eeeca2b62e7177915d44c07dcea2679cb2cc47", func := "freshet/freshetlaw4.MessageRecords", spec := "messageRecords", unfollowed := true, recurses := true, apart := false }
def MessageRecordsSaid : Prop := messageRecordsRow.holds Try.pinned (OpenSpec.ofChange messageRecordsSpec)

/-- ITS FALSE NEIGHBOUR: 'it returns false'. Refute it at one input. -/
def messageRecordsWrong : ChangeSpec := { name := "messageRecords", fn := fun _ => fun
  | [d1, d2] => { results := [.lit (.bool false)], args := [d1, d2] }
  | _ => none }
def MessageRecordsWrongFalsely : Prop := messageRecordsRow.holds Try.pinned (OpenSpec.ofChange messageRecordsWrong)

/-- 'freshetlaw4.MessageHeads': WHATEVER THE INPUT: true; the input reads as it did. -/
def messageHeadsSpec : ChangeSpec := { name := "messageHeads", fn := fun _ => fun
  | [d1, d2] => { results := [.lit (.bool true)], args := [d1, d2] }
  | _ => none }
def messageHeadsRow : OpenClaim := { program := "ythfhmbooeemaaaa", sum := "cc687a7199b01e6ec6b22658f1eeeca2b62e7177915d44c07dcea2679cb2cc47", func := "freshet/freshetlaw4.MessageHeads", spec := "messageHeads", unfollowed := true, recurses := true, apart := false }
def MessageHeadsSaid : Prop := messageHeadsRow.holds Try.pinned (OpenSpec.ofChange messageHeadsSpec)

/-- ITS FALSE NEIGHBOUR: 'it returns false'. Refute it at one input. -/
def messageHeadsWrong : ChangeSpec := { name := "messageHeads", fn := fun _ => fun
  | [d1, d2] => { results := [.lit (.bool false)], args := [d1, d2] }
  | _ => none }
def MessageHeadsWrongFalsely : Prop := messageHeadsRow.holds Try.pinned (OpenSpec.ofChange messageHeadsWrong)

/-- 'freshetlaw4.MessageCounts': WHATEVER THE INPUT: true; the input reads as it did. -/
def messageCountsSpec : ChangeSpec := { name := "messageCounts", fn := fun _ => fun
  | [d1, d2, d3, d4] => { results := [.lit (.bool true)], args := [d1, d2, d3, d4] }
  | _ => none }
def messageCountsRow : OpenClaim := { program := "ythfhmbooeemaaaa", sum := "cc687a7199b01e6ec6b22658f1eeeca2b62e7177915d44c07dcea2679cb2cc47", func := "freshet/freshetlaw4.MessageCounts", spec := "messageCounts", unfollowed := true, recurses := true, apart := false }
def MessageCountsSaid : Prop := messageCountsRow.holds Try.pinned (OpenSpec.ofChange messageCountsSpec)

/-- ITS FALSE NEIGHBOUR: 'it returns false'. Refute it at one input. -/
def messageCountsWrong : ChangeSpec := { name := "messageCounts", fn := fun _ => fun
  | [d1, d2, d3, d4] => { results := [.lit (.bool false)], args := [d1, d2, d3, d4] }
  | _ => none }
def MessageCountsWrongFalsely : Prop := messageCountsRow.holds Try.pinned (OpenSpec.ofChange messageCountsWrong)

/-- 'freshetlaw4.MessageOpts': WHATEVER THE INPUT: true; the input reads as it did. -/
def messageOptsSpec : ChangeSpec := { name := "messageOpts", fn := fun _ => fun
  | [d1, d2] => { results := [.lit (.bool true)], args := [d1, d2] }
  | _ => none }
def messageOptsRow : OpenClaim := { program := "ythfhmbooeemaaaa", sum := "cc687a7199b01e6ec6b22658f1eeeca2b62e7177915d44c07dcea2679cb2cc47", func := "freshet/freshetlaw4.MessageOpts", spec := "messageOpts", unfollowed := true, recurses := true, apart := false }
def MessageOptsSaid : Prop := messageOptsRow.holds Try.pinned (OpenSpec.ofChange messageOptsSpec)

/-- ITS FALSE NEIGHBOUR: 'it returns false'. Refute it at one input. -/
def messageOptsWrong : ChangeSpec := { name := "messageOpts", fn := fun _ => fun
  | [d1, d2] => { results := [.lit (.bool false)], args := [d1, d2] }
  | _ => none }
def MessageOptsWrongFalsely : Prop := messageOptsRow.holds Try.pinned (OpenSpec.ofChange messageOptsWrong)

/-- 'freshetlaw4.MessageNames': WHATEVER THE INPUT: true; the input reads as it did. -/
def messageNamesSpec : ChangeSpec := { name := "messageNames", fn := fun _ => fun
  | [d1, d2] => { results := [.lit (.bool true)], args := [d1, d2] }
  | _ => none }
def messageNamesRow : OpenClaim := { program := "ythfhmbooeemaaaa", sum := "cc687a7199b01e6ec6b22658f1eeeca2b62e7177915d44c07dcea2679cb2cc47", func := "freshet/freshetlaw4.MessageNames", spec := "messageNames", unfollowed := true, recurses := true, apart := false }
def MessageNamesSaid : Prop := messageNamesRow.holds Try.pinned (OpenSpec.ofChange messageNamesSpec)

/-- ITS FALSE NEIGHBOUR: 'it returns false'. Refute it at one input. -/
def messageNamesWrong : ChangeSpec := { name := "messageNames", fn := fun _ => fun
  | [d1, d2] => { results := [.lit (.bool false)], args := [d1, d2] }
  | _ => none }
def MessageNamesWrongFalsely : Prop := messageNamesRow.holds Try.pinned (OpenSpec.ofChange messageNamesWrong)

/-- 'freshetlaw4.MessageFits': WHATEVER THE INPUT: true; the input reads as it did. -/
def messageFitsSpec : ChangeSpec := { name := "messageFits", fn := fun _ => fun
  | [d1, d2, d3, d4] => { results := [.lit (.bool true)], args := [d1, d2, d3, d4] }
  | _ => none }
def messageFitsRow : OpenClaim := { program := "ythfhmbooeemaaaa", sum := "cc687a7199b01e6ec6b22658f1eeeca2b62e7177915d44c07dcea2679cb2cc47", func := "freshet/freshetlaw4.MessageFits", spec := "messageFits", unfollowed := true, recurses := true, apart := false }
def MessageFitsSaid : Prop := messageFitsRow.holds Try.pinned (OpenSpec.ofChange messageFitsSpec)

/-- ITS FALSE NEIGHBOUR: 'it returns false'. Refute it at one input. -/
def messageFitsWrong : ChangeSpec := { name := "messageFits", fn := fun _ => fun
  | [d1, d2, d3, d4] => { results := [.lit (.bool false)], args := [d1, d2, d3, d4] }
  | _ => none }
def MessageFitsWrongFalsely : Prop := messageFitsRow.holds Try.pinned (OpenSpec.ofChange messageFitsWrong)

/- THE SECOND FORM. 'bulk': how many values and letters a reading holds, each counted each time it is reached (what is shared counts as often as it is met; a slice's spare places count too). A statement '..UptoSaid' is the law's where the arguments, and the package variables that the reading takes, are together of bulk at most 1048576: NARROWER than '..Said'. Prove '..Said' where nothing that the law and all that it calls make is longer than what came in: it says more and counts as full. Else prove '..UptoSaid'. A law counts once. -/
mutual
def uptoBulk {H : Type} : DataW H → Nat
  | .lit (.string bytes) => bytes.length + 1
  | .lit _ => 1
  | .nil => 1
  | .ptr d => uptoBulk d + 1
  | .slice elems spare => uptoBulkAll elems + uptoBulkAll spare + 1
  | .agg parts => uptoBulkAll parts + 1
  | .iface _ d => uptoBulk d + 1
  | .map entries => uptoBulkEntries entries + 1
  | .held _ => 1
def uptoBulkAll {H : Type} : List (DataW H) → Nat
  | [] => 0
  | d :: r => uptoBulk d + uptoBulkAll r
def uptoBulkEntries {H : Type} : List (Lit × DataW H) → Nat
  | [] => 0
  | x :: r => uptoBulkEntry x + uptoBulkEntries r
def uptoBulkEntry {H : Type} : Lit × DataW H → Nat
  | (.string bytes, d) => bytes.length + uptoBulk d + 1
  | (_, d) => uptoBulk d + 1
 end
def uptoSmall : (H : Type) → List (DataW H) → Bool := fun _ ds => decide (uptoBulkAll ds ≤ 1048576)
def OpenSpec.upto (s : _root_.Go.ChangeSpec) : _root_.Go.OpenSpec := { _root_.Go.OpenSpec.ofChange s with cond := some uptoSmall }

/-- 'freshetlaw4.MessageDecodes', WHERE WHAT IT READS IS OF BULK AT MOST 1048576: true; the input reads as it did. -/
def messageDecodesUptoRow : OpenClaim := { program := "ythfhmbooeemaaaa", sum := "cc687a7199b01e6ec6b22658f1eeeca2b62e7177915d44c07dcea2679cb2cc47", func := "freshet/freshetlaw4.MessageDecodes", spec := "messageDecodes", unfollowed := true, recurses := true, apart := false, narrowed := true }
def MessageDecodesUptoSaid : Prop := messageDecodesUptoRow.holds Try.pinned (OpenSpec.upto messageDecodesSpec)

/-- 'freshetlaw4.MessageBack', WHERE WHAT IT READS IS OF BULK AT MOST 1048576: true; the input reads as it did. -/
def messageBackUptoRow : OpenClaim := { program := "ythfhmbooeemaaaa", sum := "cc687a7199b01e6ec6b22658f1eeeca2b62e7177915d44c07dcea2679cb2cc47", func := "freshet/freshetlaw4.MessageBack", spec := "messageBack", unfollowed := true, recurses := true, apart := false, narrowed := true }
def MessageBackUptoSaid : Prop := messageBackUptoRow.holds Try.pinned (OpenSpec.upto messageBackSpec)

/-- 'freshetlaw4.MessageRecords', WHERE WHAT IT READS IS OF BULK AT MOST 1048576: true; the input reads as it did. -/
def messageRecordsUptoRow : OpenClaim := { program := "ythfhmbooeemaaaa", sum := "cc687a7199b01e6ec6b22658f1eeeca2b62e7177915d44c07dcea2679cb2cc47", func := "freshet/freshetlaw4.MessageRecords", spec := "messageRecords", unfollowed := true, recurses := true, apart := false, narrowed := true }
def MessageRecordsUptoSaid : Prop := messageRecordsUptoRow.holds Try.pinned (OpenSpec.upto messageRecordsSpec)

/-- 'freshetlaw4.MessageHeads', WHERE WHAT IT READS IS OF BULK AT MOST 1048576: true; the input reads as it did. -/
def messageHeadsUptoRow : OpenClaim := { program := "ythfhmbooeemaaaa", sum := "cc687a7199b01e6ec6b22658f1eeeca2b62e7177915d44c07dcea2679cb2cc47", func := "freshet/freshetlaw4.MessageHeads", spec := "messageHeads", unfollowed := true, recurses := true, apart := false, narrowed := true }
def MessageHeadsUptoSaid : Prop := messageHeadsUptoRow.holds Try.pinned (OpenSpec.upto messageHeadsSpec)

/-- 'freshetlaw4.MessageCounts', WHERE WHAT IT READS IS OF BULK AT MOST 1048576: true; the input reads as it did. -/
def messageCountsUptoRow : OpenClaim := { program := "ythfhmbooeemaaaa", sum := "cc687a7199b01e6ec6b22658f1eeeca2b62e7177915d44c07dcea2679cb2cc47", func := "freshet/freshetlaw4.MessageCounts", spec := "messageCounts", unfollowed := true, recurses := true, apart := false, narrowed := true }
def MessageCountsUptoSaid : Prop := messageCountsUptoRow.holds Try.pinned (OpenSpec.upto messageCountsSpec)

/-- 'freshetlaw4.MessageOpts', WHERE WHAT IT READS IS OF BULK AT MOST 1048576: true; the input reads as it did. -/
def messageOptsUptoRow : OpenClaim := { program := "ythfhmbooeemaaaa", sum := "cc687a7199b01e6ec6b22658f1eeeca2b62e7177915d44c07dcea2679cb2cc47", func := "freshet/freshetlaw4.MessageOpts", spec := "messageOpts", unfollowed := true, recurses := true, apart := false, narrowed := true }
def MessageOptsUptoSaid : Prop := messageOptsUptoRow.holds Try.pinned (OpenSpec.upto messageOptsSpec)

/-- 'freshetlaw4.MessageNames', WHERE WHAT IT READS IS OF BULK AT MOST 1048576: true; the input reads as it did. -/
def messageNamesUptoRow : OpenClaim := { program := "ythfhmbooeemaaaa", sum := "cc687a7199b01e6ec6b22658f1eeeca2b62e7177915d44c07dcea2679cb2cc47", func := "freshet/freshetlaw4.MessageNames", spec := "messageNames", unfollowed := true, recurses := true, apart := false, narrowed := true }
def MessageNamesUptoSaid : Prop := messageNamesUptoRow.holds Try.pinned (OpenSpec.upto messageNamesSpec)

/-- 'freshetlaw4.MessageFits', WHERE WHAT IT READS IS OF BULK AT MOST 1048576: true; the input reads as it did. -/
def messageFitsUptoRow : OpenClaim := { program := "ythfhmbooeemaaaa", sum := "cc687a7199b01e6ec6b22658f1eeeca2b62e7177915d44c07dcea2679cb2cc47", func := "freshet/freshetlaw4.MessageFits", spec := "messageFits", unfollowed := true, recurses := true, apart := false, narrowed := true }
def MessageFitsUptoSaid : Prop := messageFitsUptoRow.holds Try.pinned (OpenSpec.upto messageFitsSpec)

end Rows
end Go.Proofs.Ythfhmbooeemaaaa
