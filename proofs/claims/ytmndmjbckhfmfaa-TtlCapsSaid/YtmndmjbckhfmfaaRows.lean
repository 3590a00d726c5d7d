/-
  No cell of these rows narrows 'for every input' (looked for: loops, veiled, ifaces, maps, wideKeys, modest, calm, conditions, laid).
  DERIVED. THE GIVEN ROWS OF THIS SEAT. 5 by the template 'for every input the law returns true; each argument reads behind the call as it read before'; 0 by the template 'total and deterministic' (their statements: YtmndmjbckhfmfaaTotals.lean).
  GIVEN WITH THE SEED: the statements are not yours to turn. If you find one false, say at which input.
  Laid BY PROGRAM, IN A SANDBOX (cutbox-rows.mjs): the forced cells as the released guide's own fill.sh prints them over the translation 42e0a4051ce73662… (all of the seat's roots in one cut). By AI agents, Wed Nov 11 2026. No macro, syntax, notation, axiom, sorry.
-/
import Derived.Test.YtmndmjbckhfmfaaChecked
import GoSem.Claim
import GoSem.ClaimJoined
import GoSem.ClaimMapViews
import Derived.JoinedTies
import Derived.KernelRfl
namespace Go.Proofs.Ytmndmjbckhfmfaa
/- THE CELL 'sum', in the pinned program and in every row, IS THE sha256 OF THE DUMP (.gsa) THAT YtmndmjbckhfmfaaProg.lean LOADS. Nothing in Lean hashes anything: it is a label: what it is worth is what the hold of that sum in a sandbox is worth. -/
noncomputable def Try.pinned : Pinned := { name := "ytmndmjbckhfmfaa", sum := "42e0a4051ce736628336b7f412fbe435144b22f67bd28e71dc1b1e2d700689cc", checked := Try.checked }
namespace Rows
def none {H : Type} : Left H := { results := [], args := [] }

/-- 'freshetlaw11.TtlTells': WHATEVER THE INPUT: true; the input reads as it did. -/
def ttlTellsSpec : ChangeSpec := { name := "ttlTells", fn := fun _ => fun
  | [d1, d2, d3, d4] => { results := [.lit (.bool true)], args := [d1, d2, d3, d4] }
  | _ => none }
def ttlTellsRow : OpenClaim := { program := "ytmndmjbckhfmfaa", sum := "42e0a4051ce736628336b7f412fbe435144b22f67bd28e71dc1b1e2d700689cc", func := "freshet/freshetlaw11.TtlTells", spec := "ttlTells", apart := false }
def TtlTellsSaid : Prop := ttlTellsRow.holds Try.pinned (OpenSpec.ofChange ttlTellsSpec)

/-- ITS FALSE NEIGHBOUR: 'it returns false'. Refute it at one input. -/
def ttlTellsWrong : ChangeSpec := { name := "ttlTells", fn := fun _ => fun
  | [d1, d2, d3, d4] => { results := [.lit (.bool false)], args := [d1, d2, d3, d4] }
  | _ => none }
def TtlTellsWrongFalsely : Prop := ttlTellsRow.holds Try.pinned (OpenSpec.ofChange ttlTellsWrong)

/-- 'freshetlaw11.TtlGoes': WHATEVER THE INPUT: true; the input reads as it did. -/
def ttlGoesSpec : ChangeSpec := { name := "ttlGoes", fn := fun _ => fun
  | [d1, d2, d3] => { results := [.lit (.bool true)], args := [d1, d2, d3] }
  | _ => none }
def ttlGoesRow : OpenClaim := { program := "ytmndmjbckhfmfaa", sum := "42e0a4051ce736628336b7f412fbe435144b22f67bd28e71dc1b1e2d700689cc", func := "freshet/freshetlaw11.TtlGoes", spec := "ttlGoes", apart := false }
def TtlGoesSaid : Prop := ttlGoesRow.holds Try.pinned (OpenSpec.ofChange ttlGoesSpec)

/-- ITS FALSE NEIGHBOUR: 'it returns false'. Refute it at one input. -/
def ttlGoesWrong : ChangeSpec := { name := "ttlGoes", fn := fun _ => fun
  | [d1, d2, d3] => { results := [.lit (.bool false)], args := [d1, d2, d3] }
  | _ => none }
def TtlGoesWrongFalsely : Prop := ttlGoesRow.holds Try.pinned (OpenSpec.ofChange ttlGoesWrong)

/-- 'freshetlaw11.TtlLeast': WHATEVER THE INPUT: true; the input reads as it did. -/
def ttlLeastSpec : ChangeSpec := { name := "ttlLeast", fn := fun _ => fun
  | [d1, d2] => { results := [.lit (.bool true)], args := [d1, d2] }
  | _ => none }
def ttlLeastRow : OpenClaim := { program := "ytmndmjbckhfmfaa", sum := "42e0a4051ce736628336b7f412fbe435144b22f67bd28e71dc1b1e2d700689cc", func := "freshet/freshetlaw11.TtlLeast", spec := "ttlLeast", apart := false }
def TtlLeastSaid : Prop := ttlLeastRow.holds Try.pinned (OpenSpec.ofChange ttlLeastSpec)

/-- ITS FALSE NEIGHBOUR: 'it returns false'. Refute it at one input. -/
def ttlLeastWrong : ChangeSpec := { name := "ttlLeast", fn := fun _ => fun
  | [d1, d2] => { results := [.lit (.bool false)], args := [d1, d2] }
  | _ => none }
def TtlLeastWrongFalsely : Prop := ttlLeastRow.holds Try.pinned (OpenSpec.ofChange ttlLeastWrong)

/-- 'freshetlaw11.TtlCaps': WHATEVER THE INPUT: true; the input reads as it did. -/
def ttlCapsSpec : ChangeSpec := { name := "ttlCaps", fn := fun _ => fun
  | [d1, d2, d3] => { results := [.lit (.bool true)], args := [d1, d2, d3] }
  | _ => none }
def ttlCapsRow : OpenClaim := { program := "ytmndmjbckhfmfaa", sum := "42e0a4051ce736628336b7f412fbe435144b22f67bd28e71dc1b1e2d700689cc", func := "freshet/freshetlaw11.TtlCaps", spec := "ttlCaps", apart := false }
def TtlCapsSaid : Prop := ttlCapsRow.holds Try.pinned (OpenSpec.ofChange ttlCapsSpec)

/-- ITS FALSE NEIGHBOUR: 'it returns false'. Refute it at one input. -/
def ttlCapsWrong : ChangeSpec := { name := "ttlCaps", fn := fun _ => fun
  | [d1, d2, d3] => { results := [.lit (.bool false)], args := [d1, d2, d3] }
  | _ => none }
def TtlCapsWrongFalsely : Prop := ttlCapsRow.holds Try.pinned (OpenSpec.ofChange ttlCapsWrong)

/-- 'freshetlaw11.TtlRow': WHATEVER THE INPUT: true; the input reads as it did. -/
def ttlRowSpec : ChangeSpec := { name := "ttlRow", fn := fun _ => fun
  | [d1, d2] => { results := [.lit (.bool true)], args := [d1, d2] }
  | _ => none }
def ttlRowRow : OpenClaim := { program := "ytmndmjbckhfmfaa", sum := "42e0a4051ce736628336b7f412fbe435144b22f67bd28e71dc1b1e2d700689cc", func := "freshet/freshetlaw11.TtlRow", spec := "ttlRow", apart := false }
def TtlRowSaid : Prop := ttlRowRow.holds Try.pinned (OpenSpec.ofChange ttlRowSpec)

/-- ITS FALSE NEIGHBOUR: 'it returns false'. Refute it at one input. -/
def ttlRowWrong : ChangeSpec := { name := "ttlRow", fn := fun _ => fun
  | [d1, d2] => { results := [.lit (.bool false)], args := [d1, d2] }
  | _ => none }
def TtlRowWrongFalsely : Prop := ttlRowRow.holds Try.pinned (OpenSpec.ofChange ttlRowWrong)

/- THE SECOND FORM. 'bulk': how many values and letters a reading holds, each counted each time it is reached (what is shared counts as often as it is met; a slice's spare places count too). A statement '..UptoSaid' is the law's where the arguments, and the package variables that the reading takes, are together of bulk at most 1048576: NARROWER than '..Said'. Prove '..Said' where nothing that the law and all that it calls make is longer than what came in: it says more and counts as full. Else prove '..UptoSaid'. A law counts once. -/
mutual
def uptoBulk {H : Type} : DataW H → Nat
  | .lit (.string bytes) => bytes.length + 1
  | .lit _ => 1
  | .nil => 1
  | .ptr d => uptoBulk d + 1
  | .slice elems spare => uptoBulkAll elems + uptoBulkAll spare + 1
  | .agg parts => uptoBulkAll parts + 1
  | .iface _ d => uptoBulk d + 1
  | .map entries => uptoBulkEntries entries + 1
  | .held _ => 1
def uptoBulkAll {H : Type} : List (DataW H) → Nat
  | [] => 0
  | d :: r => uptoBulk d + uptoBulkAll r
def uptoBulkEntries {H : Type} : List (Lit × DataW H) → Nat
  | [] => 0
  | x :: r => uptoBulkEntry x + uptoBulkEntries r
def uptoBulkEntry {H : Type} : Lit × DataW H → Nat
  | (.string bytes, d) => bytes.length + uptoBulk d + 1
  | (_, d) => uptoBulk d + 1
 end
def uptoSmall : (H : Type) → List (DataW H) → Bool := fun _ ds => decide (uptoBulkAll ds ≤ 1048576)
def OpenSpec.upto (s : _root_.Go.ChangeSpec) : _root_.Go.OpenSpec := { _root_.Go.OpenSpec.ofChange s with cond := some uptoSmall }

/-- 'freshetlaw11.TtlTells', WHERE WHAT IT READS IS OF BULK AT MOST 1048576: true; the input reads as it did. -/
def ttlTellsUptoRow : OpenClaim := { program := "ytmndmjbckhfmfaa", sum := "42e0a4051ce736628336b7f412fbe435144b22f67bd28e71dc1b1e2d700689cc", func := "freshet/freshetlaw11.TtlTells", spec := "ttlTells", apart := false, narrowed := true }
def TtlTellsUptoSaid : Prop := ttlTellsUptoRow.holds Try.pinned (OpenSpec.upto ttlTellsSpec)

/-- 'freshetlaw11.TtlGoes', WHERE WHAT IT READS IS OF BULK AT MOST 1048576: true; the input reads as it did. -/
def ttlGoesUptoRow : OpenClaim := { program := "ytmndmjbckhfmfaa", sum := "42e0a4051ce736628336b7f412fbe435144b22f67bd28e71dc1b1e2d700689cc", func := "freshet/freshetlaw11.TtlGoes", spec := "ttlGoes", apart := false, narrowed := true }
def TtlGoesUptoSaid : Prop := ttlGoesUptoRow.holds Try.pinned (OpenSpec.upto ttlGoesSpec)

/-- 'freshetlaw11.TtlLeast', WHERE WHAT IT READS IS OF BULK AT MOST 1048576: true; the input reads as it did. -/
def ttlLeastUptoRow : OpenClaim := { program := "ytmndmjbckhfmfaa", sum := "42e0a4051ce736628336b7f412fbe435144b22f67bd28e71dc1b1e2d700689cc", func := "freshet/freshetlaw11.TtlLeast", spec := "ttlLeast", apart := false, narrowed := true }
def TtlLeastUptoSaid : Prop := ttlLeastUptoRow.holds Try.pinned (OpenSpec.upto ttlLeastSpec)

/-- 'freshetlaw11.TtlCaps', WHERE WHAT IT READS IS OF BULK AT MOST 1048576: true; the input reads as it did. -/
def ttlCapsUptoRow : OpenClaim := { program := "ytmndmjbckhfmfaa", sum := "42e0a4051ce736628336b7f412fbe435144b22f67bd28e71dc1b1e2d700689cc", func := "freshet/freshetlaw11.TtlCaps", spec := "ttlCaps", apart := false, narrowed := true }
def TtlCapsUptoSaid : Prop := ttlCapsUptoRow.holds Try.pinned (OpenSpec.upto ttlCapsSpec)

/-- 'freshetlaw11.TtlRow', WHERE WHAT IT READS IS OF BULK AT MOST 1048576: true; the input reads as it did. -/
def ttlRowUptoRow : OpenClaim := { program := "ytmndmjbckhfmfaa", sum := "42e0a4051ce736628336b7f412fbe435144b22f67bd28e71dc1b1e2d700689cc", func := "freshet/freshetlaw11.TtlRow", spec := "ttlRow", apart := false, narrowed := true }
def TtlRowUptoSaid : Prop := ttlRowUptoRow.holds Try.pinned (OpenSpec.upto ttlRowSpec)

end Rows
end Go.Proofs.Ytmndmjbckhfmfaa
