/-
  No cell of these rows narrows 'for every input' (looked for: loops, veiled, ifaces, maps, wideKeys, modest, calm, conditions, laid).
  DERIVED. THE GIVEN ROWS OF THIS SEAT. 4 by the template 'for every input the law returns true; each argument reads behind the call as it read before'; 0 by the template 'total and deterministic' (their statements: YtkpcmnckdappnaaGreatTotals.lean).
  GIVEN WITH THE SEED: the statements are not yours to turn. If you find one false, say at which input.
  Laid BY PROGRAM, IN A SANDBOX (cutbox-rows.mjs): the forced cells as the released guide's own fill.sh prints them over the translation c7ba827027483162… (all of the seat's roots in one cut). By AI agents, Wed Nov 11 2026. No macro, syntax, notation, axiom, sorry.
-/
import Derived.Test.YtkpcmnckdappnaaGreatChecked
import GoSem.Claim
import GoSem.ClaimJoined
import GoSem.ClaimMapViews
import Derived.JoinedTies
import Derived.KernelRfl
namespace Go.Proofs.YtkpcmnckdappnaaGreat
/- THE CELL 'sum', in the pinned program and in every row, IS THE sha256 OF THE DUMP (.gsa) THAT YtkpcmnckdappnaaGreatProg.lean LOADS. Nothing in Lean hashes anything: it is a label: what it is worth is what the hold of that sum in a sandbox is worth. -/
noncomputable def Tryz.pinned : Pinned := { name := "ytkpcmnckdappnaagreat", sum := "c7ba8270274831622d18ab0f5b3374ecd227ab39520a593c39563493bae04a6c", checked := Tryz.checked }
namespace Rows
def none {H : Type} : Left H := { results := [], args := [] }

/-- 'freshetlaw22.TreeLeads': WHATEVER THE INPUT: true; the input reads as it did. -/
def treeLeadsSpec : ChangeSpec := { name := "treeLeads", fn := fun _ => fun
  | [d1, d2] => { results := [.lit (.bool true)], args := [d1, d2] }
  | _ => none }
def treeLeadsRow : OpenClaim := { program := "ytkpcmnckdappnaagreat", sum := "c7ba8270274831622d18ab0f5b3374ecd227ab39520a593c39563493bae04a6c", func := "freshet/freshetlaw22.TreeLeads", spec := "treeLeads", unfollowed := true, recurses := true, apart := false }
def TreeLeadsSaid : Prop := treeLeadsRow.holds Tryz.pinned (OpenSpec.ofChange treeLeadsSpec)

/-- ITS FALSE NEIGHBOUR: 'it returns false'. Refute it at one input. -/
def treeLeadsWrong : ChangeSpec := { name := "treeLeads", fn := fun _ => fun
  | [d1, d2] => { results := [.lit (.bool false)], args := [d1, d2] }
  | _ => none }
def TreeLeadsWrongFalsely : Prop := treeLeadsRow.holds Tryz.pinned (OpenSpec.ofChange treeLeadsWrong)

/-- 'freshetlaw22.TreeForms': WHATEVER THE INPUT: true; the input reads as it did. -/
def treeFormsSpec : ChangeSpec := { name := "treeForms", fn := fun _ => fun
  | [d1, d2] => { results := [.lit (.bool true)], args := [d1, d2] }
  | _ => none }
def treeFormsRow : OpenClaim := { program := "ytkpcmnckdappnaagreat", sum := "c7ba8270274831622d18ab0f5b3374ecd227ab39520a593c39563493bae04a6c", func := "freshet/freshetlaw22.TreeForms", spec := "treeForms", unfollowed := true, recurses := true, apart := false }
def TreeFormsSaid : Prop := treeFormsRow.holds Tryz.pinned (OpenSpec.ofChange treeFormsSpec)

/-- ITS FALSE NEIGHBOUR: 'it returns false'. Refute it at one input. -/
def treeFormsWrong : ChangeSpec := { name := "treeForms", fn := fun _ => fun
  | [d1, d2] => { results := [.lit (.bool false)], args := [d1, d2] }
  | _ => none }
def TreeFormsWrongFalsely : Prop := treeFormsRow.holds Tryz.pinned (OpenSpec.ofChange treeFormsWrong)

/-- 'freshetlaw22.TreeEmpty': WHATEVER THE INPUT: true; the input reads as it did. -/
def treeEmptySpec : ChangeSpec := { name := "treeEmpty", fn := fun _ => fun
  | [d1, d2] => { results := [.lit (.bool true)], args := [d1, d2] }
  | _ => none }
def treeEmptyRow : OpenClaim := { program := "ytkpcmnckdappnaagreat", sum := "c7ba8270274831622d18ab0f5b3374ecd227ab39520a593c39563493bae04a6c", func := "freshet/freshetlaw22.TreeEmpty", spec := "treeEmpty", unfollowed := true, recurses := true, apart := false }
def TreeEmptySaid : Prop := treeEmptyRow.holds Tryz.pinned (OpenSpec.ofChange treeEmptySpec)

/-- ITS FALSE NEIGHBOUR: 'it returns false'. Refute it at one input. -/
def treeEmptyWrong : ChangeSpec := { name := "treeEmpty", fn := fun _ => fun
  | [d1, d2] => { results := [.lit (.bool false)], args := [d1, d2] }
  | _ => none }
def TreeEmptyWrongFalsely : Prop := treeEmptyRow.holds Tryz.pinned (OpenSpec.ofChange treeEmptyWrong)

/-- 'freshetlaw22.TreeBest': WHATEVER THE INPUT: true; the input reads as it did. -/
def treeBestSpec : ChangeSpec := { name := "treeBest", fn := fun _ => fun
  | [d1, d2, d3] => { results := [.lit (.bool true)], args := [d1, d2, d3] }
  | _ => none }
def treeBestRow : OpenClaim := { program := "ytkpcmnckdappnaagreat", sum := "c7ba8270274831622d18ab0f5b3374ecd227ab39520a593c39563493bae04a6c", func := "freshet/freshetlaw22.TreeBest", spec := "treeBest", unfollowed := true, recurses := true, apart := false }
def TreeBestSaid : Prop := treeBestRow.holds Tryz.pinned (OpenSpec.ofChange treeBestSpec)

/-- ITS FALSE NEIGHBOUR: 'it returns false'. Refute it at one input. -/
def treeBestWrong : ChangeSpec := { name := "treeBest", fn := fun _ => fun
  | [d1, d2, d3] => { results := [.lit (.bool false)], args := [d1, d2, d3] }
  | _ => none }
def TreeBestWrongFalsely : Prop := treeBestRow.holds Tryz.pinned (OpenSpec.ofChange treeBestWrong)

/- THE SECOND FORM. 'bulk': how many values and letters a reading holds, each counted each time it is reached (what is shared counts as often as it is met; a slice's spare places count too). A statement '..UptoSaid' is the law's where the arguments, and the package variables that the reading takes, are together of bulk at most 1048576: NARROWER than '..Said'. Prove '..Said' where nothing that the law and all that it calls make is longer than what came in: it says more and counts as full. Else prove '..UptoSaid'. A law counts once. -/
mutual
def uptoBulk {H : Type} : DataW H → Nat
  | .lit (.string bytes) => bytes.length + 1
  | .lit _ => 1
  | .nil => 1
  | .ptr d => uptoBulk d + 1
  | .slice elems spare => uptoBulkAll elems + uptoBulkAll spare + 1
  | .agg parts => uptoBulkAll parts + 1
  | .iface _ d => uptoBulk d + 1
  | .map entries => uptoBulkEntries entries + 1
  | .held _ => 1
def uptoBulkAll {H : Type} : List (DataW H) → Nat
  | [] => 0
  | d :: r => uptoBulk d + uptoBulkAll r
def uptoBulkEntries {H : Type} : List (Lit × DataW H) → Nat
  | [] => 0
  | x :: r => uptoBulkEntry x + uptoBulkEntries r
def uptoBulkEntry {H : Type} : Lit × DataW H → Nat
  | (.string bytes, d) => bytes.length + uptoBulk d + 1
  | (_, d) => uptoBulk d + 1
 end
def uptoSmall : (H : Type) → List (DataW H) → Bool := fun _ ds => decide (uptoBulkAll ds ≤ 1048576)
def OpenSpec.upto (s : _root_.Go.ChangeSpec) : _root_.Go.OpenSpec := { _root_.Go.OpenSpec.ofChange s with cond := some uptoSmall }

/-- 'freshetlaw22.TreeLeads', WHERE WHAT IT READS IS OF BULK AT MOST 1048576: true; the input reads as it did. -/
def treeLeadsUptoRow : OpenClaim := { program := "ytkpcmnckdappnaagreat", sum := "c7ba8270274831622d18ab0f5b3374ecd227ab39520a593c39563493bae04a6c", func := "freshet/freshetlaw22.TreeLeads", spec := "treeLeads", unfollowed := true, recurses := true, apart := false, narrowed := true }
def TreeLeadsUptoSaid : Prop := treeLeadsUptoRow.holds Tryz.pinned (OpenSpec.upto treeLeadsSpec)

/-- 'freshetlaw22.TreeForms', WHERE WHAT IT READS IS OF BULK AT MOST 1048576: true; the input reads as it did. -/
def treeFormsUptoRow : OpenClaim := { program := "ytkpcmnckdappnaagreat", sum := "c7ba8270274831622d18ab0f5b3374ecd227ab39520a593c39563493bae04a6c", func := "freshet/freshetlaw22.TreeForms", spec := "treeForms", unfollowed := true, recurses := true, apart := false, narrowed := true }
def TreeFormsUptoSaid : Prop := treeFormsUptoRow.holds Tryz.pinned (OpenSpec.upto treeFormsSpec)

/-- 'freshetlaw22.TreeEmpty', WHERE WHAT IT READS IS OF BULK AT MOST 1048576: true; the input reads as it did. -/
def treeEmptyUptoRow : OpenClaim := { program := "ytkpcmnckdappnaagreat", sum := "c7ba8270274831622d18ab0f5b3374ecd227ab39520a593c39563493bae04a6c", func := "freshet/freshetlaw22.TreeEmpty", spec := "treeEmpty", unfollowed := true, recurses := true, apart := false, narrowed := true }
def TreeEmptyUptoSaid : Prop := treeEmptyUptoRow.holds Tryz.pinned (OpenSpec.upto treeEmptySpec)

/-- 'freshetlaw22.TreeBest', WHERE WHAT IT READS IS OF BULK AT MOST 1048576: true; the input reads as it did. -/
def treeBestUptoRow : OpenClaim := { program := "ytkpcmnckdappnaagreat", sum := "c7ba8270274831622d18ab0f5b3374ecd227ab39520a593c39563493bae04a6c", func := "freshet/freshetlaw22.TreeBest", spec := "treeBest", unfollowed := true, recurses := true, apart := false, narrowed := true }
def TreeBestUptoSaid : Prop := treeBestUptoRow.holds Tryz.pinned (OpenSpec.upto treeBestSpec)

end Rows
end Go.Proofs.YtkpcmnckdappnaaGreat
