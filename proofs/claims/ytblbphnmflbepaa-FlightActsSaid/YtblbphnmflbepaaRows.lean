/-
  No cell of these rows narrows 'for every input' (looked for: loops, veiled, ifaces, maps, wideKeys, modest, calm, conditions, laid).
  DERIVED. THE GIVEN ROWS OF THIS SEAT. 4 by the template 'for every input the law returns true; each argument reads behind the call as it read before'; 0 by the template 'total and deterministic' (their statements: YtblbphnmflbepaaTotals.lean).
  GIVEN WITH THE SEED: the statements are not yours to turn. If you find one false, say at which input.
  Laid BY PROGRAM, IN A SANDBOX (cutbox-rows.mjs): the forced cells as the released guide's own fill.sh prints them over the translation 64d1f1ec9b6ac8cd… (all of the seat's roots in one cut). By AI agents, Wed Nov 11 2026. No macro, syntax, notation, axiom, sorry.
-/
import Derived.Test.YtblbphnmflbepaaChecked
import GoSem.Claim
import GoSem.ClaimJoined
import GoSem.ClaimMapViews
import Derived.JoinedTies
import Derived.KernelRfl
namespace Go.Proofs.Ytblbphnmflbepaa
/- THE CELL 'sum', in the pinned program and in every row, IS THE sha256 OF THE DUMP (.gsa) THAT YtblbphnmflbepaaProg.lean LOADS. Nothing in Lean hashes anything: it is a label: what it is worth is what the hold of that sum in a sandbox is worth. -/
noncomputable def Try.pinned : Pinned := { name := "ytblbphnmflbepaa", sum := "64d1f1ec9b6ac8cdd108425b670f6dac538b6403b5d32aca318fc89e7af77748", checked := Try.checked }
namespace Rows
def none {H : Type} : Left H := { results := [], args := [] }

/-- 'freshetlaw17.FlightActs': WHATEVER THE INPUT: true; the input reads as it did. -/
def flightActsSpec : ChangeSpec := { name := "flightActs", fn := fun _ => fun
  | [d1, d2] => { results := [.lit (.bool true)], args := [d1, d2] }
  | _ => none }
def flightActsRow : OpenClaim := { program := "ytblbphnmflbepaa", sum := "64d1f1ec9b6ac8cdd108425b670f6dac538b6403b5d32aca318fc89e7af77748", func := "freshet/freshetlaw17.FlightActs", spec := "flightActs", inPlace := ["slices.overlaps[freshet/flight.Sent]"], unfollowed := true, recurses := true, apart := false }
def FlightActsSaid : Prop := flightActsRow.holds Try.pinned (OpenSpec.ofChange flightActsSpec)

/-- ITS FALSE NEIGHBOUR: 'it returns false'. Refute it at one input. -/
def flightActsWrong : ChangeSpec := { name := "flightActs", fn := fun _ => fun
  | [d1, d2] => { results := [.lit (.bool false)], args := [d1, d2] }
  | _ => none }
def FlightActsWrongFalsely : Prop := flightActsRow.holds Try.pinned (OpenSpec.ofChange flightActsWrong)

/-- 'freshetlaw17.FlightMatches': WHATEVER THE INPUT: true; the input reads as it did. -/
def flightMatchesSpec : ChangeSpec := { name := "flightMatches", fn := fun _ => fun
  | [d1, d2, d3, d4, d5] => { results := [.lit (.bool true)], args := [d1, d2, d3, d4, d5] }
  | _ => none }
def flightMatchesRow : OpenClaim := { program := "ytblbphnmflbepaa", sum := "64d1f1ec9b6ac8cdd108425b670f6dac538b6403b5d32aca318fc89e7af77748", func := "freshet/freshetlaw17.FlightMatches", spec := "flightMatches", inPlace := ["slices.overlaps[freshet/flight.Sent]"], unfollowed := true, recurses := true, apart := false }
def FlightMatchesSaid : Prop := flightMatchesRow.holds Try.pinned (OpenSpec.ofChange flightMatchesSpec)

/-- ITS FALSE NEIGHBOUR: 'it returns false'. Refute it at one input. -/
def flightMatchesWrong : ChangeSpec := { name := "flightMatches", fn := fun _ => fun
  | [d1, d2, d3, d4, d5] => { results := [.lit (.bool false)], args := [d1, d2, d3, d4, d5] }
  | _ => none }
def FlightMatchesWrongFalsely : Prop := flightMatchesRow.holds Try.pinned (OpenSpec.ofChange flightMatchesWrong)

/-- 'freshetlaw17.FlightRoom': WHATEVER THE INPUT: true; the input reads as it did. -/
def flightRoomSpec : ChangeSpec := { name := "flightRoom", fn := fun _ => fun
  | [d1, d2] => { results := [.lit (.bool true)], args := [d1, d2] }
  | _ => none }
def flightRoomRow : OpenClaim := { program := "ytblbphnmflbepaa", sum := "64d1f1ec9b6ac8cdd108425b670f6dac538b6403b5d32aca318fc89e7af77748", func := "freshet/freshetlaw17.FlightRoom", spec := "flightRoom", inPlace := ["slices.overlaps[freshet/flight.Sent]"], unfollowed := true, recurses := true, apart := false }
def FlightRoomSaid : Prop := flightRoomRow.holds Try.pinned (OpenSpec.ofChange flightRoomSpec)

/-- ITS FALSE NEIGHBOUR: 'it returns false'. Refute it at one input. -/
def flightRoomWrong : ChangeSpec := { name := "flightRoom", fn := fun _ => fun
  | [d1, d2] => { results := [.lit (.bool false)], args := [d1, d2] }
  | _ => none }
def FlightRoomWrongFalsely : Prop := flightRoomRow.holds Try.pinned (OpenSpec.ofChange flightRoomWrong)

/-- 'freshetlaw17.FlightDrops': WHATEVER THE INPUT: true; the input reads as it did. -/
def flightDropsSpec : ChangeSpec := { name := "flightDrops", fn := fun _ => fun
  | [d1, d2] => { results := [.lit (.bool true)], args := [d1, d2] }
  | _ => none }
def flightDropsRow : OpenClaim := { program := "ytblbphnmflbepaa", sum := "64d1f1ec9b6ac8cdd108425b670f6dac538b6403b5d32aca318fc89e7af77748", func := "freshet/freshetlaw17.FlightDrops", spec := "flightDrops", inPlace := ["slices.overlaps[freshet/flight.Sent]"], unfollowed := true, recurses := true, apart := false }
def FlightDropsSaid : Prop := flightDropsRow.holds Try.pinned (OpenSpec.ofChange flightDropsSpec)

/-- ITS FALSE NEIGHBOUR: 'it returns false'. Refute it at one input. -/
def flightDropsWrong : ChangeSpec := { name := "flightDrops", fn := fun _ => fun
  | [d1, d2] => { results := [.lit (.bool false)], args := [d1, d2] }
  | _ => none }
def FlightDropsWrongFalsely : Prop := flightDropsRow.holds Try.pinned (OpenSpec.ofChange flightDropsWrong)

/- THE SECOND FORM. 'bulk': how many values and letters a reading holds, each counted each time it is reached (what is shared counts as often as it is met; a slice's spare places count too). A statement '..UptoSaid' is the law's where the arguments, and the package variables that the reading takes, are together of bulk at most 1048576: NARROWER than '..Said'. Prove '..Said' where nothing that the law and all that it calls make is longer than what came in: it says more and counts as full. Else prove '..UptoSaid'. A law counts once. -/
mutual
def uptoBulk {H : Type} : DataW H → Nat
  | .lit (.string bytes) => bytes.length + 1
  | .lit _ => 1
  | .nil => 1
  | .ptr d => uptoBulk d + 1
  | .slice elems spare => uptoBulkAll elems + uptoBulkAll spare + 1
  | .agg parts => uptoBulkAll parts + 1
  | .iface _ d => uptoBulk d + 1
  | .map entries => uptoBulkEntries entries + 1
  | .held _ => 1
def uptoBulkAll {H : Type} : List (DataW H) → Nat
  | [] => 0
  | d :: r => uptoBulk d + uptoBulkAll r
def uptoBulkEntries {H : Type} : List (Lit × DataW H) → Nat
  | [] => 0
  | x :: r => uptoBulkEntry x + uptoBulkEntries r
def uptoBulkEntry {H : Type} : Lit × DataW H → Nat
  | (.string bytes, d) => bytes.length + uptoBulk d + 1
  | (_, d) => uptoBulk d + 1
 end
def uptoSmall : (H : Type) → List (DataW H) → Bool := fun _ ds => decide (uptoBulkAll ds ≤ 1048576)
def OpenSpec.upto (s : _root_.Go.ChangeSpec) : _root_.Go.OpenSpec := { _root_.Go.OpenSpec.ofChange s with cond := some uptoSmall }

/-- 'freshetlaw17.FlightActs', WHERE WHAT IT READS IS OF BULK AT MOST 1048576: true; the input reads as it did. -/
def flightActsUptoRow : OpenClaim := { program := "ytblbphnmflbepaa", sum := "64d1f1ec9b6ac8cdd108425b670f6dac538b6403b5d32aca318fc89e7af77748", func := "freshet/freshetlaw17.FlightActs", spec := "flightActs", inPlace := ["slices.overlaps[freshet/flight.Sent]"], unfollowed := true, recurses := true, apart := false, narrowed := true }
def FlightActsUptoSaid : Prop := flightActsUptoRow.holds Try.pinned (OpenSpec.upto flightActsSpec)

/-- 'freshetlaw17.FlightMatches', WHERE WHAT IT READS IS OF BULK AT MOST 1048576: true; the input reads as it did. -/
def flightMatchesUptoRow : OpenClaim := { program := "ytblbphnmflbepaa", sum := "64d1f1ec9b6ac8cdd108425b670f6dac538b6403b5d32aca318fc89e7af77748", func := "freshet/freshetlaw17.FlightMatches", spec := "flightMatches", inPlace := ["slices.overlaps[freshet/flight.Sent]"], unfollowed := true, recurses := true, apart := false, narrowed := true }
def FlightMatchesUptoSaid : Prop := flightMatchesUptoRow.holds Try.pinned (OpenSpec.upto flightMatchesSpec)

/-- 'freshetlaw17.FlightRoom', WHERE WHAT IT READS IS OF BULK AT MOST 1048576: true; the input reads as it did. -/
def flightRoomUptoRow : OpenClaim := { program := "ytblbphnmflbepaa", sum := "64d1f1ec9b6ac8cdd108425b670f6dac538b6403b5d32aca318fc89e7af77748", func := "freshet/freshetlaw17.FlightRoom", spec := "flightRoom", inPlace := ["slices.overlaps[freshet/flight.Sent]"], unfollowed := true, recurses := true, apart := false, narrowed := true }
def FlightRoomUptoSaid : Prop := flightRoomUptoRow.holds Try.pinned (OpenSpec.upto flightRoomSpec)

/-- 'freshetlaw17.FlightDrops', WHERE WHAT IT READS IS OF BULK AT MOST 1048576: true; the input reads as it did. -/
def flightDropsUptoRow : OpenClaim := { program := "ytblbphnmflbepaa", sum := "64d1f1ec9b6ac8cdd108425b670f6dac538b6403b5d32aca318fc89e7af77748", func := "freshet/freshetlaw17.FlightDrops", spec := "flightDrops", inPlace := ["slices.overlaps[freshet/flight.Sent]"], unfollowed := true, recurses := true, apart := false, narrowed := true }
def FlightDropsUptoSaid : Prop := flightDropsUptoRow.holds Try.pinned (OpenSpec.upto flightDropsSpec)

end Rows
end Go.Proofs.Ytblbphnmflbepaa
