/-
  DERIVED. GIVEN WITH THE SEED: THE CARDS: each row of YthfpijacemkbbaaDoorRows.lean that lists a variable, with what it lists TIED to the program's text (the seventh form; the later family's looks); each row that meets fmt, with fmt's text TOLD by the authors' own Lean function (tested against real Go, not proved from fmt's source: count such statements apart). THE CARD IS WHAT COUNTS. Prove the row's statement (the work); the ties are given (YthfpijacemkbbaaDoorTie.lean); close each card by the builder's one call (the guide's Derived/Test/ToyasCard.lean, 'card_holds'). Laid BY PROGRAM, IN A SANDBOX (cutbox-door.mjs). By AI agents, Wed Nov 11 2026. No macro, syntax, notation, axiom, sorry.
-/
import Derived.Test.YthfpijacemkbbaaDoorRows
import GoSem.ClaimSeven
namespace Go.Proofs.YthfpijacemkbbaaDoor
namespace Rows

/-- THE TIED CARD OF 'freshetlaw3.RecordTells'. -/
def recordTellsCard : Claim7 := { stood := { row := recordTellsRow, standIns := [], harness := (true, "8798aca82124ee92d5ab0082ab219e039114a70e7b4189ec3482511e003f42df"), looks := false }, kinds := [], alts := [], laidByText := true, laidKinds := [.data, .data, .data], laidTests := true, laidLooks := .later }
def RecordTellsCardSaid : Prop := Claim7.holds Tryd.pinned (.plain (OpenSpec.ofChange recordTellsSpec)) recordTellsCard

/-- THE TIED CARD OF 'freshetlaw3.RecordMakes'. -/
def recordMakesCard : Claim7 := { stood := { row := recordMakesRow, standIns := [], harness := (true, "8798aca82124ee92d5ab0082ab219e039114a70e7b4189ec3482511e003f42df"), looks := false }, kinds := [], alts := [], laidByText := true, laidKinds := [.data, .data, .data], laidTests := true, laidLooks := .later }
def RecordMakesCardSaid : Prop := Claim7.holds Tryd.pinned (.plain (OpenSpec.ofChange recordMakesSpec)) recordMakesCard

/-- THE TIED CARD OF 'freshetlaw3.RecordSame'. -/
def recordSameCard : Claim7 := { stood := { row := recordSameRow, standIns := [], harness := (true, "8798aca82124ee92d5ab0082ab219e039114a70e7b4189ec3482511e003f42df"), looks := false }, kinds := [], alts := [], laidByText := true, laidKinds := [.data, .data, .data], laidTests := true, laidLooks := .later }
def RecordSameCardSaid : Prop := Claim7.holds Tryd.pinned (.plain (OpenSpec.ofChange recordSameSpec)) recordSameCard

/-- THE TIED CARD OF 'freshetlaw3.RecordForms'. -/
def recordFormsCard : Claim7 := { stood := { row := recordFormsRow, standIns := [], harness := (true, "8798aca82124ee92d5ab0082ab219e039114a70e7b4189ec3482511e003f42df"), looks := false }, kinds := [], alts := [], laidByText := true, laidKinds := [.data, .data, .data], laidTests := true, laidLooks := .later }
def RecordFormsCardSaid : Prop := Claim7.holds Tryd.pinned (.plain (OpenSpec.ofChange recordFormsSpec)) recordFormsCard

/-- THE TIED CARD OF 'freshetlaw3.RecordSets'. -/
def recordSetsCard : Claim7 := { stood := { row := recordSetsRow, standIns := [], harness := (true, "8798aca82124ee92d5ab0082ab219e039114a70e7b4189ec3482511e003f42df"), looks := false }, kinds := [], alts := [], laidByText := true, laidKinds := [.data, .data, .data], laidTests := true, laidLooks := .later }
def RecordSetsCardSaid : Prop := Claim7.holds Tryd.pinned (.plain (OpenSpec.ofChange recordSetsSpec)) recordSetsCard

/-- THE TIED CARD OF 'freshetlaw3.RecordTargets'. -/
def recordTargetsCard : Claim7 := { stood := { row := recordTargetsRow, standIns := [], harness := (true, "8798aca82124ee92d5ab0082ab219e039114a70e7b4189ec3482511e003f42df"), looks := false }, kinds := [], alts := [], laidByText := true, laidKinds := [.data, .data, .data], laidTests := true, laidLooks := .later }
def RecordTargetsCardSaid : Prop := Claim7.holds Tryd.pinned (.plain (OpenSpec.ofChange recordTargetsSpec)) recordTargetsCard

/-- THE SECOND FORM's CARD OF 'freshetlaw3.RecordTells'. -/
def recordTellsUptoCard : Claim7 := { stood := { row := recordTellsUptoRow, standIns := [], harness := (true, "8798aca82124ee92d5ab0082ab219e039114a70e7b4189ec3482511e003f42df"), looks := false }, kinds := [], alts := [], laidByText := true, laidKinds := [.data, .data, .data], laidTests := true, laidLooks := .later }
def RecordTellsUptoCardSaid : Prop := Claim7.holds Tryd.pinned (.plain (OpenSpec.upto recordTellsSpec)) recordTellsUptoCard

/-- THE SECOND FORM's CARD OF 'freshetlaw3.RecordMakes'. -/
def recordMakesUptoCard : Claim7 := { stood := { row := recordMakesUptoRow, standIns := [], harness := (true, "8798aca82124ee92d5ab0082ab219e039114a70e7b4189ec3482511e003f42df"), looks := false }, kinds := [], alts := [], laidByText := true, laidKinds := [.data, .data, .data], laidTests := true, laidLooks := .later }
def RecordMakesUptoCardSaid : Prop := Claim7.holds Tryd.pinned (.plain (OpenSpec.upto recordMakesSpec)) recordMakesUptoCard

/-- THE SECOND FORM's CARD OF 'freshetlaw3.RecordSame'. -/
def recordSameUptoCard : Claim7 := { stood := { row := recordSameUptoRow, standIns := [], harness := (true, "8798aca82124ee92d5ab0082ab219e039114a70e7b4189ec3482511e003f42df"), looks := false }, kinds := [], alts := [], laidByText := true, laidKinds := [.data, .data, .data], laidTests := true, laidLooks := .later }
def RecordSameUptoCardSaid : Prop := Claim7.holds Tryd.pinned (.plain (OpenSpec.upto recordSameSpec)) recordSameUptoCard

/-- THE SECOND FORM's CARD OF 'freshetlaw3.RecordForms'. -/
def recordFormsUptoCard : Claim7 := { stood := { row := recordFormsUptoRow, standIns := [], harness := (true, "8798aca82124ee92d5ab0082ab219e039114a70e7b4189ec3482511e003f42df"), looks := false }, kinds := [], alts := [], laidByText := true, laidKinds := [.data, .data, .data], laidTests := true, laidLooks := .later }
def RecordFormsUptoCardSaid : Prop := Claim7.holds Tryd.pinned (.plain (OpenSpec.upto recordFormsSpec)) recordFormsUptoCard

/-- THE SECOND FORM's CARD OF 'freshetlaw3.RecordSets'. -/
def recordSetsUptoCard : Claim7 := { stood := { row := recordSetsUptoRow, standIns := [], harness := (true, "8798aca82124ee92d5ab0082ab219e039114a70e7b4189ec3482511e003f42df"), looks := false }, kinds := [], alts := [], laidByText := true, laidKinds := [.data, .data, .data], laidTests := true, laidLooks := .later }
def RecordSetsUptoCardSaid : Prop := Claim7.holds Tryd.pinned (.plain (OpenSpec.upto recordSetsSpec)) recordSetsUptoCard

/-- THE SECOND FORM's CARD OF 'freshetlaw3.RecordTargets'. -/
def recordTargetsUptoCard : Claim7 := { stood := { row := recordTargetsUptoRow, standIns := [], harness := (true, "8798aca82124ee92d5ab0082ab219e039114a70e7b4189ec3482511e003f42df"), looks := false }, kinds := [], alts := [], laidByText := true, laidKinds := [.data, .data, .data], laidTests := true, laidLooks := .later }
def RecordTargetsUptoCardSaid : Prop := Claim7.holds Tryd.pinned (.plain (OpenSpec.upto recordTargetsSpec)) recordTargetsUptoCard
end Rows
end Go.Proofs.YthfpijacemkbbaaDoor
