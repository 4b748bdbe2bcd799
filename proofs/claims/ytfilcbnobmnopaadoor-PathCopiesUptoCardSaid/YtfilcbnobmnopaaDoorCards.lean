/-
  DERIVED. GIVEN WITH THE SEED: THE CARDS: each row of YtfilcbnobmnopaaDoorRows.lean that lists a variable, with what it lists TIED to the program's text (the seventh form; the later family's looks); each row that meets fmt, with fmt's text TOLD by the authors' own Lean function (tested against real Go, not proved from fmt's source: count such statements apart). THE CARD IS WHAT COUNTS. Prove the row's statement (the work); the ties are given (YtfilcbnobmnopaaDoorTie.lean); close each card by the builder's one call (the guide's Derived/Test/ToyasCard.lean, 'card_holds'). Laid BY PROGRAM, IN A SANDBOX (cutbox-door.mjs). By AI agents, Wed Nov 11 2026. No macro, syntax, notation, axiom, sorry.
-/
import Derived.Test.YtfilcbnobmnopaaDoorRows
import GoSem.ClaimSeven
namespace Go.Proofs.YtfilcbnobmnopaaDoor
namespace Rows

/-- THE TIED CARD OF 'bindlelaw06.PathCopies'. -/
def pathCopiesCard : Claim7 := { stood := { row := pathCopiesRow, standIns := [], harness := (true, "841358389163de761bc78d959c4fe369b1d2a57e2ef13fd8517d34a96b7e6707"), looks := false }, kinds := [], alts := [], laidByText := true, laidKinds := [.data, .data, .data, .data, .pinned], laidTests := true, laidLooks := .later }
def PathCopiesCardSaid : Prop := Claim7.holds Tryd.pinned (.plain (OpenSpec.ofChange pathCopiesSpec)) pathCopiesCard

/-- THE TIED CARD OF 'bindlelaw06.PathLies'. -/
def pathLiesCard : Claim7 := { stood := { row := pathLiesRow, standIns := [], harness := (true, "841358389163de761bc78d959c4fe369b1d2a57e2ef13fd8517d34a96b7e6707"), looks := false }, kinds := [], alts := [], laidByText := true, laidKinds := [.data, .data, .data, .data, .pinned], laidTests := true, laidLooks := .later }
def PathLiesCardSaid : Prop := Claim7.holds Tryd.pinned (.plain (OpenSpec.ofChange pathLiesSpec)) pathLiesCard

/-- THE TIED CARD OF 'bindlelaw06.PathBelow'. -/
def pathBelowCard : Claim7 := { stood := { row := pathBelowRow, standIns := [], harness := (true, "841358389163de761bc78d959c4fe369b1d2a57e2ef13fd8517d34a96b7e6707"), looks := false }, kinds := [], alts := [], laidByText := true, laidKinds := [.data, .data, .data, .data, .pinned], laidTests := true, laidLooks := .later }
def PathBelowCardSaid : Prop := Claim7.holds Tryd.pinned (.plain (OpenSpec.ofChange pathBelowSpec)) pathBelowCard

/-- THE TIED CARD OF 'bindlelaw06.PathParents'. -/
def pathParentsCard : Claim7 := { stood := { row := pathParentsRow, standIns := [], harness := (true, "841358389163de761bc78d959c4fe369b1d2a57e2ef13fd8517d34a96b7e6707"), looks := false }, kinds := [], alts := [], laidByText := true, laidKinds := [.data, .data, .data, .data, .pinned], laidTests := true, laidLooks := .later }
def PathParentsCardSaid : Prop := Claim7.holds Tryd.pinned (.plain (OpenSpec.ofChange pathParentsSpec)) pathParentsCard

/-- THE TIED CARD OF 'bindlelaw06.PathSplits'. -/
def pathSplitsCard : Claim7 := { stood := { row := pathSplitsRow, standIns := [], harness := (true, "841358389163de761bc78d959c4fe369b1d2a57e2ef13fd8517d34a96b7e6707"), looks := false }, kinds := [], alts := [], laidByText := true, laidKinds := [.data, .data, .data, .data, .pinned], laidTests := true, laidLooks := .later }
def PathSplitsCardSaid : Prop := Claim7.holds Tryd.pinned (.plain (OpenSpec.ofChange pathSplitsSpec)) pathSplitsCard

/-- THE TIED CARD OF 'bindlelaw06.PathBack'. -/
def pathBackCard : Claim7 := { stood := { row := pathBackRow, standIns := [], harness := (true, "841358389163de761bc78d959c4fe369b1d2a57e2ef13fd8517d34a96b7e6707"), looks := false }, kinds := [], alts := [], laidByText := true, laidKinds := [.data, .data, .data, .data, .pinned], laidTests := true, laidLooks := .later }
def PathBackCardSaid : Prop := Claim7.holds Tryd.pinned (.plain (OpenSpec.ofChange pathBackSpec)) pathBackCard

/-- THE SECOND FORM's CARD OF 'bindlelaw06.PathCopies'. -/
def pathCopiesUptoCard : Claim7 := { stood := { row := pathCopiesUptoRow, standIns := [], harness := (true, "841358389163de761bc78d959c4fe369b1d2a57e2ef13fd8517d34a96b7e6707"), looks := false }, kinds := [], alts := [], laidByText := true, laidKinds := [.data, .data, .data, .data, .pinned], laidTests := true, laidLooks := .later }
def PathCopiesUptoCardSaid : Prop := Claim7.holds Tryd.pinned (.plain (OpenSpec.upto pathCopiesSpec)) pathCopiesUptoCard

/-- THE SECOND FORM's CARD OF 'bindlelaw06.PathLies'. -/
def pathLiesUptoCard : Claim7 := { stood := { row := pathLiesUptoRow, standIns := [], harness := (true, "841358389163de761bc78d959c4fe369b1d2a57e2ef13fd8517d34a96b7e6707"), looks := false }, kinds := [], alts := [], laidByText := true, laidKinds := [.data, .data, .data, .data, .pinned], laidTests := true, laidLooks := .later }
def PathLiesUptoCardSaid : Prop := Claim7.holds Tryd.pinned (.plain (OpenSpec.upto pathLiesSpec)) pathLiesUptoCard

/-- THE SECOND FORM's CARD OF 'bindlelaw06.PathBelow'. -/
def pathBelowUptoCard : Claim7 := { stood := { row := pathBelowUptoRow, standIns := [], harness := (true, "841358389163de761bc78d959c4fe369b1d2a57e2ef13fd8517d34a96b7e6707"), looks := false }, kinds := [], alts := [], laidByText := true, laidKinds := [.data, .data, .data, .data, .pinned], laidTests := true, laidLooks := .later }
def PathBelowUptoCardSaid : Prop := Claim7.holds Tryd.pinned (.plain (OpenSpec.upto pathBelowSpec)) pathBelowUptoCard

/-- THE SECOND FORM's CARD OF 'bindlelaw06.PathParents'. -/
def pathParentsUptoCard : Claim7 := { stood := { row := pathParentsUptoRow, standIns := [], harness := (true, "841358389163de761bc78d959c4fe369b1d2a57e2ef13fd8517d34a96b7e6707"), looks := false }, kinds := [], alts := [], laidByText := true, laidKinds := [.data, .data, .data, .data, .pinned], laidTests := true, laidLooks := .later }
def PathParentsUptoCardSaid : Prop := Claim7.holds Tryd.pinned (.plain (OpenSpec.upto pathParentsSpec)) pathParentsUptoCard

/-- THE SECOND FORM's CARD OF 'bindlelaw06.PathSplits'. -/
def pathSplitsUptoCard : Claim7 := { stood := { row := pathSplitsUptoRow, standIns := [], harness := (true, "841358389163de761bc78d959c4fe369b1d2a57e2ef13fd8517d34a96b7e6707"), looks := false }, kinds := [], alts := [], laidByText := true, laidKinds := [.data, .data, .data, .data, .pinned], laidTests := true, laidLooks := .later }
def PathSplitsUptoCardSaid : Prop := Claim7.holds Tryd.pinned (.plain (OpenSpec.upto pathSplitsSpec)) pathSplitsUptoCard

/-- THE SECOND FORM's CARD OF 'bindlelaw06.PathBack'. -/
def pathBackUptoCard : Claim7 := { stood := { row := pathBackUptoRow, standIns := [], harness := (true, "841358389163de761bc78d959c4fe369b1d2a57e2ef13fd8517d34a96b7e6707"), looks := false }, kinds := [], alts := [], laidByText := true, laidKinds := [.data, .data, .data, .data, .pinned], laidTests := true, laidLooks := .later }
def PathBackUptoCardSaid : Prop := Claim7.holds Tryd.pinned (.plain (OpenSpec.upto pathBackSpec)) pathBackUptoCard
end Rows
end Go.Proofs.YtfilcbnobmnopaaDoor
