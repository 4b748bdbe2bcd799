/-
  DERIVED. GIVEN WITH THE SEED: THE CARDS: each row of YtofokmpdioblkaaGreatDoorRows.lean that lists a variable, with what it lists TIED to the program's text (the seventh form; the later family's looks); each row that meets fmt, with fmt's text TOLD by the authors' own Lean function (tested against real Go, not proved from fmt's source: count such statements apart). THE CARD IS WHAT COUNTS. Prove the row's statement (the work); the ties are given (YtofokmpdioblkaaGreatDoorTie.lean); close each card by the builder's one call (the guide's Derived/Test/ToyasCard.lean, 'card_holds'). Laid BY PROGRAM, IN A SANDBOX (cutbox-door.mjs). By AI agents, Wed Nov 11 2026. No macro, syntax, notation, axiom, sorry.
-/
import Derived.Test.YtofokmpdioblkaaGreatDoorRows
import GoSem.ClaimSeven
namespace Go.Proofs.YtofokmpdioblkaaGreatDoor
namespace Rows

/-- THE TIED CARD OF 'bindlelaw15.DiffNone'. -/
def diffNoneCard : Claim7 := { stood := { row := diffNoneRow, standIns := [], harness := (true, "344bca040a157cd3c96efe7519b6545aefc9dee1f6dab017720e0111594b36a6"), looks := false }, kinds := [], alts := [], laidByText := true, laidKinds := [.data, .data, .data, .data, .pinned], laidTests := true, laidLooks := .later }
def DiffNoneCardSaid : Prop := Claim7.holds Tryz.pinned (.plain (OpenSpec.ofChange diffNoneSpec)) diffNoneCard

/-- THE TIED CARD OF 'bindlelaw15.DiffScans'. -/
def diffScansCard : Claim7 := { stood := { row := diffScansRow, standIns := [], harness := (true, "344bca040a157cd3c96efe7519b6545aefc9dee1f6dab017720e0111594b36a6"), looks := false }, kinds := [], alts := [], laidByText := true, laidKinds := [.data, .data, .data, .data, .pinned], laidTests := true, laidLooks := .later }
def DiffScansCardSaid : Prop := Claim7.holds Tryz.pinned (.plain (OpenSpec.ofChange diffScansSpec)) diffScansCard

/-- THE TIED CARD OF 'bindlelaw15.DiffApplies'. -/
def diffAppliesCard : Claim7 := { stood := { row := diffAppliesRow, standIns := [], harness := (true, "344bca040a157cd3c96efe7519b6545aefc9dee1f6dab017720e0111594b36a6"), looks := false }, kinds := [], alts := [], laidByText := true, laidKinds := [.data, .data, .data, .data, .pinned], laidTests := true, laidLooks := .later }
def DiffAppliesCardSaid : Prop := Claim7.holds Tryz.pinned (.plain (OpenSpec.ofChange diffAppliesSpec)) diffAppliesCard

/-- THE TIED CARD OF 'bindlelaw15.DiffPuts'. -/
def diffPutsCard : Claim7 := { stood := { row := diffPutsRow, standIns := [], harness := (true, "344bca040a157cd3c96efe7519b6545aefc9dee1f6dab017720e0111594b36a6"), looks := false }, kinds := [], alts := [], laidByText := true, laidKinds := [.data, .data, .data, .data, .pinned], laidTests := true, laidLooks := .later }
def DiffPutsCardSaid : Prop := Claim7.holds Tryz.pinned (.plain (OpenSpec.ofChange diffPutsSpec)) diffPutsCard

/-- THE SECOND FORM's CARD OF 'bindlelaw15.DiffNone'. -/
def diffNoneUptoCard : Claim7 := { stood := { row := diffNoneUptoRow, standIns := [], harness := (true, "344bca040a157cd3c96efe7519b6545aefc9dee1f6dab017720e0111594b36a6"), looks := false }, kinds := [], alts := [], laidByText := true, laidKinds := [.data, .data, .data, .data, .pinned], laidTests := true, laidLooks := .later }
def DiffNoneUptoCardSaid : Prop := Claim7.holds Tryz.pinned (.plain (OpenSpec.upto diffNoneSpec)) diffNoneUptoCard

/-- THE SECOND FORM's CARD OF 'bindlelaw15.DiffScans'. -/
def diffScansUptoCard : Claim7 := { stood := { row := diffScansUptoRow, standIns := [], harness := (true, "344bca040a157cd3c96efe7519b6545aefc9dee1f6dab017720e0111594b36a6"), looks := false }, kinds := [], alts := [], laidByText := true, laidKinds := [.data, .data, .data, .data, .pinned], laidTests := true, laidLooks := .later }
def DiffScansUptoCardSaid : Prop := Claim7.holds Tryz.pinned (.plain (OpenSpec.upto diffScansSpec)) diffScansUptoCard

/-- THE SECOND FORM's CARD OF 'bindlelaw15.DiffApplies'. -/
def diffAppliesUptoCard : Claim7 := { stood := { row := diffAppliesUptoRow, standIns := [], harness := (true, "344bca040a157cd3c96efe7519b6545aefc9dee1f6dab017720e0111594b36a6"), looks := false }, kinds := [], alts := [], laidByText := true, laidKinds := [.data, .data, .data, .data, .pinned], laidTests := true, laidLooks := .later }
def DiffAppliesUptoCardSaid : Prop := Claim7.holds Tryz.pinned (.plain (OpenSpec.upto diffAppliesSpec)) diffAppliesUptoCard

/-- THE SECOND FORM's CARD OF 'bindlelaw15.DiffPuts'. -/
def diffPutsUptoCard : Claim7 := { stood := { row := diffPutsUptoRow, standIns := [], harness := (true, "344bca040a157cd3c96efe7519b6545aefc9dee1f6dab017720e0111594b36a6"), looks := false }, kinds := [], alts := [], laidByText := true, laidKinds := [.data, .data, .data, .data, .pinned], laidTests := true, laidLooks := .later }
def DiffPutsUptoCardSaid : Prop := Claim7.holds Tryz.pinned (.plain (OpenSpec.upto diffPutsSpec)) diffPutsUptoCard
end Rows
end Go.Proofs.YtofokmpdioblkaaGreatDoor
