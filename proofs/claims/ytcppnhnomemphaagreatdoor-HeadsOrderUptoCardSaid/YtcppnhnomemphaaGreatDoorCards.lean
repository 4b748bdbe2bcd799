/-
  DERIVED. GIVEN WITH THE SEED: THE CARDS: each row of YtcppnhnomemphaaGreatDoorRows.lean that lists a variable, with what it lists TIED to the program's text (the seventh form; the later family's looks); each row that meets fmt, with fmt's text TOLD by the authors' own Lean function (tested against real Go, not proved from fmt's source: count such statements apart). THE CARD IS WHAT COUNTS. Prove the row's statement (the work); the ties are given (YtcppnhnomemphaaGreatDoorTie.lean); close each card by the builder's one call (the guide's Derived/Test/ToyasCard.lean, 'card_holds'). Laid BY PROGRAM, IN A SANDBOX (cutbox-door.mjs). By AI agents, Wed Nov 11 2026. No macro, syntax, notation, axiom, sorry.
-/
import Derived.Test.YtcppnhnomemphaaGreatDoorRows
import GoSem.ClaimSeven
namespace Go.Proofs.YtcppnhnomemphaaGreatDoor
namespace Rows

/-- THE TIED CARD OF 'bindlelaw13.HeadsLive'. -/
def headsLiveCard : Claim7 := { stood := { row := headsLiveRow, standIns := [], harness := (true, "b09a98a0248e49351b20e77a842b44bc8fb5018a343a79c6f811d4e1b7b94cc8"), looks := false }, kinds := [], alts := [], laidByText := true, laidKinds := [.data, .data, .data, .data, .pinned], laidTests := true, laidLooks := .later }
def HeadsLiveCardSaid : Prop := Claim7.holds Tryz.pinned (.plain (OpenSpec.ofChange headsLiveSpec)) headsLiveCard

/-- THE TIED CARD OF 'bindlelaw13.HeadsDrops'. -/
def headsDropsCard : Claim7 := { stood := { row := headsDropsRow, standIns := [], harness := (true, "b09a98a0248e49351b20e77a842b44bc8fb5018a343a79c6f811d4e1b7b94cc8"), looks := false }, kinds := [], alts := [], laidByText := true, laidKinds := [.data, .data, .data, .data, .pinned], laidTests := true, laidLooks := .later }
def HeadsDropsCardSaid : Prop := Claim7.holds Tryz.pinned (.plain (OpenSpec.ofChange headsDropsSpec)) headsDropsCard

/-- THE TIED CARD OF 'bindlelaw13.HeadsAdd'. -/
def headsAddCard : Claim7 := { stood := { row := headsAddRow, standIns := [], harness := (true, "b09a98a0248e49351b20e77a842b44bc8fb5018a343a79c6f811d4e1b7b94cc8"), looks := false }, kinds := [], alts := [], laidByText := true, laidKinds := [.data, .data, .data, .data, .pinned], laidTests := true, laidLooks := .later }
def HeadsAddCardSaid : Prop := Claim7.holds Tryz.pinned (.plain (OpenSpec.ofChange headsAddSpec)) headsAddCard

/-- THE TIED CARD OF 'bindlelaw13.HeadsOrder'. -/
def headsOrderCard : Claim7 := { stood := { row := headsOrderRow, standIns := [], harness := (true, "b09a98a0248e49351b20e77a842b44bc8fb5018a343a79c6f811d4e1b7b94cc8"), looks := false }, kinds := [], alts := [], laidByText := true, laidKinds := [.data, .data, .data, .data, .pinned], laidTests := true, laidLooks := .later }
def HeadsOrderCardSaid : Prop := Claim7.holds Tryz.pinned (.plain (OpenSpec.ofChange headsOrderSpec)) headsOrderCard

/-- THE TIED CARD OF 'bindlelaw13.HeadsParts'. -/
def headsPartsCard : Claim7 := { stood := { row := headsPartsRow, standIns := [], harness := (true, "b09a98a0248e49351b20e77a842b44bc8fb5018a343a79c6f811d4e1b7b94cc8"), looks := false }, kinds := [], alts := [], laidByText := true, laidKinds := [.data, .data, .data, .data, .pinned], laidTests := true, laidLooks := .later }
def HeadsPartsCardSaid : Prop := Claim7.holds Tryz.pinned (.plain (OpenSpec.ofChange headsPartsSpec)) headsPartsCard

/-- THE SECOND FORM's CARD OF 'bindlelaw13.HeadsLive'. -/
def headsLiveUptoCard : Claim7 := { stood := { row := headsLiveUptoRow, standIns := [], harness := (true, "b09a98a0248e49351b20e77a842b44bc8fb5018a343a79c6f811d4e1b7b94cc8"), looks := false }, kinds := [], alts := [], laidByText := true, laidKinds := [.data, .data, .data, .data, .pinned], laidTests := true, laidLooks := .later }
def HeadsLiveUptoCardSaid : Prop := Claim7.holds Tryz.pinned (.plain (OpenSpec.upto headsLiveSpec)) headsLiveUptoCard

/-- THE SECOND FORM's CARD OF 'bindlelaw13.HeadsDrops'. -/
def headsDropsUptoCard : Claim7 := { stood := { row := headsDropsUptoRow, standIns := [], harness := (true, "b09a98a0248e49351b20e77a842b44bc8fb5018a343a79c6f811d4e1b7b94cc8"), looks := false }, kinds := [], alts := [], laidByText := true, laidKinds := [.data, .data, .data, .data, .pinned], laidTests := true, laidLooks := .later }
def HeadsDropsUptoCardSaid : Prop := Claim7.holds Tryz.pinned (.plain (OpenSpec.upto headsDropsSpec)) headsDropsUptoCard

/-- THE SECOND FORM's CARD OF 'bindlelaw13.HeadsAdd'. -/
def headsAddUptoCard : Claim7 := { stood := { row := headsAddUptoRow, standIns := [], harness := (true, "b09a98a0248e49351b20e77a842b44bc8fb5018a343a79c6f811d4e1b7b94cc8"), looks := false }, kinds := [], alts := [], laidByText := true, laidKinds := [.data, .data, .data, .data, .pinned], laidTests := true, laidLooks := .later }
def HeadsAddUptoCardSaid : Prop := Claim7.holds Tryz.pinned (.plain (OpenSpec.upto headsAddSpec)) headsAddUptoCard

/-- THE SECOND FORM's CARD OF 'bindlelaw13.HeadsOrder'. -/
def headsOrderUptoCard : Claim7 := { stood := { row := headsOrderUptoRow, standIns := [], harness := (true, "b09a98a0248e49351b20e77a842b44bc8fb5018a343a79c6f811d4e1b7b94cc8"), looks := false }, kinds := [], alts := [], laidByText := true, laidKinds := [.data, .data, .data, .data, .pinned], laidTests := true, laidLooks := .later }
def HeadsOrderUptoCardSaid : Prop := Claim7.holds Tryz.pinned (.plain (OpenSpec.upto headsOrderSpec)) headsOrderUptoCard

/-- THE SECOND FORM's CARD OF 'bindlelaw13.HeadsParts'. -/
def headsPartsUptoCard : Claim7 := { stood := { row := headsPartsUptoRow, standIns := [], harness := (true, "b09a98a0248e49351b20e77a842b44bc8fb5018a343a79c6f811d4e1b7b94cc8"), looks := false }, kinds := [], alts := [], laidByText := true, laidKinds := [.data, .data, .data, .data, .pinned], laidTests := true, laidLooks := .later }
def HeadsPartsUptoCardSaid : Prop := Claim7.holds Tryz.pinned (.plain (OpenSpec.upto headsPartsSpec)) headsPartsUptoCard
end Rows
end Go.Proofs.YtcppnhnomemphaaGreatDoor
