/-
  Parts: for every input of at most 1048576 values and letters the call of HeadsParts returns true, and each argument reads as it read before.
  Conditions: those of the given statement alone (package-level variables of the library start as the program's text lays them).
-/
import Derived.Test.YtcppnhnomemphaaGreatDoorG42
namespace Go.Proofs.YtcppnhnomemphaaGreatDoor
open Go
theorem heads_parts_holds : Rows.HeadsPartsUptoCardSaid := Go.AL.Path.parts_card
#print axioms heads_parts_holds
end Go.Proofs.YtcppnhnomemphaaGreatDoor
