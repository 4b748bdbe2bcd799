/-
  Drops: for every input of at most 1048576 values and letters the call of HeadsDrops returns true, and each argument reads as it read before.
  Conditions: those of the given statement alone (package-level variables of the library start as the program's text lays them).
-/
import Derived.Test.YtcppnhnomemphaaGreatDoorG43
namespace Go.Proofs.YtcppnhnomemphaaGreatDoor
open Go
theorem heads_drops_holds : Rows.HeadsDropsUptoCardSaid := Go.AL.Path.drops_card
#print axioms heads_drops_holds
end Go.Proofs.YtcppnhnomemphaaGreatDoor
