/-
  Add: for every input of at most 1048576 values and letters the call of HeadsAdd returns true, and each argument reads as it read before.
  Conditions: those of the given statement alone (package-level variables of the library start as the program's text lays them).
-/
import Derived.Test.YtcppnhnomemphaaGreatDoorG35
namespace Go.Proofs.YtcppnhnomemphaaGreatDoor
open Go
theorem heads_add_holds : Rows.HeadsAddUptoCardSaid := Go.AL.Path.add_card
#print axioms heads_add_holds
end Go.Proofs.YtcppnhnomemphaaGreatDoor
