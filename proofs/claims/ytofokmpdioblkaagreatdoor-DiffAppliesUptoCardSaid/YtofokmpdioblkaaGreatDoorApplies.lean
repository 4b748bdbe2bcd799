/-
  Applies: for every input of at most 1048576 values and letters the call of DiffApplies returns true, and each argument reads as it read before.
  Conditions: those of the given statement alone (package-level variables of the library start as the program's text lays them).
-/
import Derived.Test.YtofokmpdioblkaaGreatDoorG32
namespace Go.Proofs.YtofokmpdioblkaaGreatDoor
open Go
theorem diff_applies_holds : Rows.DiffAppliesUptoCardSaid := Go.AL.Path.applies_card
#print axioms diff_applies_holds
end Go.Proofs.YtofokmpdioblkaaGreatDoor
