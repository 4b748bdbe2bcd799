/-
  None: for every input of at most 1048576 values and letters the call of DiffNone returns true, and each argument reads as it read before.
  Conditions: those of the given statement alone (package-level variables of the library start as the program's text lays them).
-/
import Derived.Test.YtofokmpdioblkaaGreatDoorG37
namespace Go.Proofs.YtofokmpdioblkaaGreatDoor
open Go
theorem diff_none_holds : Rows.DiffNoneUptoCardSaid := Go.AL.Path.none_card
#print axioms diff_none_holds
end Go.Proofs.YtofokmpdioblkaaGreatDoor
