/-
  Puts: for every input of at most 1048576 values and letters the call of DiffPuts returns true, and each argument reads as it read before.
  Conditions: those of the given statement alone (package-level variables of the library start as the program's text lays them).
-/
import Derived.Test.YtofokmpdioblkaaGreatDoorG33
namespace Go.Proofs.YtofokmpdioblkaaGreatDoor
open Go
theorem diff_puts_holds : Rows.DiffPutsUptoCardSaid := Go.AL.Path.puts_card
#print axioms diff_puts_holds
end Go.Proofs.YtofokmpdioblkaaGreatDoor
