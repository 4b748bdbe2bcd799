/-
  Scans: for every input of at most 1048576 values and letters the call of DiffScans returns true, and each argument reads as it read before.
  Conditions: those of the given statement alone (package-level variables of the library start as the program's text lays them).
-/
import Derived.Test.YtofokmpdioblkaaGreatDoorG38
namespace Go.Proofs.YtofokmpdioblkaaGreatDoor
open Go
theorem diff_scans_holds : Rows.DiffScansUptoCardSaid := Go.AL.Path.scans_card
#print axioms diff_scans_holds
end Go.Proofs.YtofokmpdioblkaaGreatDoor
