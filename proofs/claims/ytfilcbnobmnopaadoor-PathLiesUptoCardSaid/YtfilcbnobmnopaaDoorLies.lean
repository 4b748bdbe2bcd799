/-
  Lies: for every input of at most 1048576 values and letters the call of PathLies returns true, and each argument reads as it read before.
  Conditions: those of the given statement alone (package-level variables of the library start as the program's text lays them).
-/
import Derived.Test.YtfilcbnobmnopaaDoorR5
namespace Go.Proofs.YtfilcbnobmnopaaDoor
open Go
theorem lies_holds : Rows.PathLiesUptoCardSaid := Go.AL.Path.lies_card
#print axioms lies_holds
end Go.Proofs.YtfilcbnobmnopaaDoor
