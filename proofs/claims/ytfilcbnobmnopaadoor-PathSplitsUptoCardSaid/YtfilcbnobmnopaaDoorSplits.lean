/-
  Splits: for every input of at most 1048576 values and letters the call of PathSplits returns true, and each argument reads as it read before.
  Conditions: those of the given statement alone (package-level variables of the library start as the program's text lays them).
-/
import Derived.Test.YtfilcbnobmnopaaDoorR7
namespace Go.Proofs.YtfilcbnobmnopaaDoor
open Go
theorem splits_holds : Rows.PathSplitsUptoCardSaid := Go.AL.Path.splits_card
#print axioms splits_holds
end Go.Proofs.YtfilcbnobmnopaaDoor
