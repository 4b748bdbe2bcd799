/-
  Below: for every input of at most 1048576 values and letters the call of PathBelow returns true, and each argument reads as it read before.
  Conditions: those of the given statement alone (package-level variables of the library start as the program's text lays them).
-/
import Derived.Test.YtfilcbnobmnopaaDoorR9
namespace Go.Proofs.YtfilcbnobmnopaaDoor
open Go
theorem below_holds : Rows.PathBelowUptoCardSaid := Go.AL.Path.below_card
#print axioms below_holds
end Go.Proofs.YtfilcbnobmnopaaDoor
