/-
  Parents: for every input of at most 1048576 values and letters the call of PathParents returns true, and each argument reads as it read before.
  Conditions: those of the given statement alone (package-level variables of the library start as the program's text lays them).
-/
import Derived.Test.YtfilcbnobmnopaaDoorR10
namespace Go.Proofs.YtfilcbnobmnopaaDoor
open Go
theorem parents_holds : Rows.PathParentsUptoCardSaid := Go.AL.Path.parents_card
#print axioms parents_holds
end Go.Proofs.YtfilcbnobmnopaaDoor
