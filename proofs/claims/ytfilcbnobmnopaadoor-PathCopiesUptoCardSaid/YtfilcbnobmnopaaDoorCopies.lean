/-
  Copies: for every input of at most 1048576 values and letters the call of PathCopies returns true, and each argument reads as it read before.
  Conditions: those of the given statement alone (package-level variables of the library start as the program's text lays them).
-/
import Derived.Test.YtfilcbnobmnopaaDoorR11
namespace Go.Proofs.YtfilcbnobmnopaaDoor
open Go
theorem copies_holds : Rows.PathCopiesUptoCardSaid := Go.AL.Path.copies_card
#print axioms copies_holds
end Go.Proofs.YtfilcbnobmnopaaDoor
