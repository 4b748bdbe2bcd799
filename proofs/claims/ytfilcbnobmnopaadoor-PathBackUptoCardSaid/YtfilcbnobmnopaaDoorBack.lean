/-
  Back: for every input of at most 1048576 values and letters the call of PathBack returns true, and each argument reads as it read before.
  Conditions: those of the given statement alone (package-level variables of the library start as the program's text lays them).
-/
import Derived.Test.YtfilcbnobmnopaaDoorR8
namespace Go.Proofs.YtfilcbnobmnopaaDoor
open Go
theorem back_holds : Rows.PathBackUptoCardSaid := Go.AL.Path.back_card
#print axioms back_holds
end Go.Proofs.YtfilcbnobmnopaaDoor
