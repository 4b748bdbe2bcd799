/-
  Order: for every input of at most 1048576 values and letters the call of HeadsOrder returns true, and each argument reads as it read before.
  Conditions: those of the given statement alone (package-level variables of the library start as the program's text lays them).
-/
import Derived.Test.YtcppnhnomemphaaGreatDoorG41
namespace Go.Proofs.YtcppnhnomemphaaGreatDoor
open Go
theorem heads_order_holds : Rows.HeadsOrderUptoCardSaid := Go.AL.Path.order_card
#print axioms heads_order_holds
end Go.Proofs.YtcppnhnomemphaaGreatDoor
