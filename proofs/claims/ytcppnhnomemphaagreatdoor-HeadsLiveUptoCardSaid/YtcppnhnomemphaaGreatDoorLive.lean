/-
  Live: for every input of at most 1048576 values and letters the call of HeadsLive returns true, and each argument reads as it read before.
  Conditions: those of the given statement alone (package-level variables of the library start as the program's text lays them).
-/
import Derived.Test.YtcppnhnomemphaaGreatDoorG40
namespace Go.Proofs.YtcppnhnomemphaaGreatDoor
open Go
theorem heads_live_holds : Rows.HeadsLiveUptoCardSaid := Go.AL.Path.live_card
#print axioms heads_live_holds
end Go.Proofs.YtcppnhnomemphaaGreatDoor
