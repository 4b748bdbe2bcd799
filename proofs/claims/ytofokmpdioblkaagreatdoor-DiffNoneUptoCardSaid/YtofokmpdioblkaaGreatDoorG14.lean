/- An element put into a row. -/
import Derived.Test.YtofokmpdioblkaaGreatDoorG13
import Derived.Laws.IdiomCopy
set_option linter.unusedSimpArgs false
set_option linter.unusedVariables false
namespace Go.AL
open Go Go.RowKit
section
variable {P : Program} {G : Nat → Option (List AV)}
end
end Go.AL

/- What mentions few boxes mentions few. -/
namespace Go.AL
open Go
end Go.AL
