/- slices.Insert at files: three roads. -/
import Derived.Test.YtofokmpdioblkaaGreatDoorG14
import Derived.Test.YtofokmpdioblkaaGreatDoorG23
import Derived.Test.YtofokmpdioblkaaGreatDoorG24
import Derived.Lib.JoinLaws
import Derived.Lib.AppendZeros
import Derived.Lib.AppendZerosOnto
import Derived.Lib.Overlaps
import Derived.Laws.Externs
import Derived.Laws.IdiomCopy
import Derived.Laws.NewBlocks
set_option linter.unusedSimpArgs false
set_option linter.unusedVariables false
set_option maxRecDepth 100000
namespace Go.AL.Path
open Go Go.RowKit Go.Proofs Go.AL Go.Lib Go.Shelf
end Go.AL.Path
