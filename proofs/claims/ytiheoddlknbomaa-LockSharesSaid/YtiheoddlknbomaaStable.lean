/- The library's stable sort of pairs: exchanges of two stretches, rotation, merging in place. -/
import Derived.Test.YtiheoddlknbomaaPairs
import Derived.Test.YtiheoddlknbomaaSym
import Derived.Shelf.SlSortCmp.KitK
import Derived.Sort.WalkB2
import Derived.Sort.WalkB12
import Derived.Deep.LoopGhost
import Derived.Shelf.RegionOpenPlain
set_option linter.all false
namespace Go.Proofs.Ytiheoddlknbomaa
open Go.RowKit Go.Shelf Go.Lib Go.Sort Go.Proofs
set_option linter.unusedVariables false
set_option linter.unusedSimpArgs false

--@@ end
end Go.Proofs.Ytiheoddlknbomaa
