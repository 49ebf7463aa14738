/- Contracts of package draft: a draft as a list of keys and values. -/
import Derived.Test.YtiheoddlknbomaaKey
import Derived.Test.YtiheoddlknbomaaSl
import Derived.Handy
import Derived.Sort.Grow
import Derived.Deep.RegionHeld3
import Derived.Lib.Bytealg
import Derived.Lib.BytesEntry
set_option linter.all false
namespace Go.Proofs.Ytiheoddlknbomaa
open Go.RowKit
set_option linter.unusedVariables false
set_option linter.unusedSimpArgs false

def dl (l : List (K4 × V)) : List (K4 × Value) := l.map fun p => (p.1, p.2.v)
theorem dl_get (x : K4) (l : List (K4 × V)) : aget x (dl l) = (aget x l).map V.v := aget_map V.v x l
theorem dl_put (x : K4) (r : V) (l : List (K4 × V)) : aput x r.v (dl l) = dl (aput x r l) := aput_map V.v x r l
theorem dl_len (l : List (K4 × V)) : (dl l).length = l.length := by simp [dl]
def K4.bs (k : K4) : List UInt8 := [k.a, k.b, k.c, k.d]
def ordK (x y : K4) : Int := Lib.compareBytes x.bs y.bs
def V.right (v : V) : Bool := v.there || decide (v.n = 0)

--@@ end
end Go.Proofs.Ytiheoddlknbomaa
