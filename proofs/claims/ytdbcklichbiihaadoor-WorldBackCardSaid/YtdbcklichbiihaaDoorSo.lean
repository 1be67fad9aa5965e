/-
  Sets of names, by rising bytes. No program in sight.
-/
import Derived.Test.YtdbcklichbiihaaDoorPt
namespace Go.Sh
def putS (s : List UInt8) (ks : List (List UInt8)) : List (List UInt8) := if s ∈ ks then ks else ks ++ [s]
def addS : List (List UInt8) → List GTok → List (List UInt8)
  | ks, [] => ks
  | ks, t :: r => addS (if t.kind = 1 then putS t.text ks else ks) r
def sortS (ss : List (List UInt8)) : List (List UInt8) := ss.mergeSort fun x y => decide (x ≤ y)
end Go.Sh
