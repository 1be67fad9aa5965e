/-
  Plain structures: what the program's structs hold. No program in sight.
-/
import Derived.Test.YtdflfbolaicliaaSh
namespace Go.Sh
structure GEdit where
  file_ : Int
  from_ : Int
  to : Int
  text : List UInt8
  deriving DecidableEq
structure GFile where
  path : List UInt8
  text : List UInt8
  deriving DecidableEq
end Go.Sh
