/-
  Plain structures: what the program's structs hold. No program in sight.
-/
import Derived.Test.YtogbccggnjidpaaDoorSh
namespace Go.Sh
structure GChar where
  b : UInt8
  at_ : Int
  deriving DecidableEq
structure GTok where
  kind : Int
  text : List UInt8
  file_ : Int
  from_ : Int
  to : Int
  blank : Bool
  deriving DecidableEq
structure GPptok_reader where
  s : List UInt8
  at_ : Int
  deriving DecidableEq
end Go.Sh
