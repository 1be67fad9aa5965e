/-
  Plain structures: what the program's structs hold. No program in sight.
-/
import Derived.Test.YtffgaoehhmgbjaaDoorSh
namespace Go.Sh
structure GTok where
  kind : Int
  text : List UInt8
  file_ : Int
  from_ : Int
  to : Int
  blank : Bool
  deriving DecidableEq
structure GChoice_CTok where
  t : GTok
  cond : Int
  deriving DecidableEq
structure GBdd_decision where
  name : Int
  off : Int
  on : Int
  deriving DecidableEq
structure GPptok_reader where
  s : List UInt8
  at_ : Int
  deriving DecidableEq
structure GChar where
  b : UInt8
  at_ : Int
  deriving DecidableEq
structure GBdd_pair where
  n : Int
  m : Int
  deriving DecidableEq
end Go.Sh
