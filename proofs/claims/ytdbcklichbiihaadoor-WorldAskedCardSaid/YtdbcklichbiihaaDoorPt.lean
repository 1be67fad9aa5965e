/-
  Plain structures: what the program's structs hold. No program in sight.
-/
import Derived.Test.YtdbcklichbiihaaDoorSh
namespace Go.Sh
structure GFile where
  path : List UInt8
  text : List UInt8
  deriving DecidableEq
structure GTok where
  kind : Int
  text : List UInt8
  file_ : Int
  from_ : Int
  to : Int
  blank : Bool
  deriving DecidableEq
structure GLine where
  kind : Int
  first : Int
  n : Int
  toks : List GTok
  deriving DecidableEq
structure GPptok_reader where
  s : List UInt8
  at_ : Int
  deriving DecidableEq
structure GChar where
  b : UInt8
  at_ : Int
  deriving DecidableEq
end Go.Sh
