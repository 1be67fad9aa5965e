/-
  Plain structures: what the program's structs hold. No program in sight.
-/
import Derived.Test.YtghnfeflknfclaaDoorSh
namespace Go.Sh
structure GTok where
  kind : Int
  text : List UInt8
  file_ : Int
  from_ : Int
  to : Int
  blank : Bool
  deriving DecidableEq
structure GLine where
  kind : Int
  first : Int
  n : Int
  toks : List GTok
  deriving DecidableEq
structure GMacro where
  name : List UInt8
  func : Bool
  params : List (List UInt8)
  variadic : Bool
  body : List GTok
  deriving DecidableEq
structure GPptok_reader where
  s : List UInt8
  at_ : Int
  deriving DecidableEq
structure GChar where
  b : UInt8
  at_ : Int
  deriving DecidableEq
structure GMacro_wrong where
  e : Int
  deriving DecidableEq
structure GMacro_reader where
  l : List GTok
  deriving DecidableEq
end Go.Sh
