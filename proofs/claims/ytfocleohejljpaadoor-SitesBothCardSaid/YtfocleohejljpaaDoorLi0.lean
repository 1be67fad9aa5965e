/-
  What the library says, for plain functions.
-/
import Derived.Lib.Strings
import Derived.Lib.IndexMore
import Derived.Lib.Repeat
import Derived.Lib.Replace
