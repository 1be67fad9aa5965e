/-
  What the library says, for plain functions.
-/
import Derived.Lib.Strings
import Derived.Lib.IndexMore
import Derived.Lib.Repeat
import Derived.Lib.Replace
import Derived.Test.YtdflfbolaicliaaSh
import Derived.Lib.Join

namespace Go.Sh
/-- what may be a panic -/
def orP {ε α β : Type} : Sum ε α → (ε → β) → (α → β) → β
  | .inl e, a, _ => a e
  | .inr x, _, b => b x
theorem orP_inl {ε α β : Type} {e : ε} {a : ε → Option β} {b : α → Option β} {r : β} (h : orP (.inl e) a b = some r) : a e = some r := h
theorem orP_inr {ε α β : Type} {x : α} {a : ε → Option β} {b : α → Option β} {r : β} (h : orP (.inr x) a b = some r) : b x = some r := h
end Go.Sh
