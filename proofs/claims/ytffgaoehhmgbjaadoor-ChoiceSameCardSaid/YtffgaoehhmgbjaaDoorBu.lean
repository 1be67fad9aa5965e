/-
  No builder here.
-/
import Derived.Test.YtffgaoehhmgbjaaDoorBl
import Derived.Test.YtffgaoehhmgbjaaDoorChecked
namespace Go.Proofs.YtffgaoehhmgbjaaDoor
open Go Go.Vc Go.Sh
abbrev pB (g : Nat) : AV := .lit (.pointer (some ⟨g, 0, none⟩))
end Go.Proofs.YtffgaoehhmgbjaaDoor
