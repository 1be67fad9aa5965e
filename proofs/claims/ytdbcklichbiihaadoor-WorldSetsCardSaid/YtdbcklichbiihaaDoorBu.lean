/-
  No builder here.
-/
import Derived.Test.YtdbcklichbiihaaDoorBl
import Derived.Test.YtdbcklichbiihaaDoorChecked
namespace Go.Proofs.YtdbcklichbiihaaDoor
open Go Go.Vc Go.Sh
abbrev pB (g : Nat) : AV := .lit (.pointer (some ⟨g, 0, none⟩))
end Go.Proofs.YtdbcklichbiihaaDoor
