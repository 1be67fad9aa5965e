/-
  Part of the proof of If.
-/
import Derived.Test.YtgmpeddopfnioaaGreatDoorQiTyzx
import Derived.Test.YtgmpeddopfnioaaGreatDoorChecked

set_option linter.unusedVariables false
set_option linter.unusedSimpArgs false
set_option maxRecDepth 20000
namespace Go.Proofs.YtgmpeddopfnioaaGreatDoor
open Go Go.Vc Go.Sh
attribute [local irreducible] WpC WpOps WpPi WpO Exact TCall VEnds Sh.loopS
abbrev pB (g : Nat) : AV := .lit (.pointer (some ⟨g, 0, none⟩))
theorem Bu.info : (Tryz.prog.info? 146).map (fun j => decide (j.size ≠ 0)) = some true := by kernel_rfl
end Go.Proofs.YtgmpeddopfnioaaGreatDoor
