/- What is proved: the law emendtop.Names answers true, the numbers of package api being those of the document; condition: none. -/
import Derived.Test.YtkhgiieglpdejaaRows
import Derived.Test.YtkhgiieglpdejaaVo
import Derived.ProofKit
namespace Go.Proofs.Ytkhgiieglpdejaa
open Go.ChangeShapes Go.WideShapes Go.ChangeAt Go.RowKit Go.Vc
attribute [local irreducible] WpC WpOps WpPi WpO Exact TCall VEnds

theorem Try.own : ownKnob Try.prog.godebug = none := by kernel_rfl
theorem Try.laidOut : laidOutB Try.prog = true := by kernel_rfl

theorem names_call (H : Heap) : TCall Try.prog 9 [] H (fun v _ => v = .lit (.bool true)) noE := by
  refine TCall.body Try.func9 rfl rfl ?_
  refine WpC.seqR (WpOps.ps rfl trivial (WpOps.nil ?_))
  refine WpC.seqR (WpOps.ps rfl trivial (WpOps.nil ?_))
  refine WpC.seqR (WpOps.ps rfl trivial (WpOps.nil ?_))
  refine WpC.seqR (WpOps.ps rfl trivial (WpOps.nil ?_))
  refine WpC.seqR (WpOps.ps rfl trivial (WpOps.nil ?_))
  refine WpC.seqR (WpOps.ps rfl trivial (WpOps.nil ?_))
  refine WpC.ret ?_
  exact VEnds.ret1 rfl rfl rfl

theorem names_lifted (os : Os) (started : os.Started) (H : Type) (enc : TypeId × Value → H) :
    ReturnsInHanded {} Try.checked os 9 .any (Rows.namesSpec.pre6 enc Try.prog Try.f9 Rows.namesRow.domain false) (Rows.namesSpec.post enc Try.prog Try.f9 false true false false) := by
  refine returnsInHanded_of_change (C := Try.checked) Try.own started (by kernel_rfl) Try.func9
    (ChangeSpec.witness6 (enc := enc) (C := Try.checked) false ⟨#[], #[], []⟩ 8 (by kernel_rfl) (by kernel_rfl) (by kernel_rfl) (by kernel_rfl)) ?_
  intro W base args ds gs before hval hW _ _
  refine law_post (P := Try.prog) (n := 8) ⟨rfl, fun H ds h => ?_⟩ Try.laidOut (by kernel_rfl) (by kernel_rfl) (show Try.f9.resultTypes = #[4] by kernel_rfl) Try.underlying4 hval hW fun xs hx => ?_
  · cases ds with
    | nil => rfl
    | cons a b => cases h
  · obtain rfl : xs = [] := hx
    exact names_call _

theorem names_holds : Rows.NamesSaid :=
  OpenClaim.holds_of_wide 9 Try.f9 rfl rfl rfl rfl rfl rfl rfl ⟨rfl, rfl, rfl, rfl, rfl⟩ rfl rfl rfl rfl rfl (by kernel_rfl) Try.func9 (by kernel_rfl)
    (of_decide_eq_true (by kernel_rfl)) (by unfold Func.isWrapper; first | (rw [if_pos (by decide +kernel)]; kernel_rfl) | (rw [if_neg (by decide +kernel)]; exact ⟨rfl, rfl⟩))
    (fun os started H enc _ => names_lifted os started H enc)
end Go.Proofs.Ytkhgiieglpdejaa
