/-
  Proved: SpliceBack: what was spread out is joined again, for every input. Conditions: none but the statement itself.
-/
import Derived.Test.YtogbccggnjidpaaRows
import Derived.Test.YtogbccggnjidpaaLa
import Derived.Test.YtogbccggnjidpaaW1
import Derived.Test.YtogbccggnjidpaaQ3
set_option linter.unusedVariables false
set_option linter.unusedSimpArgs false
namespace Go.Proofs.Ytogbccggnjidpaa
open Go Go.ChangeShapes Go.WideShapes Go.ChangeAt Go.RowKit Go.Vc Go.Sh
theorem spliceBack_lifted (os : Os) (started : os.Started) (H : Type) (enc : TypeId × Value → H) :
    ReturnsInHanded {} Try.checked os 6 .any (Rows.spliceBackSpec.pre6 enc Try.prog Try.f6 Rows.spliceBackRow.domain false) (Rows.spliceBackSpec.post enc Try.prog Try.f6 false true false false) := by
  refine returnsInHanded_of_change_shaped (C := Try.checked) Try.own started (by kernel_rfl) Try.func6
    (ChangeSpec.witness6 (enc := enc) (C := Try.checked) false ⟨#[], #[.string ⟨#[]⟩, .slice none 0 0], []⟩ 8 (by kernel_rfl) (by kernel_rfl) (by kernel_rfl) (by kernel_rfl)) ?_
  intro W base args ds gs before hval hW _ _ hsh _
  obtain ⟨m, hm⟩ := Try.maxLen hsh
  refine law_post (P := Try.prog) (n := 8) ⟨rfl, fun H ds h => ?_⟩ Try.laidOut (by kernel_rfl) (by kernel_rfl) (show Try.f6.resultTypes = #[4] by kernel_rfl) Try.underlying4 hval hW (H0 := Heap.empty.set 0 (.ro [.int .i64 m])) ro_dom (ro_heap hm) fun xs hx => ?_
  · match ds, h with
    | [x0, x1], _ => rfl
  · rw [Try.params6] at hx
    obtain ⟨a0, r, w0, rfl, h1⟩ := ArgsC.string Try.underlying9 hx
    obtain ⟨es1, r, w1, rfl, hy1, h2⟩ := ArgsC.slice Try.underlying33 h1
    obtain ⟨a1, rfl, v1⟩ := ints_typed Try.underlying3 es1 hy1
    cases h2
    exact (w_emendlaw02_SpliceBack ⟨m, Heap.set_same _ _ _⟩ (spliceBack_law a0 a1)).mono (fun v H h => h.1) (fun _ _ h => h)
theorem spliceBack_holds : Rows.SpliceBackSaid :=
  OpenClaim.holds_of_wide 6 Try.f6 rfl rfl rfl rfl rfl rfl rfl ⟨rfl, rfl, rfl, rfl, rfl⟩ rfl rfl rfl rfl rfl (by kernel_rfl) Try.func6 (by kernel_rfl)
    (of_decide_eq_true (by kernel_rfl)) (by unfold Func.isWrapper; first | (rw [if_pos (by decide +kernel)]; kernel_rfl) | (rw [if_neg (by decide +kernel)]; exact ⟨rfl, rfl⟩))
    (fun os started H enc _ => spliceBack_lifted os started H enc)
end Go.Proofs.Ytogbccggnjidpaa
