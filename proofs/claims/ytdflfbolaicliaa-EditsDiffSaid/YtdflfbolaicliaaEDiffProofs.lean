/-
  Proved: EditsDiff: what Diff tells makes the second files of the first ones, for every input. Conditions: none but the statement itself.
-/
import Derived.Test.YtdflfbolaicliaaRows
import Derived.Test.YtdflfbolaicliaaLa
import Derived.Test.YtdflfbolaicliaaWb
import Derived.Test.YtdflfbolaicliaaK10
set_option linter.unusedVariables false
set_option linter.unusedSimpArgs false
set_option maxRecDepth 100000
namespace Go.Proofs.Ytdflfbolaicliaa
open Go Go.ChangeShapes Go.WideShapes Go.ChangeAt Go.RowKit Go.Vc Go.Sh
theorem editsDiff_lifted (os : Os) (started : os.Started) (H : Type) (enc : TypeId × Value → H) :
    ReturnsInHanded {} Try.checked os 9 .any (Rows.editsDiffSpec.pre6 enc Try.prog Try.f9 Rows.editsDiffRow.domain false) (Rows.editsDiffSpec.post enc Try.prog Try.f9 false true false false) := by
  refine returnsInHanded_of_change_shaped (C := Try.checked) Try.own started (by kernel_rfl) Try.func9
    (ChangeSpec.witness6 (enc := enc) (C := Try.checked) false ⟨#[], #[.slice none 0 0, .slice none 0 0], []⟩ 8 (by kernel_rfl) (by kernel_rfl) (by kernel_rfl) (by kernel_rfl)) ?_
  intro W base args ds gs before hval hW _ _ hsh _
  refine law_post (P := Try.prog) (n := 8) ⟨rfl, fun H ds h => ?_⟩ Try.laidOut (by kernel_rfl) (by kernel_rfl) (show Try.f9.resultTypes = #[4] by kernel_rfl) Try.underlying4 hval hW (H0 := Heap.empty) (fun g ⟨o, ho, _⟩ => by cases ho) (fun g o h => by cases h) fun xs hx => ?_
  · match ds, h with
    | [x0, x1], _ => rfl
  · rw [Try.params9] at hx
    obtain ⟨es0, r, w0, rfl, hy0, h1⟩ := ArgsC.slice Try.underlying22 hx
    obtain ⟨a0, rfl, v0⟩ := GFile_typed es0 hy0
    obtain ⟨es1, r, w1, rfl, hy1, h2⟩ := ArgsC.slice Try.underlying41 h1
    obtain ⟨a1, rfl, v1⟩ := strs_typed Try.underlying9 es1 hy1
    cases h2
    exact (w_emendlaw20_EditsDiff (editsDiff_law a0 a1)).mono (fun v H h => h.1) (fun _ _ h => h)
theorem editsDiff_holds : Rows.EditsDiffSaid :=
  OpenClaim.holds_of_wide 9 Try.f9 rfl rfl rfl rfl rfl rfl rfl ⟨rfl, rfl, rfl, rfl, rfl⟩ rfl rfl rfl rfl rfl (by kernel_rfl) Try.func9 (by kernel_rfl)
    (of_decide_eq_true (by kernel_rfl)) (by unfold Func.isWrapper; first | (rw [if_pos (by decide +kernel)]; kernel_rfl) | (rw [if_neg (by decide +kernel)]; exact ⟨rfl, rfl⟩))
    (fun os started H enc _ => editsDiff_lifted os started H enc)
end Go.Proofs.Ytdflfbolaicliaa
