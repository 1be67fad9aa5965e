/-
  Proved: EditsTouched: which files edits touch is told once each, rising, for every input. Conditions: none but the statement itself.
-/
import Derived.Test.YtdflfbolaicliaaRows
import Derived.Test.YtdflfbolaicliaaLa
import Derived.Test.YtdflfbolaicliaaWb
import Derived.Test.YtdflfbolaicliaaK9
set_option linter.unusedVariables false
set_option linter.unusedSimpArgs false
set_option maxRecDepth 100000
namespace Go.Proofs.Ytdflfbolaicliaa
open Go Go.ChangeShapes Go.WideShapes Go.ChangeAt Go.RowKit Go.Vc Go.Sh
theorem editsTouched_lifted (os : Os) (started : os.Started) (H : Type) (enc : TypeId × Value → H) :
    ReturnsInHanded {} Try.checked os 8 .any (Rows.editsTouchedSpec.pre6 enc Try.prog Try.f8 Rows.editsTouchedRow.domain false) (Rows.editsTouchedSpec.post enc Try.prog Try.f8 false true false false) := by
  refine returnsInHanded_of_change_shaped (C := Try.checked) Try.own started (by kernel_rfl) Try.func8
    (ChangeSpec.witness6 (enc := enc) (C := Try.checked) false ⟨#[], #[.slice none 0 0], []⟩ 8 (by kernel_rfl) (by kernel_rfl) (by kernel_rfl) (by kernel_rfl)) ?_
  intro W base args ds gs before hval hW _ hsz hsh _
  refine law_postV (P := Try.prog) (n := 8) ⟨rfl, fun H ds h => ?_⟩ Try.laidOut (by kernel_rfl) (by kernel_rfl) (show Try.f8.resultTypes = #[4] by kernel_rfl) Try.underlying4 hval hW (H0 := Heap.empty) (fun g ⟨o, ho, _⟩ => by cases ho) (fun g o h => by cases h) fun xs hx hv => ?_
  · match ds, h with
    | [x0], _ => rfl
  · rw [Try.params8] at hx
    obtain ⟨es0, r, w0, rfl, hy0, h1⟩ := ArgsC.slice Try.underlying23 hx
    obtain ⟨a0, rfl, v0⟩ := GEdit_typed es0 hy0
    cases h1
    obtain ⟨p, q, hA, hV, _⟩ := hW
    have hgs : gs = [] := (trodVars_none hV).1
    subst hgs
    rw [List.append_nil] at hsz
    have hsz' : (DataW.weightsEach Try.prog Try.f8.params.toList ds).all (· ≤ reachBytes) = true := hsz
    rw [Try.params8] at hA hsz'
    have hlen := first_len hA Try.underlying23 hv (show Try.prog.bytesOf 34 = 40 by kernel_rfl) hsz'
    rw [List.length_map] at hlen
    unfold reachBytes at hlen
    exact (w_emendlaw20_EditsTouched (editsTouched_law a0 (by omega))).mono (fun v H h => h.1) (fun _ _ h => h)
theorem editsTouched_holds : Rows.EditsTouchedSaid :=
  OpenClaim.holds_of_wide 8 Try.f8 rfl rfl rfl rfl rfl rfl rfl ⟨rfl, rfl, rfl, rfl, rfl⟩ rfl rfl rfl rfl rfl (by kernel_rfl) Try.func8 (by kernel_rfl)
    (of_decide_eq_true (by kernel_rfl)) (by unfold Func.isWrapper; first | (rw [if_pos (by decide +kernel)]; kernel_rfl) | (rw [if_neg (by decide +kernel)]; exact ⟨rfl, rfl⟩))
    (fun os started H enc _ => editsTouched_lifted os started H enc)
end Go.Proofs.Ytdflfbolaicliaa
