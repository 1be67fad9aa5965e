/-
  Proved: SpliceSpreads: what comes of pairs that are put in, for every input. Conditions: none but the statement itself.
-/
import Derived.Test.YtogbccggnjidpaaRows
import Derived.Test.YtogbccggnjidpaaLa
import Derived.Test.YtogbccggnjidpaaW1
import Derived.Test.YtogbccggnjidpaaQ3
set_option linter.unusedVariables false
set_option linter.unusedSimpArgs false
namespace Go.Proofs.Ytogbccggnjidpaa
open Go Go.ChangeShapes Go.WideShapes Go.ChangeAt Go.RowKit Go.Vc Go.Sh
theorem spliceSpreads_lifted (os : Os) (started : os.Started) (H : Type) (enc : TypeId × Value → H) :
    ReturnsInHanded {} Try.checked os 5 .any (Rows.spliceSpreadsSpec.pre6 enc Try.prog Try.f5 Rows.spliceSpreadsRow.domain false) (Rows.spliceSpreadsSpec.post enc Try.prog Try.f5 false true false false) := by
  refine returnsInHanded_of_change_shaped (C := Try.checked) Try.own started (by kernel_rfl) Try.func5
    (ChangeSpec.witness6 (enc := enc) (C := Try.checked) false ⟨#[], #[.string ⟨#[]⟩, .slice none 0 0], []⟩ 8 (by kernel_rfl) (by kernel_rfl) (by kernel_rfl) (by kernel_rfl)) ?_
  intro W base args ds gs before hval hW _ _ hsh _
  obtain ⟨m, hm⟩ := Try.maxLen hsh
  refine law_post (P := Try.prog) (n := 8) ⟨rfl, fun H ds h => ?_⟩ Try.laidOut (by kernel_rfl) (by kernel_rfl) (show Try.f5.resultTypes = #[4] by kernel_rfl) Try.underlying4 hval hW (H0 := Heap.empty.set 0 (.ro [.int .i64 m])) ro_dom (ro_heap hm) fun xs hx => ?_
  · match ds, h with
    | [x0, x1], _ => rfl
  · rw [Try.params5] at hx
    obtain ⟨a0, r, w0, rfl, h1⟩ := ArgsC.string Try.underlying9 hx
    obtain ⟨es1, r, w1, rfl, hy1, h2⟩ := ArgsC.slice Try.underlying33 h1
    obtain ⟨a1, rfl, v1⟩ := ints_typed Try.underlying3 es1 hy1
    cases h2
    exact (w_emendlaw02_SpliceSpreads ⟨m, Heap.set_same _ _ _⟩ (spliceSpreads_law a0 a1)).mono (fun v H h => h.1) (fun _ _ h => h)
theorem spliceSpreads_holds : Rows.SpliceSpreadsSaid :=
  OpenClaim.holds_of_wide 5 Try.f5 rfl rfl rfl rfl rfl rfl rfl ⟨rfl, rfl, rfl, rfl, rfl⟩ rfl rfl rfl rfl rfl (by kernel_rfl) Try.func5 (by kernel_rfl)
    (of_decide_eq_true (by kernel_rfl)) (by unfold Func.isWrapper; first | (rw [if_pos (by decide +kernel)]; kernel_rfl) | (rw [if_neg (by decide +kernel)]; exact ⟨rfl, rfl⟩))
    (fun os started H enc _ => spliceSpreads_lifted os started H enc)
end Go.Proofs.Ytogbccggnjidpaa
