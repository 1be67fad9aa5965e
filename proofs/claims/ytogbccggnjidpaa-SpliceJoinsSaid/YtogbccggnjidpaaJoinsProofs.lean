/-
  Proved: SpliceJoins: what is left of any text, and how many pairs there are, for every input. Conditions: none but the statement itself.
-/
import Derived.Test.YtogbccggnjidpaaRows
import Derived.Test.YtogbccggnjidpaaLa
import Derived.Test.YtogbccggnjidpaaW1
import Derived.Test.YtogbccggnjidpaaQ1
set_option linter.unusedVariables false
set_option linter.unusedSimpArgs false
namespace Go.Proofs.Ytogbccggnjidpaa
open Go Go.ChangeShapes Go.WideShapes Go.ChangeAt Go.RowKit Go.Vc Go.Sh
theorem spliceJoins_lifted (os : Os) (started : os.Started) (H : Type) (enc : TypeId × Value → H) :
    ReturnsInHanded {} Try.checked os 3 .any (Rows.spliceJoinsSpec.pre6 enc Try.prog Try.f3 Rows.spliceJoinsRow.domain false) (Rows.spliceJoinsSpec.post enc Try.prog Try.f3 false true false false) := by
  refine returnsInHanded_of_change_shaped (C := Try.checked) Try.own started (by kernel_rfl) Try.func3
    (ChangeSpec.witness6 (enc := enc) (C := Try.checked) false ⟨#[], #[.string ⟨#[]⟩], []⟩ 8 (by kernel_rfl) (by kernel_rfl) (by kernel_rfl) (by kernel_rfl)) ?_
  intro W base args ds gs before hval hW _ _ hsh _
  obtain ⟨m, hm⟩ := Try.maxLen hsh
  refine law_post (P := Try.prog) (n := 8) ⟨rfl, fun H ds h => ?_⟩ Try.laidOut (by kernel_rfl) (by kernel_rfl) (show Try.f3.resultTypes = #[4] by kernel_rfl) Try.underlying4 hval hW (H0 := Heap.empty.set 0 (.ro [.int .i64 m])) ro_dom (ro_heap hm) fun xs hx => ?_
  · match ds, h with
    | [x0], _ => rfl
  · rw [Try.params3] at hx
    obtain ⟨a0, r, w0, rfl, h1⟩ := ArgsC.string Try.underlying9 hx
    cases h1
    exact (w_emendlaw02_SpliceJoins ⟨m, Heap.set_same _ _ _⟩ (spliceJoins_law a0)).mono (fun v H h => h.1) (fun _ _ h => h)
theorem spliceJoins_holds : Rows.SpliceJoinsSaid :=
  OpenClaim.holds_of_wide 3 Try.f3 rfl rfl rfl rfl rfl rfl rfl ⟨rfl, rfl, rfl, rfl, rfl⟩ rfl rfl rfl rfl rfl (by kernel_rfl) Try.func3 (by kernel_rfl)
    (of_decide_eq_true (by kernel_rfl)) (by unfold Func.isWrapper; first | (rw [if_pos (by decide +kernel)]; kernel_rfl) | (rw [if_neg (by decide +kernel)]; exact ⟨rfl, rfl⟩))
    (fun os started H enc _ => spliceJoins_lifted os started H enc)
end Go.Proofs.Ytogbccggnjidpaa
