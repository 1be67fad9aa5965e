/-
  Proved: SpliceWhere: each byte stands where it is said to, for every input. Conditions: none but the statement itself.
-/
import Derived.Test.YtogbccggnjidpaaRows
import Derived.Test.YtogbccggnjidpaaLa
import Derived.Test.YtogbccggnjidpaaW1
import Derived.Test.YtogbccggnjidpaaQ2
set_option linter.unusedVariables false
set_option linter.unusedSimpArgs false
namespace Go.Proofs.Ytogbccggnjidpaa
open Go Go.ChangeShapes Go.WideShapes Go.ChangeAt Go.RowKit Go.Vc Go.Sh
theorem spliceWhere_lifted (os : Os) (started : os.Started) (H : Type) (enc : TypeId × Value → H) :
    ReturnsInHanded {} Try.checked os 7 .any (Rows.spliceWhereSpec.pre6 enc Try.prog Try.f7 Rows.spliceWhereRow.domain false) (Rows.spliceWhereSpec.post enc Try.prog Try.f7 false true false false) := by
  refine returnsInHanded_of_change_shaped (C := Try.checked) Try.own started (by kernel_rfl) Try.func7
    (ChangeSpec.witness6 (enc := enc) (C := Try.checked) false ⟨#[], #[.string ⟨#[]⟩, .int .i64 0, .int .i64 0], []⟩ 8 (by kernel_rfl) (by kernel_rfl) (by kernel_rfl) (by kernel_rfl)) ?_
  intro W base args ds gs before hval hW _ _ hsh _
  obtain ⟨m, hm⟩ := Try.maxLen hsh
  refine law_post (P := Try.prog) (n := 8) ⟨rfl, fun H ds h => ?_⟩ Try.laidOut (by kernel_rfl) (by kernel_rfl) (show Try.f7.resultTypes = #[4] by kernel_rfl) Try.underlying4 hval hW (H0 := Heap.empty.set 0 (.ro [.int .i64 m])) ro_dom (ro_heap hm) fun xs hx => ?_
  · match ds, h with
    | [x0, x1, x2], _ => rfl
  · rw [Try.params7] at hx
    obtain ⟨a0, r, w0, rfl, h1⟩ := ArgsC.string Try.underlying9 hx
    obtain ⟨a1, r, w1, rfl, h2⟩ := ArgsC.int Try.underlying3 h1
    obtain ⟨a2, r, w2, rfl, h3⟩ := ArgsC.int Try.underlying3 h2
    cases h3
    exact (w_emendlaw02_SpliceWhere ⟨m, Heap.set_same _ _ _⟩ (spliceWhere_law a0 a1 a2)).mono (fun v H h => h.1) (fun _ _ h => h)
theorem spliceWhere_holds : Rows.SpliceWhereSaid :=
  OpenClaim.holds_of_wide 7 Try.f7 rfl rfl rfl rfl rfl rfl rfl ⟨rfl, rfl, rfl, rfl, rfl⟩ rfl rfl rfl rfl rfl (by kernel_rfl) Try.func7 (by kernel_rfl)
    (of_decide_eq_true (by kernel_rfl)) (by unfold Func.isWrapper; first | (rw [if_pos (by decide +kernel)]; kernel_rfl) | (rw [if_neg (by decide +kernel)]; exact ⟨rfl, rfl⟩))
    (fun os started H enc _ => spliceWhere_lifted os started H enc)
end Go.Proofs.Ytogbccggnjidpaa
