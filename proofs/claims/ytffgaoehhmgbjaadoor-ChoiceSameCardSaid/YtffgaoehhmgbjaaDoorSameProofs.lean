/-
  Proved: ChoiceSame: of lists that are all the same comes that one; lists are merged just if there is one for each set, for every input. Conditions: none but the statement itself (the listed tables as the card ties them).
-/
import Derived.Test.YtffgaoehhmgbjaaDoorLa
import Derived.Test.YtffgaoehhmgbjaaDoorWb
import Derived.Test.YtffgaoehhmgbjaaDoorM7
set_option linter.unusedVariables false
set_option linter.unusedSimpArgs false
set_option maxRecDepth 100000
namespace Go.Proofs.YtffgaoehhmgbjaaDoor
open Go Go.ChangeShapes Go.WideShapes Go.ChangeAt Go.RowKit Go.Vc Go.Sh
theorem choiceSame_lifted (os : Os) (started : os.Started) (H : Type) (enc : TypeId × Value → H) :
    ReturnsInHanded {} Tryd.checked os 4 .any (fun w args => (Rows.choiceSameSpec.pre enc Tryd.prog Tryd.f4 [] false w args ∧ laidMetH Tryd.prog laidAll w) ∧ sizedMet enc Tryd.prog Tryd.f4 (OpenSpec.ofChange Rows.choiceSameSpec) false w args) (Rows.choiceSameSpec.post enc Tryd.prog Tryd.f4 false true false false) := by
  refine returnsInHanded_laid_shaped (C := Tryd.checked) (X := fun w _ => laidMetH Tryd.prog laidAll w) (fun _ _ _ hh h => h.of_heap hh) Tryd.own started (by kernel_rfl) Tryd.func4
    (ChangeSpec.witness_shaped (enc := enc) (C := Tryd.checked) (os := os) (X := fun w _ => laidMetH Tryd.prog laidAll w) false (World.doorLaid Tryd.prog 14 os) #[.int .i64 0, .string ⟨#[]⟩, .int .i64 0] 8 rfl (World.shaped_of_RefB (by kernel_rfl) (by kernel_rfl)) (by kernel_rfl) (by kernel_rfl) (by kernel_rfl) (door_met os _)) ?_
  intro W base args ds gs before hval hW hL hsh
  obtain ⟨m, hm⟩ := Tryd.maxLen hsh
  refine law_post (P := Tryd.prog) (n := 8) ⟨rfl, fun H ds h => ?_⟩ Tryd.laidOut (by kernel_rfl) (by kernel_rfl) (show Tryd.f4.resultTypes = #[4] by kernel_rfl) Tryd.underlying4 hval hW (H0 := H0 m) (H0_dom m) (H0_heap hL hm) fun xs hx => ?_
  · match ds, h with
    | [x0, x1, x2], _ => rfl
  · rw [Tryd.params4] at hx
    obtain ⟨a0, r, w0, rfl, h1⟩ := ArgsC.int Tryd.underlying3 hx
    obtain ⟨a1, r, w1, rfl, h2⟩ := ArgsC.string Tryd.underlying9 h1
    obtain ⟨a2, r, w2, rfl, h3⟩ := ArgsC.int Tryd.underlying3 h2
    cases h3
    exact (w_emendlaw13_ChoiceSame (H0_glob m) (choiceSame_law a0 a1 a2)).mono (fun v H h => h.1) (fun _ _ h => h)
theorem choiceSame_row : Rows.ChoiceSameSaid :=
  OpenClaim.holds_of_wide 4 Tryd.f4 rfl rfl rfl rfl rfl rfl rfl ⟨rfl, rfl, rfl, rfl, rfl⟩ rfl rfl rfl rfl rfl (by kernel_rfl) Tryd.func4 (by kernel_rfl)
    (of_decide_eq_true (by kernel_rfl)) (by unfold Func.isWrapper; first | (rw [if_pos (by decide +kernel)]; kernel_rfl) | (rw [if_neg (by decide +kernel)]; exact ⟨rfl, rfl⟩))
    (fun os started H enc _ => choiceSame_lifted os started H enc)
theorem choiceSame_holds : Rows.ChoiceSameCardSaid :=
  Claim7.holds_tied_plain_at .later [] _ _ _ _
    choiceSame_row (fun _ h => by cases h) (by kernel_rfl) (fun _ h => by cases h) choiceSame_row_tie rfl ⟨rfl, rfl⟩ (by kernel_rfl) rfl
    (fun f fn hf hfn => by
      obtain rfl : f = 4 := Option.some.inj ((show Tryd.prog.funcNamed "emend/emendlaw13.ChoiceSame" = some 4 by kernel_rfl).symm.trans hf) |>.symm
      obtain rfl : fn = Tryd.f4 := (Option.some.inj (Tryd.func4.symm.trans hfn)).symm
      exact ⟨by kernel_rfl, fun j t ht => by
        rw [Tryd.params4] at ht
        have hm : t ∈ [3, 9, 3] := by simpa using Array.mem_of_getElem? ht
        have hall : ([3, 9, 3].all fun u => !Tryd.prog.wantsStandIn u) = true := by kernel_rfl
        exact (show Tryd.prog.wantsStandIn t = false by simpa using List.all_eq_true.1 hall t hm)⟩)
    (by kernel_rfl)
end Go.Proofs.YtffgaoehhmgbjaaDoor
