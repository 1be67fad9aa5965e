/-
  Proved: WorldAsked: a name that is asked for is spelled, and is not defined; one more file without conditionals changes no names, for every input. Conditions: none but the statement itself (the listed tables as the card ties them).
-/
import Derived.Test.YtdbcklichbiihaaDoorLa
import Derived.Test.YtdbcklichbiihaaDoorV
import Derived.Test.YtdbcklichbiihaaDoorF3
set_option linter.unusedVariables false
set_option linter.unusedSimpArgs false
set_option maxRecDepth 100000
namespace Go.Proofs.YtdbcklichbiihaaDoor
open Go Go.ChangeShapes Go.WideShapes Go.ChangeAt Go.RowKit Go.Vc Go.Sh
theorem worldAsked_lifted (os : Os) (started : os.Started) (H : Type) (enc : TypeId × Value → H) :
    ReturnsInHanded {} Tryd.checked os 6 .any (fun w args => (Rows.worldAskedSpec.pre enc Tryd.prog Tryd.f6 [] false w args ∧ laidMetH Tryd.prog laidAll w) ∧ sizedMet enc Tryd.prog Tryd.f6 (OpenSpec.ofChange Rows.worldAskedSpec) false w args) (Rows.worldAskedSpec.post enc Tryd.prog Tryd.f6 false true false false) := by
  refine returnsInHanded_laid_shaped (C := Tryd.checked) (X := fun w _ => laidMetH Tryd.prog laidAll w) (fun _ _ _ hh h => h.of_heap hh) Tryd.own started (by kernel_rfl) Tryd.func6
    (ChangeSpec.witness_shaped (enc := enc) (C := Tryd.checked) (os := os) (X := fun w _ => laidMetH Tryd.prog laidAll w) false (World.laidAll Tryd.prog os laidAll) #[.slice none 0 0, .string ⟨#[]⟩] 8 (World.laidAll_os _ _ _) (World.shaped_of_ZipB (by kernel_rfl) (by kernel_rfl)) (by kernel_rfl) (by kernel_rfl) (by kernel_rfl) (door_met os _)) ?_
  intro W base args ds gs before hval hW hL hsh
  obtain ⟨m, hm⟩ := Tryd.maxLen hsh
  refine law_post (P := Tryd.prog) (n := 8) ⟨rfl, fun H ds h => ?_⟩ Tryd.laidOut (by kernel_rfl) (by kernel_rfl) (show Tryd.f6.resultTypes = #[4] by kernel_rfl) Tryd.underlying4 hval hW (H0 := H0 m) (H0_dom m) (H0_heap hL hm) fun xs hx => ?_
  · match ds, h with
    | [x0, x1], _ => rfl
  · rw [Tryd.params6] at hx
    obtain ⟨es0, r, w0, rfl, hy0, h1⟩ := ArgsC.slice Tryd.underlying32 hx
    obtain ⟨a0, rfl, v0⟩ := GFile_typed es0 hy0
    obtain ⟨a1, r, w1, rfl, h2⟩ := ArgsC.string Tryd.underlying9 h1
    cases h2
    exact (w_emendlaw11_WorldAsked (H0_glob m) (worldAsked_law a0 a1)).mono (fun v H h => h.1) (fun _ _ h => h)
theorem worldAsked_row : Rows.WorldAskedSaid :=
  OpenClaim.holds_of_wide 6 Tryd.f6 rfl rfl rfl rfl rfl rfl rfl ⟨rfl, rfl, rfl, rfl, rfl⟩ rfl rfl rfl rfl rfl (by kernel_rfl) Tryd.func6 (by kernel_rfl)
    (of_decide_eq_true (by kernel_rfl)) (by unfold Func.isWrapper; first | (rw [if_pos (by decide +kernel)]; kernel_rfl) | (rw [if_neg (by decide +kernel)]; exact ⟨rfl, rfl⟩))
    (fun os started H enc _ => worldAsked_lifted os started H enc)
theorem worldAsked_holds : Rows.WorldAskedCardSaid :=
  Claim7.holds_tied_plain_at .later [] _ _ _ _
    worldAsked_row (fun _ h => by cases h) (by kernel_rfl) (fun _ h => by cases h) worldAsked_row_tie rfl ⟨rfl, rfl⟩ (by kernel_rfl) rfl
    (fun f fn hf hfn => by
      obtain rfl : f = 6 := Option.some.inj ((show Tryd.prog.funcNamed "emend/emendlaw11.WorldAsked" = some 6 by kernel_rfl).symm.trans hf) |>.symm
      obtain rfl : fn = Tryd.f6 := (Option.some.inj (Tryd.func6.symm.trans hfn)).symm
      exact ⟨by kernel_rfl, fun j t ht => by
        rw [Tryd.params6] at ht
        have hm : t ∈ [32, 9] := by simpa using Array.mem_of_getElem? ht
        have hall : ([32, 9].all fun u => !Tryd.prog.wantsStandIn u) = true := by kernel_rfl
        exact (show Tryd.prog.wantsStandIn t = false by simpa using List.all_eq_true.1 hall t hm)⟩)
    (by kernel_rfl)
end Go.Proofs.YtdbcklichbiihaaDoor
