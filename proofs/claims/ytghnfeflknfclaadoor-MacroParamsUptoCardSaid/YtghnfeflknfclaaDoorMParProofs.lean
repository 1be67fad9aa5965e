/-
  Proved: MacroParams: each parameter stands where it was named; one that is named twice is told, where what is read is of the second form's bulk. Conditions: none but the statement itself (the listed tables as the card ties them).
-/
import Derived.Test.YtghnfeflknfclaaDoorLa
import Derived.Test.YtghnfeflknfclaaDoorWc
import Derived.Test.YtghnfeflknfclaaDoorG10
import Derived.Test.YtghnfeflknfclaaDoorUp
set_option linter.unusedVariables false
set_option linter.unusedSimpArgs false
set_option maxRecDepth 100000
namespace Go.Proofs.YtghnfeflknfclaaDoor
open Go Go.ChangeShapes Go.WideShapes Go.ChangeAt Go.RowKit Go.Vc Go.Sh
attribute [local irreducible] World.doorLaid in
set_option maxHeartbeats 4000000 in
theorem macroParams_lifted (os : Os) (started : os.Started) (H : Type) (enc : TypeId × Value → H) (F : Stop.Interp) :
    ReturnsInHanded {} Tryd.checked os 11 .any ((Rows.OpenSpec.upto Rows.macroParamsSpec).preRow enc Tryd.prog Tryd.f11 Rows.macroParamsUptoRow.domain false Rows.macroParamsUptoRow.laid) (((Rows.OpenSpec.upto Rows.macroParamsSpec).at F).post enc Tryd.prog Tryd.f11 false true false false) := by
  refine returnsInHanded_of_row (C := Tryd.checked) (s := Rows.OpenSpec.upto Rows.macroParamsSpec) Tryd.own started (by kernel_rfl) Tryd.func11
    ⟨World.doorLaid Tryd.prog 19 os, fun _ _ => 0, ⟨#[], #[.slice none 0 0, .bool false], []⟩, (by kernel_rfl), (World.shaped_of_RefB (by kernel_rfl) (by kernel_rfl)), (by kernel_rfl), (Input.okWide_of_okWideB (base := 0) (by kernel_rfl)).2, OpenSpec.preRow_of_cond 8 (x := ([.nil, .lit (.bool false)], [], [])) (by kernel_rfl) (by kernel_rfl) (fun k hk => by cases hk; kernel_rfl) (by kernel_rfl) (door_met os _), by
      simp only [Assume.holds]
      exact ⟨by simp, by simp, fun _ => Modest.zero, by simp, by simp⟩⟩ ?_
  intro W base args ds gs before hval hW _ hcond _ hL hsh _
  have hcond := hcond _ rfl
  obtain ⟨m, hm⟩ := Tryd.maxLen hsh
  refine law_postU (s := Rows.macroParamsSpec) (P := Tryd.prog) (n := 8) ⟨rfl, fun H ds h => ?_⟩ Tryd.laidOut (by kernel_rfl) (by kernel_rfl) (show Tryd.f11.resultTypes = #[4] by kernel_rfl) Tryd.underlying4 hval hW hcond (H0 := H0 m) (H0_dom m) (H0_heap hL hm) fun xs hx hb => ?_
  · match ds, h with
    | [x0, x1], _ => rfl
  · rw [Tryd.params11] at hx
    obtain ⟨es0, r, w0, rfl, hy0, h1⟩ := ArgsC.slice Tryd.underlying42 hx
    obtain ⟨a0, rfl, v0⟩ := strs_typed Tryd.underlying9 es0 hy0
    obtain ⟨a1, r, rfl, h2⟩ := ArgsC.bool Tryd.underlying4 h1
    cases h2
    exact (w_emendlaw06_MacroParams (H0_glob m) (macroParams_law a0 _ (by have := strs_bulk a0; simp only [avAs, avA, avB] at hb; omega))).mono (fun v H h => h.1) (fun _ _ h => h)
theorem macroParams_row : Rows.MacroParamsUptoSaid :=
  OpenClaim.holds_of_cond 11 Tryd.f11 rfl rfl rfl rfl rfl rfl rfl ⟨rfl, rfl, rfl, rfl, rfl⟩ rfl rfl rfl rfl rfl (by kernel_rfl) Tryd.func11 (by kernel_rfl)
    (of_decide_eq_true (by kernel_rfl)) (by unfold Func.isWrapper; first | (rw [if_pos (by decide +kernel)]; kernel_rfl) | (rw [if_neg (by decide +kernel)]; exact ⟨rfl, rfl⟩))
    (fun os started H enc _ F => by rw [OpenClaim.pre_eq_preRow]; exact macroParams_lifted os started H enc F)
theorem macroParams_holds : Rows.MacroParamsUptoCardSaid :=
  Claim7.holds_tied_plain_at .later [] _ _ _ _
    macroParams_row (fun _ h => by cases h) (by kernel_rfl) (fun _ h => by cases h) macroParamsUpto_row_tie rfl ⟨rfl, rfl⟩ (by kernel_rfl) rfl
    (fun f fn hf hfn => by
      obtain rfl : f = 11 := Option.some.inj ((show Tryd.prog.funcNamed "emend/emendlaw06.MacroParams" = some 11 by kernel_rfl).symm.trans hf) |>.symm
      obtain rfl : fn = Tryd.f11 := (Option.some.inj (Tryd.func11.symm.trans hfn)).symm
      exact ⟨by kernel_rfl, fun j t ht => by
        rw [Tryd.params11] at ht
        have hm : t ∈ [42, 4] := by simpa using Array.mem_of_getElem? ht
        have hall : ([42, 4].all fun u => !Tryd.prog.wantsStandIn u) = true := by kernel_rfl
        exact (show Tryd.prog.wantsStandIn t = false by simpa using List.all_eq_true.1 hall t hm)⟩)
    (by kernel_rfl)
end Go.Proofs.YtghnfeflknfclaaDoor
