/-
  Proved: GlueTexts: the text and the string of any tokens are as the document says, where what is read is of the second form's bulk. Conditions: none but the statement itself (the listed tables as the card ties them).
-/
import Derived.Test.YtfocleohejljpaaDoorLa
import Derived.Test.YtfocleohejljpaaDoorWb
import Derived.Test.YtfocleohejljpaaDoorD3
import Derived.Test.YtfocleohejljpaaDoorUp
set_option linter.unusedVariables false
set_option linter.unusedSimpArgs false
set_option maxRecDepth 100000
namespace Go.Proofs.YtfocleohejljpaaDoor
open Go Go.ChangeShapes Go.WideShapes Go.ChangeAt Go.RowKit Go.Vc Go.Sh
theorem glueTexts_lifted (os : Os) (started : os.Started) (H : Type) (enc : TypeId × Value → H) (F : Stop.Interp) :
    ReturnsInHanded {} Tryd.checked os 7 .any ((Rows.OpenSpec.upto Rows.glueTextsSpec).preRow enc Tryd.prog Tryd.f7 Rows.glueTextsUptoRow.domain false Rows.glueTextsUptoRow.laid) (((Rows.OpenSpec.upto Rows.glueTextsSpec).at F).post enc Tryd.prog Tryd.f7 false true false false) := by
  refine returnsInHanded_of_row (C := Tryd.checked) (s := Rows.OpenSpec.upto Rows.glueTextsSpec) Tryd.own started (by kernel_rfl) Tryd.func7
    ⟨World.laidAll Tryd.prog os laidAll, fun _ _ => 0, ⟨#[], #[.slice none 0 0], []⟩, (World.laidAll_os _ _ _), (World.shaped_of_ZipB (by kernel_rfl) (by kernel_rfl)), rfl, (Input.okWide_of_okWideB (base := 0) (by kernel_rfl)).2, OpenSpec.preRow_of_cond 8 (x := ([.nil], [], [])) (by kernel_rfl) (by kernel_rfl) (fun k hk => by cases hk; kernel_rfl) (by kernel_rfl) (door_met os _), by
      simp only [Assume.holds]
      exact ⟨by simp, by simp, fun _ => Modest.zero, by simp, by simp⟩⟩ ?_
  intro W base args ds gs before hval hW _ hcond _ hL hsh _
  have hcond := hcond _ rfl
  obtain ⟨m, hm⟩ := Tryd.maxLen hsh
  refine law_postU (s := Rows.glueTextsSpec) (P := Tryd.prog) (n := 8) ⟨rfl, fun H ds h => ?_⟩ Tryd.laidOut (by kernel_rfl) (by kernel_rfl) (show Tryd.f7.resultTypes = #[4] by kernel_rfl) Tryd.underlying4 hval hW hcond (H0 := H0 m) (H0_dom m) (H0_heap hL hm) fun xs hx hb => ?_
  · match ds, h with
    | [x0], _ => rfl
  · rw [Tryd.params7] at hx
    obtain ⟨es0, r, w0, rfl, hy0, h1⟩ := ArgsC.slice Tryd.underlying41 hx
    obtain ⟨a0, rfl, v0⟩ := GTok_typed es0 hy0
    cases h1
    exact (w_emendlaw07_GlueTexts (H0_glob m) (glueTexts_law a0 (by have := toks_bulk a0; simp only [avAs, avA, avB] at hb; omega) (by have := toks_bulk a0; simp only [avAs, avA, avB] at hb; omega))).mono (fun v H h => h.1) (fun _ _ h => h)
theorem glueTexts_row : Rows.GlueTextsUptoSaid :=
  OpenClaim.holds_of_cond 7 Tryd.f7 rfl rfl rfl rfl rfl rfl rfl ⟨rfl, rfl, rfl, rfl, rfl⟩ rfl rfl rfl rfl rfl (by kernel_rfl) Tryd.func7 (by kernel_rfl)
    (of_decide_eq_true (by kernel_rfl)) (by unfold Func.isWrapper; first | (rw [if_pos (by decide +kernel)]; kernel_rfl) | (rw [if_neg (by decide +kernel)]; exact ⟨rfl, rfl⟩))
    (fun os started H enc _ F => by rw [OpenClaim.pre_eq_preRow]; exact glueTexts_lifted os started H enc F)
theorem glueTexts_holds : Rows.GlueTextsUptoCardSaid :=
  Claim7.holds_tied_plain_at .later [] _ _ _ _
    glueTexts_row (fun _ h => by cases h) (by kernel_rfl) (fun _ h => by cases h) glueTextsUpto_row_tie rfl ⟨rfl, rfl⟩ (by kernel_rfl) rfl
    (fun f fn hf hfn => by
      obtain rfl : f = 7 := Option.some.inj ((show Tryd.prog.funcNamed "emend/emendlaw07.GlueTexts" = some 7 by kernel_rfl).symm.trans hf) |>.symm
      obtain rfl : fn = Tryd.f7 := (Option.some.inj (Tryd.func7.symm.trans hfn)).symm
      exact ⟨by kernel_rfl, fun j t ht => by
        rw [Tryd.params7] at ht
        have hm : t ∈ [41] := by simpa using Array.mem_of_getElem? ht
        have hall : ([41].all fun u => !Tryd.prog.wantsStandIn u) = true := by kernel_rfl
        exact (show Tryd.prog.wantsStandIn t = false by simpa using List.all_eq_true.1 hall t hm)⟩)
    (by kernel_rfl)
end Go.Proofs.YtfocleohejljpaaDoor
