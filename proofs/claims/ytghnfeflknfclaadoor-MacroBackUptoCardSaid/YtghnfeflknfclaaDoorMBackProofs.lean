/-
  Proved: MacroBack: what was defined is printed and defined again: the same macro, where what is read is of the second form's bulk. Conditions: none but the statement itself (the listed tables as the card ties them).
-/
import Derived.Test.YtghnfeflknfclaaDoorLa
import Derived.Test.YtghnfeflknfclaaDoorWc
import Derived.Test.YtghnfeflknfclaaDoorG13
import Derived.Test.YtghnfeflknfclaaDoorUp
set_option linter.unusedVariables false
set_option linter.unusedSimpArgs false
set_option maxRecDepth 100000
namespace Go.Proofs.YtghnfeflknfclaaDoor
open Go Go.ChangeShapes Go.WideShapes Go.ChangeAt Go.RowKit Go.Vc Go.Sh
attribute [local irreducible] World.doorLaid in
set_option maxHeartbeats 4000000 in
theorem macroBack_lifted (os : Os) (started : os.Started) (H : Type) (enc : TypeId × Value → H) (F : Stop.Interp) :
    ReturnsInHanded {} Tryd.checked os 14 .any ((Rows.OpenSpec.upto Rows.macroBackSpec).preRow enc Tryd.prog Tryd.f14 Rows.macroBackUptoRow.domain false Rows.macroBackUptoRow.laid) (((Rows.OpenSpec.upto Rows.macroBackSpec).at F).post enc Tryd.prog Tryd.f14 false true false false) := by
  refine returnsInHanded_of_row (C := Tryd.checked) (s := Rows.OpenSpec.upto Rows.macroBackSpec) Tryd.own started (by kernel_rfl) Tryd.func14
    ⟨World.doorLaid Tryd.prog 19 os, fun _ _ => 0, ⟨#[], #[.string ⟨#[]⟩], []⟩, (by kernel_rfl), (World.shaped_of_RefB (by kernel_rfl) (by kernel_rfl)), (by kernel_rfl), (Input.okWide_of_okWideB (base := 0) (by kernel_rfl)).2, OpenSpec.preRow_of_cond 8 (x := ([.lit (.string [])], [], [])) (by kernel_rfl) (by kernel_rfl) (fun k hk => by cases hk; kernel_rfl) (by kernel_rfl) (door_met os _), by
      simp only [Assume.holds]
      exact ⟨by simp, by simp, fun _ => Modest.zero, by simp, by simp⟩⟩ ?_
  intro W base args ds gs before hval hW _ hcond _ hL hsh _
  have hcond := hcond _ rfl
  obtain ⟨m, hm⟩ := Tryd.maxLen hsh
  refine law_postU (s := Rows.macroBackSpec) (P := Tryd.prog) (n := 8) ⟨rfl, fun H ds h => ?_⟩ Tryd.laidOut (by kernel_rfl) (by kernel_rfl) (show Tryd.f14.resultTypes = #[4] by kernel_rfl) Tryd.underlying4 hval hW hcond (H0 := H0 m) (H0_dom m) (H0_heap hL hm) fun xs hx hb => ?_
  · match ds, h with
    | [x0], _ => rfl
  · rw [Tryd.params14] at hx
    obtain ⟨a0, r, w0, rfl, h1⟩ := ArgsC.string Tryd.underlying9 hx
    cases h1
    exact (w_emendlaw06_MacroBack (H0_glob m) (macroBack_law a0 (by simp only [avAs, avA, avB, ByteArray.size, List.size_toArray] at hb; omega))).mono (fun v H h => h.1) (fun _ _ h => h)
theorem macroBack_row : Rows.MacroBackUptoSaid :=
  OpenClaim.holds_of_cond 14 Tryd.f14 rfl rfl rfl rfl rfl rfl rfl ⟨rfl, rfl, rfl, rfl, rfl⟩ rfl rfl rfl rfl rfl (by kernel_rfl) Tryd.func14 (by kernel_rfl)
    (of_decide_eq_true (by kernel_rfl)) (by unfold Func.isWrapper; first | (rw [if_pos (by decide +kernel)]; kernel_rfl) | (rw [if_neg (by decide +kernel)]; exact ⟨rfl, rfl⟩))
    (fun os started H enc _ F => by rw [OpenClaim.pre_eq_preRow]; exact macroBack_lifted os started H enc F)
theorem macroBack_holds : Rows.MacroBackUptoCardSaid :=
  Claim7.holds_tied_plain_at .later [] _ _ _ _
    macroBack_row (fun _ h => by cases h) (by kernel_rfl) (fun _ h => by cases h) macroBackUpto_row_tie rfl ⟨rfl, rfl⟩ (by kernel_rfl) rfl
    (fun f fn hf hfn => by
      obtain rfl : f = 14 := Option.some.inj ((show Tryd.prog.funcNamed "emend/emendlaw06.MacroBack" = some 14 by kernel_rfl).symm.trans hf) |>.symm
      obtain rfl : fn = Tryd.f14 := (Option.some.inj (Tryd.func14.symm.trans hfn)).symm
      exact ⟨by kernel_rfl, fun j t ht => by
        rw [Tryd.params14] at ht
        have hm : t ∈ [9] := by simpa using Array.mem_of_getElem? ht
        have hall : ([9].all fun u => !Tryd.prog.wantsStandIn u) = true := by kernel_rfl
        exact (show Tryd.prog.wantsStandIn t = false by simpa using List.all_eq_true.1 hall t hm)⟩)
    (by kernel_rfl)
end Go.Proofs.YtghnfeflknfclaaDoor
