/-
  Proved: GlueAlone: a paste is all of both, where what is read is of the second form's bulk. Conditions: none but the statement itself (the listed tables as the card ties them).
-/
import Derived.Test.YtfocleohejljpaaDoorLa
import Derived.Test.YtfocleohejljpaaDoorWb
import Derived.Test.YtfocleohejljpaaDoorD3
import Derived.Test.YtfocleohejljpaaDoorUp
set_option linter.unusedVariables false
set_option linter.unusedSimpArgs false
set_option maxRecDepth 100000
namespace Go.Proofs.YtfocleohejljpaaDoor
open Go Go.ChangeShapes Go.WideShapes Go.ChangeAt Go.RowKit Go.Vc Go.Sh
theorem glueAlone_lifted (os : Os) (started : os.Started) (H : Type) (enc : TypeId × Value → H) (F : Stop.Interp) :
    ReturnsInHanded {} Tryd.checked os 11 .any ((Rows.OpenSpec.upto Rows.glueAloneSpec).preRow enc Tryd.prog Tryd.f11 Rows.glueAloneUptoRow.domain false Rows.glueAloneUptoRow.laid) (((Rows.OpenSpec.upto Rows.glueAloneSpec).at F).post enc Tryd.prog Tryd.f11 false true false false) := by
  refine returnsInHanded_of_row (C := Tryd.checked) (s := Rows.OpenSpec.upto Rows.glueAloneSpec) Tryd.own started (by kernel_rfl) Tryd.func11
    ⟨World.laidAll Tryd.prog os laidAll, fun _ _ => 0, ⟨#[], #[.string ⟨#[]⟩, .int .i64 0, .int .i64 0], []⟩, (World.laidAll_os _ _ _), (World.shaped_of_ZipB (by kernel_rfl) (by kernel_rfl)), rfl, (Input.okWide_of_okWideB (base := 0) (by kernel_rfl)).2, OpenSpec.preRow_of_cond 8 (x := ([.lit (.string []), .lit (.int .i64 0), .lit (.int .i64 0)], [], [])) (by kernel_rfl) (by kernel_rfl) (fun k hk => by cases hk; kernel_rfl) (by kernel_rfl) (door_met os _), by
      simp only [Assume.holds]
      exact ⟨by simp, by simp, fun _ => Modest.zero, by simp, by simp⟩⟩ ?_
  intro W base args ds gs before hval hW _ hcond _ hL hsh _
  have hcond := hcond _ rfl
  obtain ⟨m, hm⟩ := Tryd.maxLen hsh
  refine law_postU (s := Rows.glueAloneSpec) (P := Tryd.prog) (n := 8) ⟨rfl, fun H ds h => ?_⟩ Tryd.laidOut (by kernel_rfl) (by kernel_rfl) (show Tryd.f11.resultTypes = #[4] by kernel_rfl) Tryd.underlying4 hval hW hcond (H0 := H0 m) (H0_dom m) (H0_heap hL hm) fun xs hx hb => ?_
  · match ds, h with
    | [x0, x1, x2], _ => rfl
  · rw [Tryd.params11] at hx
    obtain ⟨a0, r, w0, rfl, h1⟩ := ArgsC.string Tryd.underlying9 hx
    obtain ⟨a1, r, w1, rfl, h2⟩ := ArgsC.int Tryd.underlying3 h1
    obtain ⟨a2, r, w2, rfl, h3⟩ := ArgsC.int Tryd.underlying3 h2
    cases h3
    exact (w_emendlaw07_GlueAlone (H0_glob m) (glueAlone_law a0 a1 a2 (by simp only [avAs, avA, avB, ByteArray.size, List.size_toArray] at hb; omega))).mono (fun v H h => h.1) (fun _ _ h => h)
theorem glueAlone_row : Rows.GlueAloneUptoSaid :=
  OpenClaim.holds_of_cond 11 Tryd.f11 rfl rfl rfl rfl rfl rfl rfl ⟨rfl, rfl, rfl, rfl, rfl⟩ rfl rfl rfl rfl rfl (by kernel_rfl) Tryd.func11 (by kernel_rfl)
    (of_decide_eq_true (by kernel_rfl)) (by unfold Func.isWrapper; first | (rw [if_pos (by decide +kernel)]; kernel_rfl) | (rw [if_neg (by decide +kernel)]; exact ⟨rfl, rfl⟩))
    (fun os started H enc _ F => by rw [OpenClaim.pre_eq_preRow]; exact glueAlone_lifted os started H enc F)
theorem glueAlone_holds : Rows.GlueAloneUptoCardSaid :=
  Claim7.holds_tied_plain_at .later [] _ _ _ _
    glueAlone_row (fun _ h => by cases h) (by kernel_rfl) (fun _ h => by cases h) glueAloneUpto_row_tie rfl ⟨rfl, rfl⟩ (by kernel_rfl) rfl
    (fun f fn hf hfn => by
      obtain rfl : f = 11 := Option.some.inj ((show Tryd.prog.funcNamed "emend/emendlaw07.GlueAlone" = some 11 by kernel_rfl).symm.trans hf) |>.symm
      obtain rfl : fn = Tryd.f11 := (Option.some.inj (Tryd.func11.symm.trans hfn)).symm
      exact ⟨by kernel_rfl, fun j t ht => by
        rw [Tryd.params11] at ht
        have hm : t ∈ [9, 3, 3] := by simpa using Array.mem_of_getElem? ht
        have hall : ([9, 3, 3].all fun u => !Tryd.prog.wantsStandIn u) = true := by kernel_rfl
        exact (show Tryd.prog.wantsStandIn t = false by simpa using List.all_eq_true.1 hall t hm)⟩)
    (by kernel_rfl)
end Go.Proofs.YtfocleohejljpaaDoor
