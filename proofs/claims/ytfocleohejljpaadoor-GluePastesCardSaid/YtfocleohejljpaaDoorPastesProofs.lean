/-
  Proved: GluePastes: the one token of any two is as the document says, for every input. Conditions: none but the statement itself (the listed tables as the card ties them).
-/
import Derived.Test.YtfocleohejljpaaDoorLa
import Derived.Test.YtfocleohejljpaaDoorWb
import Derived.Test.YtfocleohejljpaaDoorD1
set_option linter.unusedVariables false
set_option linter.unusedSimpArgs false
set_option maxRecDepth 100000
namespace Go.Proofs.YtfocleohejljpaaDoor
open Go Go.ChangeShapes Go.WideShapes Go.ChangeAt Go.RowKit Go.Vc Go.Sh
theorem gluePastes_lifted (os : Os) (started : os.Started) (H : Type) (enc : TypeId × Value → H) :
    ReturnsInHanded {} Tryd.checked os 8 .any (fun w args => (Rows.gluePastesSpec.pre enc Tryd.prog Tryd.f8 [] false w args ∧ laidMetH Tryd.prog laidAll w) ∧ sizedMet enc Tryd.prog Tryd.f8 (OpenSpec.ofChange Rows.gluePastesSpec) false w args) (Rows.gluePastesSpec.post enc Tryd.prog Tryd.f8 false true false false) := by
  refine returnsInHanded_laid_shaped (C := Tryd.checked) (X := fun w _ => laidMetH Tryd.prog laidAll w) (fun _ _ _ hh h => h.of_heap hh) Tryd.own started (by kernel_rfl) Tryd.func8
    (ChangeSpec.witness_shaped (enc := enc) (C := Tryd.checked) (os := os) (X := fun w _ => laidMetH Tryd.prog laidAll w) false (World.laidAll Tryd.prog os laidAll) #[.agg #[.int .i64 0, .string ⟨#[]⟩, .int .i64 0, .int .i64 0, .int .i64 0, .bool false], .agg #[.int .i64 0, .string ⟨#[]⟩, .int .i64 0, .int .i64 0, .int .i64 0, .bool false]] 8 (World.laidAll_os _ _ _) (World.shaped_of_ZipB (by kernel_rfl) (by kernel_rfl)) (by kernel_rfl) (by kernel_rfl) (by kernel_rfl) (door_met os _)) ?_
  intro W base args ds gs before hval hW hL hsh
  obtain ⟨m, hm⟩ := Tryd.maxLen hsh
  refine law_post (P := Tryd.prog) (n := 8) ⟨rfl, fun H ds h => ?_⟩ Tryd.laidOut (by kernel_rfl) (by kernel_rfl) (show Tryd.f8.resultTypes = #[4] by kernel_rfl) Tryd.underlying4 hval hW (H0 := H0 m) (H0_dom m) (H0_heap hL hm) fun xs hx => ?_
  · match ds, h with
    | [x0, x1], _ => rfl
  · rw [Tryd.params8] at hx
    obtain ⟨cs0, r, rfl, hf0, h1⟩ := ArgsC.struct Tryd.underlying44 hx
    obtain ⟨a0, v0, rfl⟩ := GTok_of (show TypedC Tryd.prog 8 44 cs0 by rw [TypedC, Tryd.underlying44]; exact hf0)
    obtain ⟨cs1, r, rfl, hf1, h2⟩ := ArgsC.struct Tryd.underlying44 h1
    obtain ⟨a1, v1, rfl⟩ := GTok_of (show TypedC Tryd.prog 8 44 cs1 by rw [TypedC, Tryd.underlying44]; exact hf1)
    cases h2
    exact (w_emendlaw07_GluePastes (H0_glob m) (gluePastes_law a0 a1)).mono (fun v H h => h.1) (fun _ _ h => h)
theorem gluePastes_row : Rows.GluePastesSaid :=
  OpenClaim.holds_of_wide 8 Tryd.f8 rfl rfl rfl rfl rfl rfl rfl ⟨rfl, rfl, rfl, rfl, rfl⟩ rfl rfl rfl rfl rfl (by kernel_rfl) Tryd.func8 (by kernel_rfl)
    (of_decide_eq_true (by kernel_rfl)) (by unfold Func.isWrapper; first | (rw [if_pos (by decide +kernel)]; kernel_rfl) | (rw [if_neg (by decide +kernel)]; exact ⟨rfl, rfl⟩))
    (fun os started H enc _ => gluePastes_lifted os started H enc)
theorem gluePastes_holds : Rows.GluePastesCardSaid :=
  Claim7.holds_tied_plain_at .later [] _ _ _ _
    gluePastes_row (fun _ h => by cases h) (by kernel_rfl) (fun _ h => by cases h) gluePastes_row_tie rfl ⟨rfl, rfl⟩ (by kernel_rfl) rfl
    (fun f fn hf hfn => by
      obtain rfl : f = 8 := Option.some.inj ((show Tryd.prog.funcNamed "emend/emendlaw07.GluePastes" = some 8 by kernel_rfl).symm.trans hf) |>.symm
      obtain rfl : fn = Tryd.f8 := (Option.some.inj (Tryd.func8.symm.trans hfn)).symm
      exact ⟨by kernel_rfl, fun j t ht => by
        rw [Tryd.params8] at ht
        have hm : t ∈ [44, 44] := by simpa using Array.mem_of_getElem? ht
        have hall : ([44, 44].all fun u => !Tryd.prog.wantsStandIn u) = true := by kernel_rfl
        exact (show Tryd.prog.wantsStandIn t = false by simpa using List.all_eq_true.1 hall t hm)⟩)
    (by kernel_rfl)
end Go.Proofs.YtfocleohejljpaaDoor
