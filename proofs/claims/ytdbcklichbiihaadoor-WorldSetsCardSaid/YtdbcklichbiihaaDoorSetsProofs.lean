/-
  Proved: WorldSets: what a set defines, and which set names are, is as the document says, for every input. Conditions: none but the statement itself (the listed tables as the card ties them).
-/
import Derived.Test.YtdbcklichbiihaaDoorLa
import Derived.Test.YtdbcklichbiihaaDoorV
import Derived.Test.YtdbcklichbiihaaDoorF4
set_option linter.unusedVariables false
set_option linter.unusedSimpArgs false
set_option maxRecDepth 100000
namespace Go.Proofs.YtdbcklichbiihaaDoor
open Go Go.ChangeShapes Go.WideShapes Go.ChangeAt Go.RowKit Go.Vc Go.Sh
theorem worldSets_lifted (os : Os) (started : os.Started) (H : Type) (enc : TypeId × Value → H) :
    ReturnsInHanded {} Tryd.checked os 3 .any (fun w args => (Rows.worldSetsSpec.pre enc Tryd.prog Tryd.f3 [] false w args ∧ laidMetH Tryd.prog laidAll w) ∧ sizedMet enc Tryd.prog Tryd.f3 (OpenSpec.ofChange Rows.worldSetsSpec) false w args) (Rows.worldSetsSpec.post enc Tryd.prog Tryd.f3 false true false false) := by
  refine returnsInHanded_laid_shaped (C := Tryd.checked) (X := fun w _ => laidMetH Tryd.prog laidAll w) (fun _ _ _ hh h => h.of_heap hh) Tryd.own started (by kernel_rfl) Tryd.func3
    (ChangeSpec.witness_shaped (enc := enc) (C := Tryd.checked) (os := os) (X := fun w _ => laidMetH Tryd.prog laidAll w) false (World.laidAll Tryd.prog os laidAll) #[.slice none 0 0, .int .i64 0, .slice none 0 0] 8 (World.laidAll_os _ _ _) (World.shaped_of_ZipB (by kernel_rfl) (by kernel_rfl)) (by kernel_rfl) (by kernel_rfl) (by kernel_rfl) (door_met os _)) ?_
  intro W base args ds gs before hval hW hL hsh
  obtain ⟨m, hm⟩ := Tryd.maxLen hsh
  refine law_post (P := Tryd.prog) (n := 8) ⟨rfl, fun H ds h => ?_⟩ Tryd.laidOut (by kernel_rfl) (by kernel_rfl) (show Tryd.f3.resultTypes = #[4] by kernel_rfl) Tryd.underlying4 hval hW (H0 := H0 m) (H0_dom m) (H0_heap hL hm) fun xs hx => ?_
  · match ds, h with
    | [x0, x1, x2], _ => rfl
  · rw [Tryd.params3] at hx
    obtain ⟨es0, r, w0, rfl, hy0, h1⟩ := ArgsC.slice Tryd.underlying22 hx
    obtain ⟨a0, rfl, v0⟩ := strs_typed Tryd.underlying9 es0 hy0
    obtain ⟨a1, r, w1, rfl, h2⟩ := ArgsC.int Tryd.underlying3 h1
    obtain ⟨es2, r, w2, rfl, hy2, h3⟩ := ArgsC.slice Tryd.underlying22 h2
    obtain ⟨a2, rfl, v2⟩ := strs_typed Tryd.underlying9 es2 hy2
    cases h3
    exact (w_emendlaw11_WorldSets (H0_glob m) (worldSets_law a0 a1 a2 w1)).mono (fun v H h => h.1) (fun _ _ h => h)
theorem worldSets_row : Rows.WorldSetsSaid :=
  OpenClaim.holds_of_wide 3 Tryd.f3 rfl rfl rfl rfl rfl rfl rfl ⟨rfl, rfl, rfl, rfl, rfl⟩ rfl rfl rfl rfl rfl (by kernel_rfl) Tryd.func3 (by kernel_rfl)
    (of_decide_eq_true (by kernel_rfl)) (by unfold Func.isWrapper; first | (rw [if_pos (by decide +kernel)]; kernel_rfl) | (rw [if_neg (by decide +kernel)]; exact ⟨rfl, rfl⟩))
    (fun os started H enc _ => worldSets_lifted os started H enc)
theorem worldSets_holds : Rows.WorldSetsCardSaid :=
  Claim7.holds_tied_plain_at .later [] _ _ _ _
    worldSets_row (fun _ h => by cases h) (by kernel_rfl) (fun _ h => by cases h) worldSets_row_tie rfl ⟨rfl, rfl⟩ (by kernel_rfl) rfl
    (fun f fn hf hfn => by
      obtain rfl : f = 3 := Option.some.inj ((show Tryd.prog.funcNamed "emend/emendlaw11.WorldSets" = some 3 by kernel_rfl).symm.trans hf) |>.symm
      obtain rfl : fn = Tryd.f3 := (Option.some.inj (Tryd.func3.symm.trans hfn)).symm
      exact ⟨by kernel_rfl, fun j t ht => by
        rw [Tryd.params3] at ht
        have hm : t ∈ [22, 3, 22] := by simpa using Array.mem_of_getElem? ht
        have hall : ([22, 3, 22].all fun u => !Tryd.prog.wantsStandIn u) = true := by kernel_rfl
        exact (show Tryd.prog.wantsStandIn t = false by simpa using List.all_eq_true.1 hall t hm)⟩)
    (by kernel_rfl)
end Go.Proofs.YtdbcklichbiihaaDoor
