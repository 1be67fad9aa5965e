/-
  Proved: MacroSame: sameness is of itself, of both sides, and goes through; what stands where, and blanks ahead of a body, do not count, for every input. Conditions: none but the statement itself (the listed tables as the card ties them).
-/
import Derived.Test.YtghnfeflknfclaaDoorLa
import Derived.Test.YtghnfeflknfclaaDoorWc
import Derived.Test.YtghnfeflknfclaaDoorG7
set_option linter.unusedVariables false
set_option linter.unusedSimpArgs false
set_option maxRecDepth 100000
namespace Go.Proofs.YtghnfeflknfclaaDoor
open Go Go.ChangeShapes Go.WideShapes Go.ChangeAt Go.RowKit Go.Vc Go.Sh
theorem macroSame_lifted (os : Os) (started : os.Started) (H : Type) (enc : TypeId × Value → H) :
    ReturnsInHanded {} Tryd.checked os 12 .any (fun w args => (Rows.macroSameSpec.pre enc Tryd.prog Tryd.f12 [] false w args ∧ laidMetH Tryd.prog laidAll w) ∧ sizedMet enc Tryd.prog Tryd.f12 (OpenSpec.ofChange Rows.macroSameSpec) false w args) (Rows.macroSameSpec.post enc Tryd.prog Tryd.f12 false true false false) := by
  refine returnsInHanded_laid_shaped (C := Tryd.checked) (X := fun w _ => laidMetH Tryd.prog laidAll w) (fun _ _ _ hh h => h.of_heap hh) Tryd.own started (by kernel_rfl) Tryd.func12
    (ChangeSpec.witness_shaped (enc := enc) (C := Tryd.checked) (os := os) (X := fun w _ => laidMetH Tryd.prog laidAll w) false (World.doorLaid Tryd.prog 19 os) #[.string ⟨#[]⟩, .string ⟨#[]⟩, .string ⟨#[]⟩] 8 rfl (World.shaped_of_RefB (by kernel_rfl) (by kernel_rfl)) (by kernel_rfl) (by kernel_rfl) (by kernel_rfl) (door_met os _)) ?_
  intro W base args ds gs before hval hW hL hsh
  obtain ⟨m, hm⟩ := Tryd.maxLen hsh
  refine law_post (P := Tryd.prog) (n := 8) ⟨rfl, fun H ds h => ?_⟩ Tryd.laidOut (by kernel_rfl) (by kernel_rfl) (show Tryd.f12.resultTypes = #[4] by kernel_rfl) Tryd.underlying4 hval hW (H0 := H0 m) (H0_dom m) (H0_heap hL hm) fun xs hx => ?_
  · match ds, h with
    | [x0, x1, x2], _ => rfl
  · rw [Tryd.params12] at hx
    obtain ⟨a0, r, w0, rfl, h1⟩ := ArgsC.string Tryd.underlying9 hx
    obtain ⟨a1, r, w1, rfl, h2⟩ := ArgsC.string Tryd.underlying9 h1
    obtain ⟨a2, r, w2, rfl, h3⟩ := ArgsC.string Tryd.underlying9 h2
    cases h3
    exact (w_emendlaw06_MacroSame (H0_glob m) (macroSame_law a0 a1 a2)).mono (fun v H h => h.1) (fun _ _ h => h)
theorem macroSame_row : Rows.MacroSameSaid :=
  OpenClaim.holds_of_wide 12 Tryd.f12 rfl rfl rfl rfl rfl rfl rfl ⟨rfl, rfl, rfl, rfl, rfl⟩ rfl rfl rfl rfl rfl (by kernel_rfl) Tryd.func12 (by kernel_rfl)
    (of_decide_eq_true (by kernel_rfl)) (by unfold Func.isWrapper; first | (rw [if_pos (by decide +kernel)]; kernel_rfl) | (rw [if_neg (by decide +kernel)]; exact ⟨rfl, rfl⟩))
    (fun os started H enc _ => macroSame_lifted os started H enc)
theorem macroSame_holds : Rows.MacroSameCardSaid :=
  Claim7.holds_tied_plain_at .later [] _ _ _ _
    macroSame_row (fun _ h => by cases h) (by kernel_rfl) (fun _ h => by cases h) macroSame_row_tie rfl ⟨rfl, rfl⟩ (by kernel_rfl) rfl
    (fun f fn hf hfn => by
      obtain rfl : f = 12 := Option.some.inj ((show Tryd.prog.funcNamed "emend/emendlaw06.MacroSame" = some 12 by kernel_rfl).symm.trans hf) |>.symm
      obtain rfl : fn = Tryd.f12 := (Option.some.inj (Tryd.func12.symm.trans hfn)).symm
      exact ⟨by kernel_rfl, fun j t ht => by
        rw [Tryd.params12] at ht
        have hm : t ∈ [9, 9, 9] := by simpa using Array.mem_of_getElem? ht
        have hall : ([9, 9, 9].all fun u => !Tryd.prog.wantsStandIn u) = true := by kernel_rfl
        exact (show Tryd.prog.wantsStandIn t = false by simpa using List.all_eq_true.1 hall t hm)⟩)
    (by kernel_rfl)
end Go.Proofs.YtghnfeflknfclaaDoor
