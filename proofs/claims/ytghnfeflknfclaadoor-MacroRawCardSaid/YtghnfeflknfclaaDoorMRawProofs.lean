/-
  Proved: MacroRaw: the macro of any tokens is as the document says, for every input. Conditions: none but the statement itself (the listed tables as the card ties them).
-/
import Derived.Test.YtghnfeflknfclaaDoorLa
import Derived.Test.YtghnfeflknfclaaDoorWc
import Derived.Test.YtghnfeflknfclaaDoorG5
set_option linter.unusedVariables false
set_option linter.unusedSimpArgs false
set_option maxRecDepth 100000
namespace Go.Proofs.YtghnfeflknfclaaDoor
open Go Go.ChangeShapes Go.WideShapes Go.ChangeAt Go.RowKit Go.Vc Go.Sh
theorem macroRaw_lifted (os : Os) (started : os.Started) (H : Type) (enc : TypeId × Value → H) :
    ReturnsInHanded {} Tryd.checked os 10 .any (fun w args => (Rows.macroRawSpec.pre enc Tryd.prog Tryd.f10 [] false w args ∧ laidMetH Tryd.prog laidAll w) ∧ sizedMet enc Tryd.prog Tryd.f10 (OpenSpec.ofChange Rows.macroRawSpec) false w args) (Rows.macroRawSpec.post enc Tryd.prog Tryd.f10 false true false false) := by
  refine returnsInHanded_laid_sized (C := Tryd.checked) (X := fun w _ => laidMetH Tryd.prog laidAll w) (fun _ _ _ hh h => h.of_heap hh) Tryd.own started (by kernel_rfl) Tryd.func10
    (ChangeSpec.witness_shaped (enc := enc) (C := Tryd.checked) (os := os) (X := fun w _ => laidMetH Tryd.prog laidAll w) false (World.doorLaid Tryd.prog 19 os) #[.slice none 0 0] 8 rfl (World.shaped_of_RefB (by kernel_rfl) (by kernel_rfl)) (by kernel_rfl) (by kernel_rfl) (by kernel_rfl) (door_met os _)) ?_
  intro W base args ds gs before hval hW hL hsh hsz
  obtain ⟨m, hm⟩ := Tryd.maxLen hsh
  refine law_postV (P := Tryd.prog) (n := 8) ⟨rfl, fun H ds h => ?_⟩ Tryd.laidOut (by kernel_rfl) (by kernel_rfl) (show Tryd.f10.resultTypes = #[4] by kernel_rfl) Tryd.underlying4 hval hW (H0 := H0 m) (H0_dom m) (H0_heap hL hm) fun xs hx hv => ?_
  · match ds, h with
    | [x0], _ => rfl
  · rw [Tryd.params10] at hx
    obtain ⟨es0, r, w0, rfl, hy0, h1⟩ := ArgsC.slice Tryd.underlying25 hx
    obtain ⟨a0, rfl, v0⟩ := GTok_typed es0 hy0
    cases h1
    obtain ⟨p, q, hA, hV, _⟩ := hW
    have hgs : gs = [] := (trodVars_none hV).1
    subst hgs
    rw [List.append_nil] at hsz
    have hsz' : (DataW.weightsEach Tryd.prog Tryd.f10.params.toList ds).all (· ≤ reachBytes) = true := hsz
    rw [Tryd.params10] at hA hsz'
    have hlen := first_len hA Tryd.underlying25 hv (show Tryd.prog.bytesOf 38 = 56 by kernel_rfl) hsz'
    rw [List.length_map] at hlen
    unfold reachBytes at hlen
    exact (w_emendlaw06_MacroRaw (H0_glob m) (macroRaw_law a0 (by omega))).mono (fun v H h => h.1) (fun _ _ h => h)
theorem macroRaw_row : Rows.MacroRawSaid :=
  OpenClaim.holds_of_wide 10 Tryd.f10 rfl rfl rfl rfl rfl rfl rfl ⟨rfl, rfl, rfl, rfl, rfl⟩ rfl rfl rfl rfl rfl (by kernel_rfl) Tryd.func10 (by kernel_rfl)
    (of_decide_eq_true (by kernel_rfl)) (by unfold Func.isWrapper; first | (rw [if_pos (by decide +kernel)]; kernel_rfl) | (rw [if_neg (by decide +kernel)]; exact ⟨rfl, rfl⟩))
    (fun os started H enc _ => macroRaw_lifted os started H enc)
theorem macroRaw_holds : Rows.MacroRawCardSaid :=
  Claim7.holds_tied_plain_at .later [] _ _ _ _
    macroRaw_row (fun _ h => by cases h) (by kernel_rfl) (fun _ h => by cases h) macroRaw_row_tie rfl ⟨rfl, rfl⟩ (by kernel_rfl) rfl
    (fun f fn hf hfn => by
      obtain rfl : f = 10 := Option.some.inj ((show Tryd.prog.funcNamed "emend/emendlaw06.MacroRaw" = some 10 by kernel_rfl).symm.trans hf) |>.symm
      obtain rfl : fn = Tryd.f10 := (Option.some.inj (Tryd.func10.symm.trans hfn)).symm
      exact ⟨by kernel_rfl, fun j t ht => by
        rw [Tryd.params10] at ht
        have hm : t ∈ [25] := by simpa using Array.mem_of_getElem? ht
        have hall : ([25].all fun u => !Tryd.prog.wantsStandIn u) = true := by kernel_rfl
        exact (show Tryd.prog.wantsStandIn t = false by simpa using List.all_eq_true.1 hall t hm)⟩)
    (by kernel_rfl)
end Go.Proofs.YtghnfeflknfclaaDoor
