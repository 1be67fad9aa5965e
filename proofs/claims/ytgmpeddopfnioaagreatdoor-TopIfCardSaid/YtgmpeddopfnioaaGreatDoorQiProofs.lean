/-
  Proved: TopIf: a branch is taken just if its expression's value is not 0, for every input. Conditions: none but the statement itself (the listed tables as the card ties them).
-/
import Derived.Test.YtgmpeddopfnioaaGreatDoorQiLa
import Derived.Test.YtgmpeddopfnioaaGreatDoorQiWe
import Derived.Test.YtgmpeddopfnioaaGreatDoorQiD1x

set_option linter.unusedVariables false
set_option linter.unusedSimpArgs false
set_option maxRecDepth 100000
namespace Go.Proofs.YtgmpeddopfnioaaGreatDoor
open Go Go.ChangeShapes Go.WideShapes Go.ChangeAt Go.RowKit Go.Vc Go.Sh
theorem topIf_lifted (os : Os) (started : os.Started) (H : Type) (enc : TypeId × Value → H) :
  ReturnsInHanded {} Tryz.checked os 6 .any (fun w args => (Rows.topIfSpec.pre enc Tryz.prog Tryz.f6 [] false w args ∧ laidMetH Tryz.prog laidAll w) ∧ sizedMet enc Tryz.prog Tryz.f6 (OpenSpec.ofChange Rows.topIfSpec) false w args) (Rows.topIfSpec.post enc Tryz.prog Tryz.f6 false true false false) := by
 refine returnsInHanded_laid_shaped (C := Tryz.checked) (X := fun w _ => laidMetH Tryz.prog laidAll w) (fun _ _ _ hh h => h.of_heap hh) Tryz.own started (by kernel_rfl) Tryz.func6
  (ChangeSpec.witness_shaped (enc := enc) (C := Tryz.checked) (os := os) (X := fun w _ => laidMetH Tryz.prog laidAll w) false (wit os) #[.string ⟨#[]⟩] 8 (wit_os _) (World.shaped_of_ZipB (by kernel_rfl) (by kernel_rfl)) (by kernel_rfl) (by kernel_rfl) (by kernel_rfl) (door_met os _)) ?_
 intro W base args ds gs before hval hW hL hsh
 obtain ⟨m, hm⟩ := Tryz.maxLen hsh
 refine law_post (P := Tryz.prog) (n := 8) ⟨rfl, fun H ds h => ?_⟩ Tryz.laidOut (by kernel_rfl) (by kernel_rfl) (show Tryz.f6.resultTypes = #[4] by kernel_rfl) Tryz.underlying4 hval hW (H0 := H0 m) (H0_dom m) (H0_heap hL hm) fun xs hx => ?_
 ·match ds, h with
  | [x0], _ => rfl
 ·rw [Tryz.params6] at hx
  obtain ⟨a0, r, w0, rfl, h1⟩ := ArgsC.string Tryz.underlying9 hx
  cases h1
  exact (w_emendtop_TopIf (H0_glob m) (topIf_law a0)).mono (fun v H h => h.1) (fun _ _ h => h)
theorem topIf_row : Rows.TopIfSaid :=
 OpenClaim.holds_of_wide 6 Tryz.f6 rfl rfl rfl rfl rfl rfl rfl ⟨rfl, rfl, rfl, rfl, rfl⟩ rfl rfl rfl rfl rfl (by kernel_rfl) Tryz.func6 (by kernel_rfl)
  (of_decide_eq_true (by kernel_rfl)) (by unfold Func.isWrapper; first | (rw [if_pos (by decide +kernel)]; kernel_rfl) | (rw [if_neg (by decide +kernel)]; exact ⟨rfl, rfl⟩))
  (fun os started H enc _ => topIf_lifted os started H enc)
theorem topIf_holds : Rows.TopIfCardSaid :=
  Claim7.holds_tied_plain_at .later [] _ _ _ _
    topIf_row (fun _ h => by cases h) (by kernel_rfl) (fun _ h => by cases h) topIf_row_tie rfl ⟨rfl, rfl⟩ (by kernel_rfl) rfl
    (fun f fn hf hfn => by
      obtain rfl : f = 6 := Option.some.inj ((show Tryz.prog.funcNamed "emend/emendtop.TopIf" = some 6 by kernel_rfl).symm.trans hf) |>.symm
      obtain rfl : fn = Tryz.f6 := (Option.some.inj (Tryz.func6.symm.trans hfn)).symm
      exact ⟨by kernel_rfl, fun j t ht => by
        rw [Tryz.params6] at ht
        have hm : t ∈ [9] := by simpa using Array.mem_of_getElem? ht
        have hall : ([9].all fun u => !Tryz.prog.wantsStandIn u) = true := by kernel_rfl
        exact (show Tryz.prog.wantsStandIn t = false by simpa using List.all_eq_true.1 hall t hm)⟩)
    (by kernel_rfl)
end Go.Proofs.YtgmpeddopfnioaaGreatDoor
