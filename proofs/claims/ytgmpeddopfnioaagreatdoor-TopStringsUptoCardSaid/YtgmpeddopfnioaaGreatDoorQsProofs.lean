/-
  Proved: TopStrings: what a macro makes a string of its argument says what that was, where what is read is of the second form's bulk. Conditions: none but the statement itself (the listed tables as the card ties them).
-/
import Derived.Test.YtgmpeddopfnioaaGreatDoorQsLa
import Derived.Test.YtgmpeddopfnioaaGreatDoorQsWe
import Derived.Test.YtgmpeddopfnioaaGreatDoorQsD1x
import Derived.Test.YtgmpeddopfnioaaGreatDoorQsUp

set_option linter.unusedVariables false
set_option linter.unusedSimpArgs false
set_option maxRecDepth 100000
namespace Go.Proofs.YtgmpeddopfnioaaGreatDoor
open Go Go.ChangeShapes Go.WideShapes Go.ChangeAt Go.RowKit Go.Vc Go.Sh
theorem topStrings_lifted (os : Os) (started : os.Started) (H : Type) (enc : TypeId × Value → H) (F : Stop.Interp) :
    ReturnsInHanded {} Tryz.checked os 7 .any ((Rows.OpenSpec.upto Rows.topStringsSpec).preRow enc Tryz.prog Tryz.f7 Rows.topStringsUptoRow.domain false Rows.topStringsUptoRow.laid) (((Rows.OpenSpec.upto Rows.topStringsSpec).at F).post enc Tryz.prog Tryz.f7 false true false false) := by
  refine returnsInHanded_of_row (C := Tryz.checked) (s := Rows.OpenSpec.upto Rows.topStringsSpec) Tryz.own started (by kernel_rfl) Tryz.func7
    ⟨wit os, fun _ _ => 0, ⟨#[], #[.string ⟨#[]⟩], []⟩, (wit_os _), (World.shaped_of_ZipB (by kernel_rfl) (by kernel_rfl)), rfl, (Input.okWide_of_okWideB (base := 0) (by kernel_rfl)).2, OpenSpec.preRow_of_cond 8 (x := ([.lit (.string [])], [], [])) (by kernel_rfl) (by kernel_rfl) (fun k hk => by cases hk; kernel_rfl) (by kernel_rfl) (door_met os _), by
      simp only [Assume.holds]
      exact ⟨by simp, by simp, fun _ => Modest.zero, by simp, by simp⟩⟩ ?_
  intro W base args ds gs before hval hW _ hcond _ hL hsh _
  have hcond := hcond _ rfl
  obtain ⟨m, hm⟩ := Tryz.maxLen hsh
  refine law_postU (s := Rows.topStringsSpec) (P := Tryz.prog) (n := 8) ⟨rfl, fun H ds h => ?_⟩ Tryz.laidOut (by kernel_rfl) (by kernel_rfl) (show Tryz.f7.resultTypes = #[4] by kernel_rfl) Tryz.underlying4 hval hW hcond (H0 := H0 m) (H0_dom m) (H0_heap hL hm) fun xs hx hb => ?_
  · match ds, h with
    | [x0], _ => rfl
  · rw [Tryz.params7] at hx
    obtain ⟨a0, r, w0, rfl, h1⟩ := ArgsC.string Tryz.underlying9 hx
    cases h1
    exact (w_emendtop_TopStrings (H0_glob m) (topStrings_law a0 (by simp only [avAs, avA, avB, ByteArray.size, List.size_toArray] at hb; omega))).mono (fun v H h => h.1) (fun _ _ h => h)
theorem topStrings_row : Rows.TopStringsUptoSaid :=
 OpenClaim.holds_of_cond 7 Tryz.f7 rfl rfl rfl rfl rfl rfl rfl ⟨rfl, rfl, rfl, rfl, rfl⟩ rfl rfl rfl rfl rfl (by kernel_rfl) Tryz.func7 (by kernel_rfl)
  (of_decide_eq_true (by kernel_rfl)) (by unfold Func.isWrapper; first | (rw [if_pos (by decide +kernel)]; kernel_rfl) | (rw [if_neg (by decide +kernel)]; exact ⟨rfl, rfl⟩))
  (fun os started H enc _ F => by rw [OpenClaim.pre_eq_preRow]; exact topStrings_lifted os started H enc F)
theorem topStrings_holds : Rows.TopStringsUptoCardSaid :=
  Claim7.holds_tied_plain_at .later [] _ _ _ _
    topStrings_row (fun _ h => by cases h) (by kernel_rfl) (fun _ h => by cases h) topStringsUpto_row_tie rfl ⟨rfl, rfl⟩ (by kernel_rfl) rfl
    (fun f fn hf hfn => by
      obtain rfl : f = 7 := Option.some.inj ((show Tryz.prog.funcNamed "emend/emendtop.TopStrings" = some 7 by kernel_rfl).symm.trans hf) |>.symm
      obtain rfl : fn = Tryz.f7 := (Option.some.inj (Tryz.func7.symm.trans hfn)).symm
      exact ⟨by kernel_rfl, fun j t ht => by
        rw [Tryz.params7] at ht
        have hm : t ∈ [9] := by simpa using Array.mem_of_getElem? ht
        have hall : ([9].all fun u => !Tryz.prog.wantsStandIn u) = true := by kernel_rfl
        exact (show Tryz.prog.wantsStandIn t = false by simpa using List.all_eq_true.1 hall t hm)⟩)
    (by kernel_rfl)
end Go.Proofs.YtgmpeddopfnioaaGreatDoor
