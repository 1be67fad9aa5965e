/-
  The code computes what the plain functions say. Printed by a tool.
-/
import Derived.Test.YtdbcklichbiihaaDoorT2
import Derived.Test.YtdbcklichbiihaaDoorMb
set_option linter.unusedVariables false
set_option linter.unusedSimpArgs false
set_option maxRecDepth 20000
set_option maxHeartbeats 8000000
namespace Go.Proofs.YtdbcklichbiihaaDoor
open Go Go.Vc Go.Sh
attribute [local irreducible] WpC WpOps WpPi WpO Exact TCall VEnds Sh.loopS
theorem ek32 : ElemOk Tryd.prog 32 39 2 32 := ElemOk.of (by kernel_rfl)
theorem w_cmp_isNaN_string {H0 : Heap} {x_1 : List UInt8} {r : Bool} (h : cmp_isNaN_string x_1 = some r) : TCall Tryd.prog 99 [(sA x_1)] H0 (fun v H' => v = (bA r) ∧ H' = H0) noE := by
  refine id (TCall.body Tryd.func99 rfl rfl ?_)
  have hH : Holds H0 [] H0 := rfl
  refine WpC.seqR ?_
  refine WpOps.pn 1 rfl trivial ?_
  refine WpOps.nil ?_
  refine WpC.seqR ?_
  refine WpOps.pn 4 rfl trivial ?_
  refine WpOps.nil ?_
  obtain rfl := Sh.some_inj h
  refine WpC.ret ?_
  exact VEnds.ret1 rfl rfl ⟨rfl, hH⟩

theorem w_cmp_Less_string {H0 : Heap} {x_1 : List UInt8} {y_1 : List UInt8} {r : Bool} (h : cmp_Less_string x_1 y_1 = some r) : TCall Tryd.prog 80 [(sA x_1), (sA y_1)] H0 (fun v H' => v = (bA r) ∧ H' = H0) noE := by
  refine id (TCall.body Tryd.func80 rfl rfl ?_)
  have hH : Holds H0 [] H0 := rfl
  refine WpC.seqR ?_
  refine WpOps.pn 1 rfl trivial ?_
  refine WpOps.nil ?_
  refine WpC.seqR ?_
  obtain ⟨r_1, hr_1, h⟩ := Sh.bind_some h
  refine WpOps.pn 1 rfl trivial ?_
  refine WpOps.consE (v := (bA r_1)) rfl rfl (Exact.call rfl rfl rfl (w_cmp_isNaN_string hr_1)) ?_
  obtain ⟨b_1, g_1, h⟩ := Sh.bind_some h
  refine WpOps.cutB 5 11 (bA b_1) rfl ?_ ?_
  ·
    refine WpOps.pn 1 rfl trivial ?_
    refine WpOps.split 7 rfl (fun hb => ?_) (fun hb => ?_)
    ·
      replace g_1 := Sh.ite_pos hb g_1
      obtain ⟨r_2, hr_2, g_1⟩ := Sh.bind_some g_1
      refine WpOps.pn 1 rfl trivial ?_
      refine WpOps.consE (v := (bA r_2)) rfl rfl (Exact.call rfl rfl rfl (w_cmp_isNaN_string hr_2)) ?_
      refine WpOps.pn 2 rfl trivial ?_
      refine WpOps.nil ?_
      obtain rfl := Sh.some_inj g_1
      exact ⟨rfl, rfl⟩
    ·
      replace g_1 := Sh.ite_neg hb g_1
      refine WpOps.pn 4 rfl trivial ?_
      refine WpOps.nil ?_
      obtain rfl := Sh.some_inj g_1
      exact ⟨rfl, rfl⟩
  intro env
  obtain ⟨b_2, g_2, h⟩ := Sh.bind_some h
  refine WpOps.cutB 5 16 (bA b_2) rfl ?_ ?_
  ·
    refine WpOps.pn 1 rfl trivial ?_
    refine WpOps.split 12 rfl (fun hb => ?_) (fun hb => ?_)
    ·
      replace g_2 := Sh.ite_pos hb g_2
      refine WpOps.pn 4 rfl trivial ?_
      refine WpOps.nil ?_
      obtain rfl := Sh.some_inj g_2
      exact ⟨rfl, rfl⟩
    ·
      replace g_2 := Sh.ite_neg hb g_2
      refine WpOps.pn 4 rfl trivial ?_
      refine WpOps.nil ?_
      obtain rfl := Sh.some_inj g_2
      exact ⟨rfl, rfl⟩
  intro env
  refine WpOps.pn 1 rfl trivial ?_
  refine WpOps.nil ?_
  obtain rfl := Sh.some_inj h
  refine WpC.ret ?_
  exact VEnds.ret1 rfl rfl ⟨rfl, hH⟩

theorem w_emendlaw11_awake {H0 : Heap} (hG : Glob H0)  {r : Bool} (h : emendlaw11_awake  = some r) : TCall Tryd.prog 8 [] H0 (fun v H' => v = (bA r) ∧ H' = H0) noE := by
  refine id (TCall.body Tryd.func8 rfl rfl ?_)
  have hH : Holds H0 [] H0 := rfl
  refine WpC.seqR ?_
  refine WpOps.pn 1 rfl trivial ?_
  refine WpOps.nil ?_
  refine WpC.seqR ?_
  refine WpOps.pn 1 rfl trivial ?_
  refine WpOps.consE (v := (AV.rows 2 (List.map cGFile ([(GFile.mk ([97, 46, 99] : List UInt8) emendlaw11_awake_l0)] : List GFile)))) rfl rfl (Exact.litSlice rfl (by kernel_rfl)) ?_
  refine WpOps.pn 1 rfl trivial ?_
  refine WpOps.nil ?_
  refine WpC.seqR ?_
  obtain ⟨r_1, hr_1, h⟩ := Sh.bind_some h
  refine WpOps.pn 1 rfl trivial ?_
  refine WpOps.consE (v := (.tup [(AV.rows 1 (List.map cS r_1.1)), (iA r_1.2)])) rfl rfl (Exact.call rfl rfl rfl (w_world_Names (hG.up hH) hr_1)) ?_
  refine WpOps.pn 5 rfl trivial ?_
  refine WpOps.nil ?_
  refine WpC.seqR ?_
  obtain ⟨r_2, hr_2, h⟩ := Sh.bind_some h
  refine WpOps.pn 1 rfl trivial ?_
  refine WpOps.consE (v := (AV.rows 1 (List.map cS r_2))) rfl rfl (Exact.call rfl rfl rfl (w_world_Known (hG.up hH) hr_2)) ?_
  refine WpOps.pn 1 rfl trivial ?_
  refine WpOps.nil ?_
  refine WpC.seqR ?_
  refine WpOps.consE (v := (AV.rows 1 (List.map cS ([([65] : List UInt8), ([66] : List UInt8), ([67] : List UInt8)] : List (List UInt8))))) rfl rfl (Exact.litSlice rfl (by kernel_rfl)) ?_
  obtain ⟨r_3, hr_3, h⟩ := Sh.bind_some h
  refine WpOps.consE (v := (.tup [(AV.rows 1 (List.map cS r_3.1)), (iA r_3.2)])) rfl rfl (Exact.call rfl rfl rfl (w_world_Defs hr_3)) ?_
  refine WpOps.pn 5 rfl trivial ?_
  refine WpOps.nil ?_
  refine WpC.seqR ?_
  refine WpOps.consE (v := (AV.rows 1 (List.map cS ([([65] : List UInt8), ([66] : List UInt8), ([67] : List UInt8)] : List (List UInt8))))) rfl rfl (Exact.litSlice rfl (by kernel_rfl)) ?_
  refine WpOps.consE (v := (AV.rows 1 (List.map cS ([([67] : List UInt8), ([65] : List UInt8)] : List (List UInt8))))) rfl rfl (Exact.litSlice rfl (by kernel_rfl)) ?_
  obtain ⟨r_4, hr_4, h⟩ := Sh.bind_some h
  refine WpOps.consE (v := (.tup [(iA r_4.1), (iA r_4.2)])) rfl rfl (Exact.call rfl rfl rfl (w_world_Set hr_4)) ?_
  refine WpOps.pn 5 rfl trivial ?_
  refine WpOps.nil ?_
  refine WpC.seqR ?_
  refine WpOps.consE (v := (AV.rows 1 (List.map cS ([([65] : List UInt8)] : List (List UInt8))))) rfl rfl (Exact.litSlice rfl (by kernel_rfl)) ?_
  refine WpOps.consE (v := (AV.rows 1 (List.map cS ([([66] : List UInt8)] : List (List UInt8))))) rfl rfl (Exact.litSlice rfl (by kernel_rfl)) ?_
  obtain ⟨r_5, hr_5, h⟩ := Sh.bind_some h
  refine WpOps.consE (v := (.tup [(iA r_5.1), (iA r_5.2)])) rfl rfl (Exact.call rfl rfl rfl (w_world_Set hr_5)) ?_
  refine WpOps.pn 5 rfl trivial ?_
  refine WpOps.nil ?_
  refine WpC.seqR ?_
  refine WpOps.pn 4 rfl trivial ?_
  refine WpOps.consE (v := (AV.rows 2 (List.map cGFile emendlaw11_awake_l1))) rfl rfl (Exact.litSlice rfl (by kernel_rfl)) ?_
  obtain ⟨r_6, hr_6, h⟩ := Sh.bind_some h
  refine WpOps.consE (v := (AV.rows 1 (List.map cS r_6))) rfl rfl (Exact.call rfl rfl rfl (w_world_Mains hr_6)) ?_
  refine WpOps.pn 1 rfl trivial ?_
  refine WpOps.nil ?_
  refine WpC.seqR ?_
  refine WpOps.pn 1 rfl trivial ?_
  refine WpOps.consE (v := (AV.rows 1 (List.map cS ([([65] : List UInt8), ([66] : List UInt8), ([67] : List UInt8)] : List (List UInt8))))) rfl rfl (Exact.litSlice rfl (by kernel_rfl)) ?_
  obtain ⟨r_7, hr_7, h⟩ := Sh.bind_some h
  refine WpOps.consE (v := (bA r_7)) rfl rfl (Exact.call rfl rfl rfl (w_emendref11_Same hr_7)) ?_
  obtain ⟨b_1, g_1, h⟩ := Sh.bind_some h
  refine WpOps.cutB 4 50 (bA b_1) rfl ?_ ?_
  ·
    refine WpOps.pn 1 rfl trivial ?_
    refine WpOps.split 47 rfl (fun hb => ?_) (fun hb => ?_)
    ·
      replace g_1 := Sh.ite_pos hb g_1
      refine WpOps.pn 3 rfl trivial ?_
      refine WpOps.nil ?_
      obtain rfl := Sh.some_inj g_1
      exact ⟨rfl, rfl⟩
    ·
      replace g_1 := Sh.ite_neg hb g_1
      refine WpOps.pn 3 rfl trivial ?_
      refine WpOps.nil ?_
      obtain rfl := Sh.some_inj g_1
      exact ⟨rfl, rfl⟩
  intro env
  obtain ⟨b_2, g_2, h⟩ := Sh.bind_some h
  refine WpOps.cutB 5 55 (bA b_2) rfl ?_ ?_
  ·
    refine WpOps.pn 1 rfl trivial ?_
    refine WpOps.split 51 rfl (fun hb => ?_) (fun hb => ?_)
    ·
      replace g_2 := Sh.ite_pos hb g_2
      refine WpOps.pn 1 rfl trivial ?_
      refine WpOps.consE (v := (AV.rows 1 (List.map cS ([([88] : List UInt8)] : List (List UInt8))))) rfl rfl (Exact.litSlice rfl (by kernel_rfl)) ?_
      obtain ⟨r_8, hr_8, g_2⟩ := Sh.bind_some g_2
      refine WpOps.consE (v := (bA r_8)) rfl rfl (Exact.call rfl rfl rfl (w_emendref11_Same hr_8)) ?_
      refine WpOps.pn 1 rfl trivial ?_
      refine WpOps.nil ?_
      obtain rfl := Sh.some_inj g_2
      exact ⟨rfl, rfl⟩
    ·
      replace g_2 := Sh.ite_neg hb g_2
      refine WpOps.pn 4 rfl trivial ?_
      refine WpOps.nil ?_
      obtain rfl := Sh.some_inj g_2
      exact ⟨rfl, rfl⟩
  intro env
  obtain ⟨b_3, g_3, h⟩ := Sh.bind_some h
  refine WpOps.cutB 5 60 (bA b_3) rfl ?_ ?_
  ·
    refine WpOps.pn 1 rfl trivial ?_
    refine WpOps.split 56 rfl (fun hb => ?_) (fun hb => ?_)
    ·
      replace g_3 := Sh.ite_pos hb g_3
      refine WpOps.pn 1 rfl trivial ?_
      refine WpOps.consE (v := (AV.rows 1 (List.map cS ([([65] : List UInt8), ([67] : List UInt8)] : List (List UInt8))))) rfl rfl (Exact.litSlice rfl (by kernel_rfl)) ?_
      obtain ⟨r_9, hr_9, g_3⟩ := Sh.bind_some g_3
      refine WpOps.consE (v := (bA r_9)) rfl rfl (Exact.call rfl rfl rfl (w_emendref11_Same hr_9)) ?_
      refine WpOps.pn 1 rfl trivial ?_
      refine WpOps.nil ?_
      obtain rfl := Sh.some_inj g_3
      exact ⟨rfl, rfl⟩
    ·
      replace g_3 := Sh.ite_neg hb g_3
      refine WpOps.pn 4 rfl trivial ?_
      refine WpOps.nil ?_
      obtain rfl := Sh.some_inj g_3
      exact ⟨rfl, rfl⟩
  intro env
  obtain ⟨b_4, g_4, h⟩ := Sh.bind_some h
  refine WpOps.cutB 4 64 (bA b_4) rfl ?_ ?_
  ·
    refine WpOps.pn 1 rfl trivial ?_
    refine WpOps.split 61 rfl (fun hb => ?_) (fun hb => ?_)
    ·
      replace g_4 := Sh.ite_pos hb g_4
      refine WpOps.pn 3 rfl trivial ?_
      refine WpOps.nil ?_
      obtain rfl := Sh.some_inj g_4
      exact ⟨rfl, rfl⟩
    ·
      replace g_4 := Sh.ite_neg hb g_4
      refine WpOps.pn 3 rfl trivial ?_
      refine WpOps.nil ?_
      obtain rfl := Sh.some_inj g_4
      exact ⟨rfl, rfl⟩
  intro env
  obtain ⟨b_5, g_5, h⟩ := Sh.bind_some h
  refine WpOps.cutB 4 68 (bA b_5) rfl ?_ ?_
  ·
    refine WpOps.pn 1 rfl trivial ?_
    refine WpOps.split 65 rfl (fun hb => ?_) (fun hb => ?_)
    ·
      replace g_5 := Sh.ite_pos hb g_5
      refine WpOps.pn 3 rfl trivial ?_
      refine WpOps.nil ?_
      obtain rfl := Sh.some_inj g_5
      exact ⟨rfl, rfl⟩
    ·
      replace g_5 := Sh.ite_neg hb g_5
      refine WpOps.pn 3 rfl trivial ?_
      refine WpOps.nil ?_
      obtain rfl := Sh.some_inj g_5
      exact ⟨rfl, rfl⟩
  intro env
  obtain ⟨b_6, g_6, h⟩ := Sh.bind_some h
  refine WpOps.cutB 4 72 (bA b_6) rfl ?_ ?_
  ·
    refine WpOps.pn 1 rfl trivial ?_
    refine WpOps.split 69 rfl (fun hb => ?_) (fun hb => ?_)
    ·
      replace g_6 := Sh.ite_pos hb g_6
      refine WpOps.pn 3 rfl trivial ?_
      refine WpOps.nil ?_
      obtain rfl := Sh.some_inj g_6
      exact ⟨rfl, rfl⟩
    ·
      replace g_6 := Sh.ite_neg hb g_6
      refine WpOps.pn 3 rfl trivial ?_
      refine WpOps.nil ?_
      obtain rfl := Sh.some_inj g_6
      exact ⟨rfl, rfl⟩
  intro env
  obtain ⟨b_7, g_7, h⟩ := Sh.bind_some h
  refine WpOps.cutB 4 76 (bA b_7) rfl ?_ ?_
  ·
    refine WpOps.pn 1 rfl trivial ?_
    refine WpOps.split 73 rfl (fun hb => ?_) (fun hb => ?_)
    ·
      replace g_7 := Sh.ite_pos hb g_7
      refine WpOps.pn 3 rfl trivial ?_
      refine WpOps.nil ?_
      obtain rfl := Sh.some_inj g_7
      exact ⟨rfl, rfl⟩
    ·
      replace g_7 := Sh.ite_neg hb g_7
      refine WpOps.pn 3 rfl trivial ?_
      refine WpOps.nil ?_
      obtain rfl := Sh.some_inj g_7
      exact ⟨rfl, rfl⟩
  intro env
  obtain ⟨b_8, g_8, h⟩ := Sh.bind_some h
  refine WpOps.cutB 5 81 (bA b_8) rfl ?_ ?_
  ·
    refine WpOps.pn 1 rfl trivial ?_
    refine WpOps.split 77 rfl (fun hb => ?_) (fun hb => ?_)
    ·
      replace g_8 := Sh.ite_pos hb g_8
      refine WpOps.pn 1 rfl trivial ?_
      refine WpOps.consE (v := (AV.rows 1 (List.map cS ([([97, 46, 99] : List UInt8), ([120, 47, 121, 46, 99] : List UInt8), ([46, 99] : List UInt8)] : List (List UInt8))))) rfl rfl (Exact.litSlice rfl (by kernel_rfl)) ?_
      obtain ⟨r_10, hr_10, g_8⟩ := Sh.bind_some g_8
      refine WpOps.consE (v := (bA r_10)) rfl rfl (Exact.call rfl rfl rfl (w_emendref11_Same hr_10)) ?_
      refine WpOps.pn 1 rfl trivial ?_
      refine WpOps.nil ?_
      obtain rfl := Sh.some_inj g_8
      exact ⟨rfl, rfl⟩
    ·
      replace g_8 := Sh.ite_neg hb g_8
      refine WpOps.pn 4 rfl trivial ?_
      refine WpOps.nil ?_
      obtain rfl := Sh.some_inj g_8
      exact ⟨rfl, rfl⟩
  intro env
  refine WpOps.pn 1 rfl trivial ?_
  refine WpOps.nil ?_
  obtain rfl := Sh.some_inj h
  refine WpC.ret ?_
  exact VEnds.ret1 rfl rfl ⟨rfl, hH⟩

theorem w_emendlaw11_WorldSets {H0 : Heap} (hG : Glob H0) {names_1 : List (List UInt8)} {set_1 : Int} {defs_1 : List (List UInt8)} {r : Bool} (h : emendlaw11_WorldSets names_1 set_1 defs_1 = some r) : TCall Tryd.prog 3 [(AV.rows 1 (List.map cS names_1)), (iA set_1), (AV.rows 1 (List.map cS defs_1))] H0 (fun v H' => v = (bA r) ∧ H' = H0) noE := by
  refine id (TCall.body Tryd.func3 rfl rfl ?_)
  have hH : Holds H0 [] H0 := rfl
  refine WpC.seqR ?_
  refine WpOps.pn 1 rfl trivial ?_
  refine WpOps.nil ?_
  refine WpC.seqR ?_
  obtain ⟨r_1, hr_1, h⟩ := Sh.bind_some h
  refine WpOps.consE (v := (bA r_1)) rfl rfl (Exact.call rfl rfl rfl (w_emendlaw11_awake (hG.up hH) hr_1)) ?_
  refine WpOps.pn 1 rfl trivial ?_
  refine WpOps.nil ?_
  refine WpC.seq ?_
  refine WpC.seqR ?_
  refine WpOps.pn 2 rfl trivial ?_
  refine WpOps.at 18 (len_map _ _) ?_
  refine WpOps.pn 1 rfl trivial ?_
  obtain ⟨b_1, g_1, h⟩ := Sh.bind_some h
  refine WpOps.cutB 5 24 (bA b_1) rfl ?_ ?_
  ·
    refine WpOps.pn 1 rfl trivial ?_
    refine WpOps.split 20 rfl (fun hb => ?_) (fun hb => ?_)
    ·
      replace g_1 := Sh.ite_pos hb g_1
      refine WpOps.pn 4 rfl trivial ?_
      refine WpOps.nil ?_
      obtain rfl := Sh.some_inj g_1
      exact ⟨rfl, rfl⟩
    ·
      replace g_1 := Sh.ite_neg hb g_1
      refine WpOps.pn 2 rfl trivial ?_
      refine WpOps.at 22 (len_map _ _) ?_
      refine WpOps.pn 2 rfl trivial ?_
      refine WpOps.nil ?_
      obtain rfl := Sh.some_inj g_1
      exact ⟨rfl, rfl⟩
  intro env
  refine WpOps.nil ?_
  refine WpC.condB rfl (fun hb => ?_) (fun hb => ?_)
  ·
    replace h := Sh.ite_pos hb h
    refine WpC.seqR ?_
    refine WpOps.pn 2 rfl trivial ?_
    refine WpOps.nil ?_
    obtain rfl := Sh.some_inj h
    refine WpC.ret ?_
    exact VEnds.ret1 rfl rfl ⟨rfl, hH⟩
  ·
    replace h := Sh.ite_neg hb h
    refine WpC.skipD ?_
    refine ⟨_, Heap.le_refl _, ?_⟩
    refine WpC.seqR ?_
    obtain ⟨r_2, hr_2, h⟩ := Sh.bind_some h
    refine WpOps.pn 2 rfl trivial ?_
    refine WpOps.consE (v := (.tup [(AV.rows 1 (List.map cS r_2.1)), (iA r_2.2)])) rfl rfl (Exact.call rfl rfl rfl (w_world_Defs hr_2)) ?_
    refine WpOps.pn 5 rfl trivial ?_
    refine WpOps.nil ?_
    refine WpC.seqR ?_
    obtain ⟨r_3, hr_3, h⟩ := Sh.bind_some h
    refine WpOps.pn 2 rfl trivial ?_
    refine WpOps.consE (v := (.tup [(AV.rows 1 (List.map cS r_3.1)), (iA r_3.2)])) rfl rfl (Exact.call rfl rfl rfl (w_emendref11_Defs hr_3)) ?_
    refine WpOps.pn 5 rfl trivial ?_
    refine WpOps.nil ?_
    refine WpC.seqR ?_
    obtain ⟨r_4, hr_4, h⟩ := Sh.bind_some h
    refine WpOps.pn 2 rfl trivial ?_
    refine WpOps.consE (v := (.tup [(iA r_4.1), (iA r_4.2)])) rfl rfl (Exact.call rfl rfl rfl (w_world_Set hr_4)) ?_
    refine WpOps.pn 5 rfl trivial ?_
    refine WpOps.nil ?_
    refine WpC.seqR ?_
    obtain ⟨r_5, hr_5, h⟩ := Sh.bind_some h
    refine WpOps.pn 2 rfl trivial ?_
    refine WpOps.consE (v := (.tup [(iA r_5.1), (iA r_5.2)])) rfl rfl (Exact.call rfl rfl rfl (w_emendref11_Set hr_5)) ?_
    refine WpOps.pn 5 rfl trivial ?_
    refine WpOps.nil ?_
    refine WpC.seqR ?_
    refine WpOps.pn 1 rfl trivial ?_
    obtain ⟨b_2, g_2, h⟩ := Sh.bind_some h
    refine WpOps.cutB 5 55 (bA b_2) rfl ?_ ?_
    ·
      refine WpOps.pn 1 rfl trivial ?_
      refine WpOps.split 51 rfl (fun hb => ?_) (fun hb => ?_)
      ·
        replace g_2 := Sh.ite_pos hb g_2
        refine WpOps.pn 4 rfl trivial ?_
        refine WpOps.nil ?_
        obtain rfl := Sh.some_inj g_2
        exact ⟨rfl, rfl⟩
      ·
        replace g_2 := Sh.ite_neg hb g_2
        refine WpOps.pn 4 rfl trivial ?_
        refine WpOps.nil ?_
        obtain rfl := Sh.some_inj g_2
        exact ⟨rfl, rfl⟩
    intro env
    obtain ⟨b_3, g_3, h⟩ := Sh.bind_some h
    refine WpOps.cutB 5 60 (bA b_3) rfl ?_ ?_
    ·
      refine WpOps.pn 1 rfl trivial ?_
      refine WpOps.split 56 rfl (fun hb => ?_) (fun hb => ?_)
      ·
        replace g_3 := Sh.ite_pos hb g_3
        obtain ⟨r_6, hr_6, g_3⟩ := Sh.bind_some g_3
        refine WpOps.pn 2 rfl trivial ?_
        refine WpOps.consE (v := (bA r_6)) rfl rfl (Exact.call rfl rfl rfl (w_emendref11_Same hr_6)) ?_
        refine WpOps.pn 1 rfl trivial ?_
        refine WpOps.nil ?_
        obtain rfl := Sh.some_inj g_3
        exact ⟨rfl, rfl⟩
      ·
        replace g_3 := Sh.ite_neg hb g_3
        refine WpOps.pn 4 rfl trivial ?_
        refine WpOps.nil ?_
        obtain rfl := Sh.some_inj g_3
        exact ⟨rfl, rfl⟩
    intro env
    obtain ⟨b_4, g_4, h⟩ := Sh.bind_some h
    refine WpOps.cutB 5 65 (bA b_4) rfl ?_ ?_
    ·
      refine WpOps.pn 1 rfl trivial ?_
      refine WpOps.split 61 rfl (fun hb => ?_) (fun hb => ?_)
      ·
        replace g_4 := Sh.ite_pos hb g_4
        refine WpOps.pn 4 rfl trivial ?_
        refine WpOps.nil ?_
        obtain rfl := Sh.some_inj g_4
        exact ⟨rfl, rfl⟩
      ·
        replace g_4 := Sh.ite_neg hb g_4
        refine WpOps.pn 4 rfl trivial ?_
        refine WpOps.nil ?_
        obtain rfl := Sh.some_inj g_4
        exact ⟨rfl, rfl⟩
    intro env
    obtain ⟨b_5, g_5, h⟩ := Sh.bind_some h
    refine WpOps.cutB 5 70 (bA b_5) rfl ?_ ?_
    ·
      refine WpOps.pn 1 rfl trivial ?_
      refine WpOps.split 66 rfl (fun hb => ?_) (fun hb => ?_)
      ·
        replace g_5 := Sh.ite_pos hb g_5
        refine WpOps.pn 4 rfl trivial ?_
        refine WpOps.nil ?_
        obtain rfl := Sh.some_inj g_5
        exact ⟨rfl, rfl⟩
      ·
        replace g_5 := Sh.ite_neg hb g_5
        refine WpOps.pn 4 rfl trivial ?_
        refine WpOps.nil ?_
        obtain rfl := Sh.some_inj g_5
        exact ⟨rfl, rfl⟩
    intro env
    refine WpOps.pn 1 rfl trivial ?_
    refine WpOps.nil ?_
    obtain rfl := Sh.some_inj h
    refine WpC.ret ?_
    exact VEnds.ret1 rfl rfl ⟨rfl, hH⟩

theorem w_emendlaw11_WorldBack {H0 : Heap} (hG : Glob H0) {names_1 : List (List UInt8)} {set_1 : Int} {other_1 : Int} {r : Bool} (h : emendlaw11_WorldBack names_1 set_1 other_1 = some r) : TCall Tryd.prog 4 [(AV.rows 1 (List.map cS names_1)), (iA set_1), (iA other_1)] H0 (fun v H' => v = (bA r) ∧ H' = H0) noE := by
  refine id (TCall.body Tryd.func4 rfl rfl ?_)
  have hH : Holds H0 [] H0 := rfl
  refine WpC.seqR ?_
  refine WpOps.pn 1 rfl trivial ?_
  refine WpOps.nil ?_
  refine WpC.seqR ?_
  obtain ⟨r_1, hr_1, h⟩ := Sh.bind_some h
  refine WpOps.consE (v := (bA r_1)) rfl rfl (Exact.call rfl rfl rfl (w_emendlaw11_awake (hG.up hH) hr_1)) ?_
  refine WpOps.pn 1 rfl trivial ?_
  refine WpOps.nil ?_
  refine WpC.seq ?_
  refine WpC.seqR ?_
  refine WpOps.pn 2 rfl trivial ?_
  refine WpOps.at 18 (len_map _ _) ?_
  refine WpOps.pn 1 rfl trivial ?_
  refine WpOps.nil ?_
  refine WpC.condB rfl (fun hb => ?_) (fun hb => ?_)
  ·
    replace h := Sh.ite_pos hb h
    refine WpC.seqR ?_
    refine WpOps.pn 2 rfl trivial ?_
    refine WpOps.nil ?_
    obtain rfl := Sh.some_inj h
    refine WpC.ret ?_
    exact VEnds.ret1 rfl rfl ⟨rfl, hH⟩
  ·
    replace h := Sh.ite_neg hb h
    refine WpC.skipD ?_
    refine ⟨_, Heap.le_refl _, ?_⟩
    refine WpC.seq ?_
    refine WpC.seqR ?_
    refine WpOps.pn 1 rfl trivial ?_
    refine WpOps.nil ?_
    refine WpC.blockK (fun x : (Unit) × (Unit) => [(0, (AV.rows 1 (List.map cS names_1))), (1, (iA set_1)), (2, (iA other_1)), (7, (bA r_1))]) (fun x H' => (emendlaw11_WorldBack_j1 names_1 set_1 other_1 r_1) x.1 = some r ∧ Holds H0 [] H') ?_ ?_
    ·
      obtain ⟨o_1, ho_1, hk_1⟩ := Sh.bind_some h
      refine WpC.loopS (emendlaw11_WorldBack_b2 names_1 r_1) (fun (s : Int) (a : Unit) => [(0, (AV.rows 1 (List.map cS names_1))), (1, (iA set_1)), (2, (iA other_1)), (7, (bA r_1)), (8, (iA s))]) (fun (s : Int) (a : Unit) H' => Holds H0 [] H') o_1 (0 : Int) () ho_1 ⟨rfl, rfl, rfl, rfl, rfl, trivial⟩ hH ?_
      rintro i_1 _ st_1 env H' h hd_1 hH
      refine WpC.seq ?_
      refine WpC.seqR ?_
      refine WpOps.pn 3 rfl trivial ?_
      refine WpOps.at 23 (len_map _ _) ?_
      refine WpOps.pn 1 rfl trivial ?_
      refine WpOps.nil ?_
      refine WpC.condB rfl (fun hb => ?_) (fun hb => ?_)
      ·
        replace h := Sh.ite_pos hb h
        refine WpC.skipD ?_
        refine ⟨_, Heap.le_refl _, ?_⟩
        refine WpC.seq ?_
        refine WpC.block ?_
        refine WpC.seqR ?_
        refine WpOps.pn 1 rfl trivial ?_
        refine WpOps.nil ?_
        refine WpC.blockK (fun x : (Unit) × (Unit) => [(0, (AV.rows 1 (List.map cS names_1))), (1, (iA set_1)), (2, (iA other_1)), (7, (bA r_1)), (8, (iA i_1))]) (fun x H' => (emendlaw11_WorldBack_j3 i_1) x.1 = some st_1 ∧ Holds H0 [] H') ?_ ?_
        ·
          obtain ⟨o_2, ho_2, hk_2⟩ := Sh.bind_some h
          refine WpC.loopS (emendlaw11_WorldBack_b4 names_1 r_1 i_1) (fun (s : Int) (a : Unit) => [(0, (AV.rows 1 (List.map cS names_1))), (1, (iA set_1)), (2, (iA other_1)), (7, (bA r_1)), (8, (iA i_1)), (9, (iA s))]) (fun (s : Int) (a : Unit) H' => Holds H0 [] H') o_2 (0 : Int) () ho_2 ⟨rfl, rfl, rfl, rfl, rfl, rfl, trivial⟩ hH ?_
          rintro k_1 _ st_2 env H' h hd_2 hH
          refine WpC.seq ?_
          refine WpC.seqR ?_
          refine WpOps.pn 3 rfl trivial ?_
          refine WpOps.nil ?_
          refine WpC.condB rfl (fun hb => ?_) (fun hb => ?_)
          ·
            replace h := Sh.ite_pos hb h
            refine WpC.skipD ?_
            refine ⟨_, Heap.le_refl _, ?_⟩
            refine WpC.seq ?_
            refine WpC.block ?_
            refine WpC.seqD [] [0, 1, 2, 3, 4, 5, 6, 7, 8] (by kernel_rfl) (by kernel_rfl) ?_
            obtain ⟨y_1, hy_1, h⟩ := Sh.bind_some h
            refine WpPi.pn 2 rfl trivial ?_
            refine WpPi.consI (v := (.rop (cS y_1))) rfl rfl rfl rfl (fun _ => Exact.ixr cS hy_1 rfl rfl rfl rfl (by kernel_rfl) (by decide)) ?_
            refine WpPi.consI (v := (sA y_1)) rfl rfl rfl rfl (fun _ => Exact.load_rop rfl rfl rfl) ?_
            obtain ⟨y_2, hy_2, h⟩ := Sh.bind_some h
            refine WpPi.pn 2 rfl trivial ?_
            refine WpPi.consI (v := (.rop (cS y_2))) rfl rfl rfl rfl (fun _ => Exact.ixr cS hy_2 rfl rfl rfl rfl (by kernel_rfl) (by decide)) ?_
            refine WpPi.consI (v := (sA y_2)) rfl rfl rfl rfl (fun _ => Exact.load_rop rfl rfl rfl) ?_
            refine WpPi.pn 1 rfl trivial ?_
            refine WpPi.nil ?_
            refine WpC.condB rfl (fun hb => ?_) (fun hb => ?_)
            ·
              replace h := Sh.ite_pos hb h
              refine WpC.seqR ?_
              refine WpOps.pn 2 rfl trivial ?_
              refine WpOps.nil ?_
              obtain rfl := Sh.some_inj h
              have e := hd_2 _ rfl
              subst e
              have h := hk_2
              obtain rfl := Sh.some_inj h
              have e := hd_1 _ rfl
              subst e
              have h := hk_1
              obtain rfl := Sh.some_inj h
              refine WpC.ret ?_
              exact VEnds.ret1 rfl rfl ⟨rfl, hH⟩
            ·
              replace h := Sh.ite_neg hb h
              refine WpC.skipD ?_
              refine ⟨_, Heap.le_refl _, ?_⟩
              refine WpC.regionD ?_
              obtain ⟨c_1, h⟩ := Sh.chk_some h
              refine WpOps.pn 3 rfl c_1 ?_
              refine WpOps.nil ?_
              obtain rfl := Sh.some_inj h
              exact ⟨_, (Heap.le_refl _), (k_1 + (1 : Int)), (), rfl, ⟨rfl, rfl, rfl, rfl, rfl, rfl, trivial⟩, hH⟩
          ·
            replace h := Sh.ite_neg hb h
            obtain rfl := Sh.some_inj h
            have e := hd_2 _ rfl
            subst e
            refine WpC.exit ?_
            exact ⟨((), ()), ⟨rfl, rfl, rfl, rfl, rfl, trivial⟩, hk_2, hH⟩
        ·
          rintro ⟨_, _⟩ env H' ⟨h, hH⟩
          try dsimp only at h
          refine ⟨_, Heap.le_refl _, ?_⟩
          refine WpC.regionD ?_
          obtain ⟨c_2, h⟩ := Sh.chk_some h
          refine WpOps.pn 3 rfl c_2 ?_
          refine WpOps.nil ?_
          obtain rfl := Sh.some_inj h
          exact ⟨_, (Heap.le_refl _), (i_1 + (1 : Int)), (), rfl, ⟨rfl, rfl, rfl, rfl, rfl, trivial⟩, hH⟩
      ·
        replace h := Sh.ite_neg hb h
        obtain rfl := Sh.some_inj h
        have e := hd_1 _ rfl
        subst e
        refine WpC.exit ?_
        exact ⟨((), ()), ⟨rfl, rfl, rfl, rfl, trivial⟩, hk_1, hH⟩
    ·
      rintro ⟨_, _⟩ env H' ⟨h, hH⟩
      try dsimp only at h
      refine ⟨_, Heap.le_refl _, ?_⟩
      refine WpC.seqR ?_
      obtain ⟨r_2, hr_2, h⟩ := Sh.bind_some h
      refine WpOps.pn 2 rfl trivial ?_
      refine WpOps.consE (v := (.tup [(AV.rows 1 (List.map cS r_2.1)), (iA r_2.2)])) rfl rfl (Exact.call rfl rfl rfl (w_world_Defs hr_2)) ?_
      refine WpOps.pn 5 rfl trivial ?_
      refine WpOps.nil ?_
      refine WpC.seqR ?_
      obtain ⟨r_3, hr_3, h⟩ := Sh.bind_some h
      refine WpOps.pn 2 rfl trivial ?_
      refine WpOps.consE (v := (.tup [(AV.rows 1 (List.map cS r_3.1)), (iA r_3.2)])) rfl rfl (Exact.call rfl rfl rfl (w_world_Defs hr_3)) ?_
      refine WpOps.pn 5 rfl trivial ?_
      refine WpOps.nil ?_
      refine WpC.seq ?_
      refine WpC.seqR ?_
      refine WpOps.pn 2 rfl trivial ?_
      obtain ⟨b_1, g_1, h⟩ := Sh.bind_some h
      refine WpOps.cutB 4 59 (bA b_1) rfl ?_ ?_
      ·
        refine WpOps.pn 1 rfl trivial ?_
        refine WpOps.split 56 rfl (fun hb => ?_) (fun hb => ?_)
        ·
          replace g_1 := Sh.ite_pos hb g_1
          refine WpOps.pn 3 rfl trivial ?_
          refine WpOps.nil ?_
          obtain rfl := Sh.some_inj g_1
          exact ⟨rfl, rfl⟩
        ·
          replace g_1 := Sh.ite_neg hb g_1
          refine WpOps.pn 3 rfl trivial ?_
          refine WpOps.nil ?_
          obtain rfl := Sh.some_inj g_1
          exact ⟨rfl, rfl⟩
      intro env
      refine WpOps.nil ?_
      refine WpC.condB rfl (fun hb => ?_) (fun hb => ?_)
      ·
        replace h := Sh.ite_pos hb h
        refine WpC.seqR ?_
        refine WpOps.pn 1 rfl trivial ?_
        obtain ⟨b_2, g_2, h⟩ := Sh.bind_some h
        refine WpOps.cutB 15 75 (bA b_2) rfl ?_ ?_
        ·
          refine WpOps.pn 1 rfl trivial ?_
          refine WpOps.split 61 rfl (fun hb => ?_) (fun hb => ?_)
          ·
            replace g_2 := Sh.ite_pos hb g_2
            refine WpOps.pn 2 rfl trivial ?_
            obtain ⟨b_3, g_3, g_2⟩ := Sh.bind_some g_2
            refine WpOps.cutB 4 67 (bA b_3) rfl ?_ ?_
            ·
              refine WpOps.pn 1 rfl trivial ?_
              refine WpOps.split 64 rfl (fun hb => ?_) (fun hb => ?_)
              ·
                replace g_3 := Sh.ite_pos hb g_3
                refine WpOps.pn 3 rfl trivial ?_
                refine WpOps.nil ?_
                obtain rfl := Sh.some_inj g_3
                exact ⟨rfl, rfl⟩
              ·
                replace g_3 := Sh.ite_neg hb g_3
                refine WpOps.pn 3 rfl trivial ?_
                refine WpOps.nil ?_
                obtain rfl := Sh.some_inj g_3
                exact ⟨rfl, rfl⟩
            intro env
            obtain ⟨b_4, g_4, g_2⟩ := Sh.bind_some g_2
            refine WpOps.cutB 7 74 (bA b_4) rfl ?_ ?_
            ·
              refine WpOps.pn 1 rfl trivial ?_
              refine WpOps.split 68 rfl (fun hb => ?_) (fun hb => ?_)
              ·
                replace g_4 := Sh.ite_pos hb g_4
                refine WpOps.pn 6 rfl trivial ?_
                refine WpOps.nil ?_
                obtain rfl := Sh.some_inj g_4
                exact ⟨rfl, rfl⟩
              ·
                replace g_4 := Sh.ite_neg hb g_4
                refine WpOps.pn 3 rfl trivial ?_
                refine WpOps.at 71 (len_map _ _) ?_
                obtain ⟨c_3, g_4⟩ := Sh.chk_some g_4
                refine WpOps.pn 3 rfl c_3 ?_
                refine WpOps.nil ?_
                obtain rfl := Sh.some_inj g_4
                exact ⟨rfl, rfl⟩
            intro env
            refine WpOps.pn 1 rfl trivial ?_
            refine WpOps.nil ?_
            obtain rfl := Sh.some_inj g_2
            exact ⟨rfl, rfl⟩
          ·
            replace g_2 := Sh.ite_neg hb g_2
            refine WpOps.pn 14 rfl trivial ?_
            refine WpOps.nil ?_
            obtain rfl := Sh.some_inj g_2
            exact ⟨rfl, rfl⟩
        intro env
        obtain ⟨b_5, g_5, h⟩ := Sh.bind_some h
        refine WpOps.cutB 15 90 (bA b_5) rfl ?_ ?_
        ·
          refine WpOps.pn 1 rfl trivial ?_
          refine WpOps.split 76 rfl (fun hb => ?_) (fun hb => ?_)
          ·
            replace g_5 := Sh.ite_pos hb g_5
            refine WpOps.pn 2 rfl trivial ?_
            obtain ⟨b_6, g_6, g_5⟩ := Sh.bind_some g_5
            refine WpOps.cutB 4 82 (bA b_6) rfl ?_ ?_
            ·
              refine WpOps.pn 1 rfl trivial ?_
              refine WpOps.split 79 rfl (fun hb => ?_) (fun hb => ?_)
              ·
                replace g_6 := Sh.ite_pos hb g_6
                refine WpOps.pn 3 rfl trivial ?_
                refine WpOps.nil ?_
                obtain rfl := Sh.some_inj g_6
                exact ⟨rfl, rfl⟩
              ·
                replace g_6 := Sh.ite_neg hb g_6
                refine WpOps.pn 3 rfl trivial ?_
                refine WpOps.nil ?_
                obtain rfl := Sh.some_inj g_6
                exact ⟨rfl, rfl⟩
            intro env
            obtain ⟨b_7, g_7, g_5⟩ := Sh.bind_some g_5
            refine WpOps.cutB 7 89 (bA b_7) rfl ?_ ?_
            ·
              refine WpOps.pn 1 rfl trivial ?_
              refine WpOps.split 83 rfl (fun hb => ?_) (fun hb => ?_)
              ·
                replace g_7 := Sh.ite_pos hb g_7
                refine WpOps.pn 6 rfl trivial ?_
                refine WpOps.nil ?_
                obtain rfl := Sh.some_inj g_7
                exact ⟨rfl, rfl⟩
              ·
                replace g_7 := Sh.ite_neg hb g_7
                refine WpOps.pn 3 rfl trivial ?_
                refine WpOps.at 86 (len_map _ _) ?_
                obtain ⟨c_4, g_7⟩ := Sh.chk_some g_7
                refine WpOps.pn 3 rfl c_4 ?_
                refine WpOps.nil ?_
                obtain rfl := Sh.some_inj g_7
                exact ⟨rfl, rfl⟩
            intro env
            refine WpOps.pn 1 rfl trivial ?_
            refine WpOps.nil ?_
            obtain rfl := Sh.some_inj g_5
            exact ⟨rfl, rfl⟩
          ·
            replace g_5 := Sh.ite_neg hb g_5
            refine WpOps.pn 14 rfl trivial ?_
            refine WpOps.nil ?_
            obtain rfl := Sh.some_inj g_5
            exact ⟨rfl, rfl⟩
        intro env
        refine WpOps.pn 1 rfl trivial ?_
        refine WpOps.nil ?_
        obtain rfl := Sh.some_inj h
        refine WpC.ret ?_
        exact VEnds.ret1 rfl rfl ⟨rfl, hH⟩
      ·
        replace h := Sh.ite_neg hb h
        refine WpC.skipD ?_
        refine ⟨_, Heap.le_refl _, ?_⟩
        refine WpC.seqR ?_
        obtain ⟨r_4, hr_4, h⟩ := Sh.bind_some h
        refine WpOps.pn 2 rfl trivial ?_
        refine WpOps.consE (v := (.tup [(iA r_4.1), (iA r_4.2)])) rfl rfl (Exact.call rfl rfl rfl (w_world_Set hr_4)) ?_
        refine WpOps.pn 5 rfl trivial ?_
        refine WpOps.nil ?_
        refine WpC.seqR ?_
        refine WpOps.pn 1 rfl trivial ?_
        obtain ⟨b_8, g_8, h⟩ := Sh.bind_some h
        refine WpOps.cutB 4 101 (bA b_8) rfl ?_ ?_
        ·
          refine WpOps.pn 1 rfl trivial ?_
          refine WpOps.split 98 rfl (fun hb => ?_) (fun hb => ?_)
          ·
            replace g_8 := Sh.ite_pos hb g_8
            refine WpOps.pn 3 rfl trivial ?_
            refine WpOps.nil ?_
            obtain rfl := Sh.some_inj g_8
            exact ⟨rfl, rfl⟩
          ·
            replace g_8 := Sh.ite_neg hb g_8
            refine WpOps.pn 3 rfl trivial ?_
            refine WpOps.nil ?_
            obtain rfl := Sh.some_inj g_8
            exact ⟨rfl, rfl⟩
        intro env
        obtain ⟨b_9, g_9, h⟩ := Sh.bind_some h
        refine WpOps.cutB 5 106 (bA b_9) rfl ?_ ?_
        ·
          refine WpOps.pn 1 rfl trivial ?_
          refine WpOps.split 102 rfl (fun hb => ?_) (fun hb => ?_)
          ·
            replace g_9 := Sh.ite_pos hb g_9
            refine WpOps.pn 4 rfl trivial ?_
            refine WpOps.nil ?_
            obtain rfl := Sh.some_inj g_9
            exact ⟨rfl, rfl⟩
          ·
            replace g_9 := Sh.ite_neg hb g_9
            refine WpOps.pn 4 rfl trivial ?_
            refine WpOps.nil ?_
            obtain rfl := Sh.some_inj g_9
            exact ⟨rfl, rfl⟩
        intro env
        obtain ⟨b_10, g_10, h⟩ := Sh.bind_some h
        refine WpOps.cutB 9 115 (bA b_10) rfl ?_ ?_
        ·
          refine WpOps.pn 1 rfl trivial ?_
          refine WpOps.split 107 rfl (fun hb => ?_) (fun hb => ?_)
          ·
            replace g_10 := Sh.ite_pos hb g_10
            obtain ⟨r_5, hr_5, g_10⟩ := Sh.bind_some g_10
            refine WpOps.pn 2 rfl trivial ?_
            refine WpOps.consE (v := (bA r_5)) rfl rfl (Exact.call rfl rfl rfl (w_emendref11_Same hr_5)) ?_
            refine WpOps.pn 5 rfl trivial ?_
            refine WpOps.nil ?_
            obtain rfl := Sh.some_inj g_10
            exact ⟨rfl, rfl⟩
          ·
            replace g_10 := Sh.ite_neg hb g_10
            refine WpOps.pn 8 rfl trivial ?_
            refine WpOps.nil ?_
            obtain rfl := Sh.some_inj g_10
            exact ⟨rfl, rfl⟩
        intro env
        refine WpOps.pn 1 rfl trivial ?_
        refine WpOps.nil ?_
        obtain rfl := Sh.some_inj h
        refine WpC.ret ?_
        exact VEnds.ret1 rfl rfl ⟨rfl, hH⟩

theorem w_world_Spelled {H0 : Heap} (hG : Glob H0) {fs : List GFile} {r : List (List UInt8)} (h : world_Spelled fs = some r) : TCall Tryd.prog 19 [.rows 2 (fs.map cGFile)] H0 (fun v H' => v = (AV.rows 1 (List.map cS r)) ∧ H' = H0) noE := by
  obtain ⟨hlen, h⟩ := Sh.chk_some h
  obtain ⟨ks, hks, h⟩ := Sh.bind_some h
  obtain ⟨⟨hnd, hroom⟩, h⟩ := Sh.chk_some h
  obtain rfl := Sh.some_inj h
  refine TCall.up (TCall.body Tryd.func19 rfl rfl ?_)
  have hix : ∀ i, (h : i < fs.length) → Sh.ix fs (i : Int) = some fs[i] := fun i h => by rw [Sh.ix_nat]; exact List.getElem?_eq_getElem h
  refine WpC.seqR ?_
  refine WpOps.pn 1 rfl trivial ?_
  refine WpOps.nil ?_
  refine WpC.seqR ?_
  refine WpOps.consG rfl rfl (WpO.makeMap rfl fun g hg => ?_)
  refine WpOps.pn 1 rfl trivial ?_
  refine WpOps.nil ?_
  refine WpC.seq ?_
  refine WpC.seqR ?_
  refine WpOps.pn 2 rfl trivial ?_
  refine WpOps.at 8 (len_map _ _) ?_
  refine WpOps.pn 1 rfl trivial ?_
  refine WpOps.nil ?_
  refine WpC.block ?_
  refine WpC.loop (fun n env H => ∃ (i : Nat) (ks2 : List (List UInt8)), n = fs.length - i ∧ i ≤ fs.length ∧ knows env [(3, .lit (.map (some g))), (7, .rows 2 (fs.map cGFile)), (8, iA fs.length), (9, iA i)] ∧ spelledO i (fs.drop i) ks2 = some ks ∧ H = H0.set g (.map (kv ks2))) _ ⟨0, [], rfl, Nat.zero_le _, ⟨rfl, rfl, rfl, rfl, trivial⟩, by simpa using hks, rfl⟩ ?_
  rintro n env H ⟨i, ks2, rfl, hi, hk, hs, rfl⟩
  rw [← hk.eq]
  refine WpC.seqR ?_
  refine WpOps.pn 1 rfl trivial ?_
  refine WpOps.nil ?_
  refine WpC.seq ?_
  refine WpC.condB rfl (fun hb => ?_) (fun hb => ?_)
  · have hlt : i < fs.length := by simpa using hb
    rw [List.drop_eq_getElem_cons hlt, spelledO] at hs
    obtain ⟨l, hl, hs⟩ := Sh.bind_some hs
    obtain ⟨b1, hs⟩ := Sh.chk_some hs
    generalize hHc : H0.set g (.map (kv ks2)) = Hc
    have hgc : Hc g = some (.map (kv ks2)) := by rw [← hHc]; exact Heap.set_same _ _ _
    have hGH : Glob Hc := hG.le (by rw [← hHc]; exact Heap.le_set (Heap.le_refl _) hg _)
    have hH : Holds Hc [] Hc := rfl
    refine WpC.skip ?_
    refine WpC.seq ?_
    refine WpC.block ?_
    refine WpC.seqR ?_
    refine WpOps.pn 1 rfl trivial ?_
    refine WpOps.consE (v := .rop (cGFile fs[i])) rfl rfl (Exact.ixr cGFile (hix i hlt) rfl rfl rfl rfl (by kernel_rfl) (by decide)) ?_
    refine WpOps.consE (v := .agg (cGFile fs[i])) rfl rfl (Exact.load_rop rfl rfl rfl) ?_
    refine WpOps.consG rfl rfl (WpO.allocT (z := cGFile (GFile.mk [] [])) rfl rfl hH fun g2 H' hH => ?_)
    refine WpOps.pn 1 rfl trivial ?_
    refine WpOps.consG rfl rfl (WpO.putT (cs' := cGFile fs[i]) (v := .agg (cGFile fs[i])) rfl rfl hH (i := 0) rfl rfl rfl rfl rfl rfl rfl fun H' hH => ?_)
    refine WpOps.nil ?_
    refine WpC.ice (t := 5) (i := 0) hH rfl rfl (fun H' hH => ?_)
    obtain rfl : H' = Hc := hH
    refine WpC.region ?_
    refine WpOps.pn 3 rfl trivial ?_
    refine WpOps.consE (v := sA fs[i].text) rfl rfl (Exact.load_rop rfl rfl rfl) ?_
    refine WpOps.consE (v := .rows 6 (l.map cGTok)) rfl rfl (Exact.call rfl rfl rfl (w_pptok_Tokens hGH hl)) ?_
    refine WpOps.consG rfl rfl (WpO.call rfl rfl rfl ((w_words_add b1 hgc).mono (fun v H2 hq => ?_) (fun _ _ h => h.elim)))
    obtain ⟨rfl, rfl⟩ := hq
    refine WpOps.nil ?_
    refine WpC.region ?_
    refine WpOps.pn 2 rfl (show -9223372036854775808 ≤ (i : Int) + 1 ∧ (i : Int) + 1 ≤ 9223372036854775807 from ⟨by omega, by omega⟩) ?_
    refine WpOps.nil ?_
    exact ⟨fs.length - (i + 1), by omega, i + 1, addS ks2 l, rfl, by omega, ⟨rfl, rfl, rfl, rfl, trivial⟩, hs, by rw [← hHc, Heap.set_set]⟩
  · have hge : i = fs.length := by
      have : ¬ ((i : Int) < (fs.length : Int)) := by simpa using hb
      omega
    rw [hge, List.drop_length, spelledO] at hs
    injection hs with hs
    subst hs
    refine WpC.exit ?_
    refine WpC.seqR ?_
    refine WpOps.pn 1 rfl trivial ?_
    refine WpOps.consE (v := .rows 1 ((sortS ks2).map cS)) rfl rfl (Exact.call rfl rfl rfl (w_words_sorted hnd hroom (Heap.set_same _ _ _))) ?_
    refine WpOps.pn 1 rfl trivial ?_
    refine WpOps.nil ?_
    refine WpC.ret ?_
    exact VEnds.ret1 rfl rfl ⟨_, _, Up.drop (Heap.le_set (Heap.le_refl _) hg _) _, rfl, rfl⟩

theorem w_emendlaw11_WorldNames {H0 : Heap} (hG : Glob H0) {files_1 : List GFile} {r : Bool} (h : emendlaw11_WorldNames files_1 = some r) : TCall Tryd.prog 5 [(AV.rows 2 (List.map cGFile files_1))] H0 (fun v H' => v = (bA r) ∧ H' = H0) noE := by
  refine id (TCall.body Tryd.func5 rfl rfl ?_)
  have hH : Holds H0 [] H0 := rfl
  refine WpC.seqR ?_
  refine WpOps.pn 1 rfl trivial ?_
  refine WpOps.nil ?_
  refine WpC.seqR ?_
  obtain ⟨r_1, hr_1, h⟩ := Sh.bind_some h
  refine WpOps.consE (v := (bA r_1)) rfl rfl (Exact.call rfl rfl rfl (w_emendlaw11_awake (hG.up hH) hr_1)) ?_
  refine WpOps.pn 1 rfl trivial ?_
  refine WpOps.nil ?_
  refine WpC.seqR ?_
  obtain ⟨r_2, hr_2, h⟩ := Sh.bind_some h
  refine WpOps.pn 1 rfl trivial ?_
  refine WpOps.consE (v := (bA r_2)) rfl rfl (Exact.call rfl rfl rfl (w_emendref11_Short hr_2)) ?_
  refine WpOps.pn 1 rfl trivial ?_
  refine WpOps.nil ?_
  refine WpC.seq ?_
  refine WpC.seqR ?_
  refine WpOps.pn 2 rfl trivial ?_
  refine WpOps.nil ?_
  refine WpC.condB rfl (fun hb => ?_) (fun hb => ?_)
  ·
    replace h := Sh.ite_pos hb h
    refine WpC.seqR ?_
    refine WpOps.pn 2 rfl trivial ?_
    refine WpOps.nil ?_
    obtain rfl := Sh.some_inj h
    refine WpC.ret ?_
    exact VEnds.ret1 rfl rfl ⟨rfl, hH⟩
  ·
    replace h := Sh.ite_neg hb h
    refine WpC.skipD ?_
    refine ⟨_, Heap.le_refl _, ?_⟩
    refine WpC.seqR ?_
    obtain ⟨r_3, hr_3, h⟩ := Sh.bind_some h
    refine WpOps.pn 1 rfl trivial ?_
    refine WpOps.consE (v := (.tup [(AV.rows 1 (List.map cS r_3.1)), (iA r_3.2)])) rfl rfl (Exact.call rfl rfl rfl (w_world_Names (hG.up hH) hr_3)) ?_
    refine WpOps.pn 5 rfl trivial ?_
    refine WpOps.nil ?_
    refine WpC.seqR ?_
    obtain ⟨r_4, hr_4, h⟩ := Sh.bind_some h
    refine WpOps.pn 1 rfl trivial ?_
    refine WpOps.consE (v := (.tup [(AV.rows 1 (List.map cS r_4.1)), (iA r_4.2)])) rfl rfl (Exact.call rfl rfl rfl (w_emendref11_Names hr_4)) ?_
    refine WpOps.pn 5 rfl trivial ?_
    refine WpOps.nil ?_
    refine WpC.seqR ?_
    obtain ⟨r_5, hr_5, h⟩ := Sh.bind_some h
    refine WpOps.pn 1 rfl trivial ?_
    refine WpOps.consE (v := (AV.rows 1 (List.map cS r_5))) rfl rfl (Exact.call rfl rfl rfl (w_world_Known (hG.up hH) hr_5)) ?_
    refine WpOps.pn 1 rfl trivial ?_
    refine WpOps.nil ?_
    refine WpC.seqR ?_
    obtain ⟨r_6, hr_6, h⟩ := Sh.bind_some h
    refine WpOps.pn 1 rfl trivial ?_
    refine WpOps.consE (v := (AV.rows 1 (List.map cS r_6))) rfl rfl (Exact.call rfl rfl rfl (w_world_Mains hr_6)) ?_
    refine WpOps.pn 1 rfl trivial ?_
    refine WpOps.nil ?_
    refine WpC.seqR ?_
    obtain ⟨r_7, hr_7, h⟩ := Sh.bind_some h
    refine WpOps.pn 1 rfl trivial ?_
    refine WpOps.consE (v := (AV.rows 1 (List.map cS r_7))) rfl rfl (Exact.call rfl rfl rfl (w_world_Spelled (hG.up hH) hr_7)) ?_
    refine WpOps.pn 1 rfl trivial ?_
    refine WpOps.nil ?_
    refine WpC.seqR ?_
    refine WpOps.pn 1 rfl trivial ?_
    obtain ⟨b_1, g_1, h⟩ := Sh.bind_some h
    refine WpOps.cutB 5 39 (bA b_1) rfl ?_ ?_
    ·
      refine WpOps.pn 1 rfl trivial ?_
      refine WpOps.split 35 rfl (fun hb => ?_) (fun hb => ?_)
      ·
        replace g_1 := Sh.ite_pos hb g_1
        refine WpOps.pn 4 rfl trivial ?_
        refine WpOps.nil ?_
        obtain rfl := Sh.some_inj g_1
        exact ⟨rfl, rfl⟩
      ·
        replace g_1 := Sh.ite_neg hb g_1
        refine WpOps.pn 4 rfl trivial ?_
        refine WpOps.nil ?_
        obtain rfl := Sh.some_inj g_1
        exact ⟨rfl, rfl⟩
    intro env
    obtain ⟨b_2, g_2, h⟩ := Sh.bind_some h
    refine WpOps.cutB 5 44 (bA b_2) rfl ?_ ?_
    ·
      refine WpOps.pn 1 rfl trivial ?_
      refine WpOps.split 40 rfl (fun hb => ?_) (fun hb => ?_)
      ·
        replace g_2 := Sh.ite_pos hb g_2
        obtain ⟨r_8, hr_8, g_2⟩ := Sh.bind_some g_2
        refine WpOps.pn 2 rfl trivial ?_
        refine WpOps.consE (v := (bA r_8)) rfl rfl (Exact.call rfl rfl rfl (w_emendref11_Same hr_8)) ?_
        refine WpOps.pn 1 rfl trivial ?_
        refine WpOps.nil ?_
        obtain rfl := Sh.some_inj g_2
        exact ⟨rfl, rfl⟩
      ·
        replace g_2 := Sh.ite_neg hb g_2
        refine WpOps.pn 4 rfl trivial ?_
        refine WpOps.nil ?_
        obtain rfl := Sh.some_inj g_2
        exact ⟨rfl, rfl⟩
    intro env
    obtain ⟨b_3, g_3, h⟩ := Sh.bind_some h
    refine WpOps.cutB 6 50 (bA b_3) rfl ?_ ?_
    ·
      refine WpOps.pn 1 rfl trivial ?_
      refine WpOps.split 45 rfl (fun hb => ?_) (fun hb => ?_)
      ·
        replace g_3 := Sh.ite_pos hb g_3
        obtain ⟨r_9, hr_9, g_3⟩ := Sh.bind_some g_3
        refine WpOps.pn 2 rfl trivial ?_
        refine WpOps.consE (v := (AV.rows 1 (List.map cS r_9))) rfl rfl (Exact.call rfl rfl rfl (w_emendref11_Known hr_9)) ?_
        obtain ⟨r_10, hr_10, g_3⟩ := Sh.bind_some g_3
        refine WpOps.consE (v := (bA r_10)) rfl rfl (Exact.call rfl rfl rfl (w_emendref11_Same hr_10)) ?_
        refine WpOps.pn 1 rfl trivial ?_
        refine WpOps.nil ?_
        obtain rfl := Sh.some_inj g_3
        exact ⟨rfl, rfl⟩
      ·
        replace g_3 := Sh.ite_neg hb g_3
        refine WpOps.pn 5 rfl trivial ?_
        refine WpOps.nil ?_
        obtain rfl := Sh.some_inj g_3
        exact ⟨rfl, rfl⟩
    intro env
    obtain ⟨b_4, g_4, h⟩ := Sh.bind_some h
    refine WpOps.cutB 6 56 (bA b_4) rfl ?_ ?_
    ·
      refine WpOps.pn 1 rfl trivial ?_
      refine WpOps.split 51 rfl (fun hb => ?_) (fun hb => ?_)
      ·
        replace g_4 := Sh.ite_pos hb g_4
        obtain ⟨r_11, hr_11, g_4⟩ := Sh.bind_some g_4
        refine WpOps.pn 2 rfl trivial ?_
        refine WpOps.consE (v := (AV.rows 1 (List.map cS r_11))) rfl rfl (Exact.call rfl rfl rfl (w_emendref11_Mains hr_11)) ?_
        obtain ⟨r_12, hr_12, g_4⟩ := Sh.bind_some g_4
        refine WpOps.consE (v := (bA r_12)) rfl rfl (Exact.call rfl rfl rfl (w_emendref11_Same hr_12)) ?_
        refine WpOps.pn 1 rfl trivial ?_
        refine WpOps.nil ?_
        obtain rfl := Sh.some_inj g_4
        exact ⟨rfl, rfl⟩
      ·
        replace g_4 := Sh.ite_neg hb g_4
        refine WpOps.pn 5 rfl trivial ?_
        refine WpOps.nil ?_
        obtain rfl := Sh.some_inj g_4
        exact ⟨rfl, rfl⟩
    intro env
    obtain ⟨b_5, g_5, h⟩ := Sh.bind_some h
    refine WpOps.cutB 6 62 (bA b_5) rfl ?_ ?_
    ·
      refine WpOps.pn 1 rfl trivial ?_
      refine WpOps.split 57 rfl (fun hb => ?_) (fun hb => ?_)
      ·
        replace g_5 := Sh.ite_pos hb g_5
        obtain ⟨r_13, hr_13, g_5⟩ := Sh.bind_some g_5
        refine WpOps.pn 2 rfl trivial ?_
        refine WpOps.consE (v := (AV.rows 1 (List.map cS r_13))) rfl rfl (Exact.call rfl rfl rfl (w_emendref11_Spelled hr_13)) ?_
        obtain ⟨r_14, hr_14, g_5⟩ := Sh.bind_some g_5
        refine WpOps.consE (v := (bA r_14)) rfl rfl (Exact.call rfl rfl rfl (w_emendref11_Same hr_14)) ?_
        refine WpOps.pn 1 rfl trivial ?_
        refine WpOps.nil ?_
        obtain rfl := Sh.some_inj g_5
        exact ⟨rfl, rfl⟩
      ·
        replace g_5 := Sh.ite_neg hb g_5
        refine WpOps.pn 5 rfl trivial ?_
        refine WpOps.nil ?_
        obtain rfl := Sh.some_inj g_5
        exact ⟨rfl, rfl⟩
    intro env
    refine WpOps.pn 1 rfl trivial ?_
    refine WpOps.nil ?_
    obtain rfl := Sh.some_inj h
    refine WpC.ret ?_
    exact VEnds.ret1 rfl rfl ⟨rfl, hH⟩

theorem w_emendlaw11_WorldAsked {H0 : Heap} (hG : Glob H0) {files_1 : List GFile} {text_1 : List UInt8} {r : Bool} (h : emendlaw11_WorldAsked files_1 text_1 = some r) : TCall Tryd.prog 6 [(AV.rows 2 (List.map cGFile files_1)), (sA text_1)] H0 (fun v H' => v = (bA r) ∧ H' = H0) noE := by
  refine id (TCall.body Tryd.func6 rfl rfl ?_)
  have hH : Holds H0 [] H0 := rfl
  refine WpC.seqR ?_
  refine WpOps.pn 1 rfl trivial ?_
  refine WpOps.nil ?_
  refine WpC.seqR ?_
  obtain ⟨r_1, hr_1, h⟩ := Sh.bind_some h
  refine WpOps.consE (v := (bA r_1)) rfl rfl (Exact.call rfl rfl rfl (w_emendlaw11_awake (hG.up hH) hr_1)) ?_
  refine WpOps.pn 1 rfl trivial ?_
  refine WpOps.nil ?_
  refine WpC.seqR ?_
  obtain ⟨r_2, hr_2, h⟩ := Sh.bind_some h
  refine WpOps.pn 1 rfl trivial ?_
  refine WpOps.consE (v := (bA r_2)) rfl rfl (Exact.call rfl rfl rfl (w_emendref11_Short hr_2)) ?_
  refine WpOps.pn 1 rfl trivial ?_
  refine WpOps.nil ?_
  refine WpC.seq ?_
  refine WpC.seqR ?_
  refine WpOps.pn 2 rfl trivial ?_
  obtain ⟨b_1, g_1, h⟩ := Sh.bind_some h
  refine WpOps.cutB 5 28 (bA b_1) rfl ?_ ?_
  ·
    refine WpOps.pn 1 rfl trivial ?_
    refine WpOps.split 24 rfl (fun hb => ?_) (fun hb => ?_)
    ·
      replace g_1 := Sh.ite_pos hb g_1
      refine WpOps.pn 4 rfl trivial ?_
      refine WpOps.nil ?_
      obtain rfl := Sh.some_inj g_1
      exact ⟨rfl, rfl⟩
    ·
      replace g_1 := Sh.ite_neg hb g_1
      refine WpOps.pn 2 rfl trivial ?_
      refine WpOps.at 26 (len_map _ _) ?_
      refine WpOps.pn 2 rfl trivial ?_
      refine WpOps.nil ?_
      obtain rfl := Sh.some_inj g_1
      exact ⟨rfl, rfl⟩
  intro env
  obtain ⟨b_2, g_2, h⟩ := Sh.bind_some h
  refine WpOps.cutB 5 33 (bA b_2) rfl ?_ ?_
  ·
    refine WpOps.pn 1 rfl trivial ?_
    refine WpOps.split 29 rfl (fun hb => ?_) (fun hb => ?_)
    ·
      replace g_2 := Sh.ite_pos hb g_2
      refine WpOps.pn 4 rfl trivial ?_
      refine WpOps.nil ?_
      obtain rfl := Sh.some_inj g_2
      exact ⟨rfl, rfl⟩
    ·
      replace g_2 := Sh.ite_neg hb g_2
      refine WpOps.pn 4 rfl trivial ?_
      refine WpOps.nil ?_
      obtain rfl := Sh.some_inj g_2
      exact ⟨rfl, rfl⟩
  intro env
  refine WpOps.nil ?_
  refine WpC.condB rfl (fun hb => ?_) (fun hb => ?_)
  ·
    replace h := Sh.ite_pos hb h
    refine WpC.seqR ?_
    refine WpOps.pn 2 rfl trivial ?_
    refine WpOps.nil ?_
    obtain rfl := Sh.some_inj h
    refine WpC.ret ?_
    exact VEnds.ret1 rfl rfl ⟨rfl, hH⟩
  ·
    replace h := Sh.ite_neg hb h
    refine WpC.skipD ?_
    refine ⟨_, Heap.le_refl _, ?_⟩
    refine WpC.seq ?_
    refine WpC.seqR ?_
    refine WpOps.pn 1 rfl trivial ?_
    refine WpOps.nil ?_
    refine WpC.blockK (fun x : (Unit) × (Unit) => [(0, (AV.rows 2 (List.map cGFile files_1))), (1, (sA text_1)), (5, (bA r_1))]) (fun x H' => (emendlaw11_WorldAsked_j1 files_1 text_1 r_1) x.1 = some r ∧ Holds H0 [] H') ?_ ?_
    ·
      obtain ⟨o_1, ho_1, hk_1⟩ := Sh.bind_some h
      refine WpC.loopS (emendlaw11_WorldAsked_b2 text_1 r_1) (fun (s : Int) (a : Unit) => [(0, (AV.rows 2 (List.map cGFile files_1))), (1, (sA text_1)), (5, (bA r_1)), (7, (iA s))]) (fun (s : Int) (a : Unit) H' => Holds H0 [] H') o_1 (0 : Int) () ho_1 ⟨rfl, rfl, rfl, rfl, trivial⟩ hH ?_
      rintro i_1 _ st_1 env H' h hd_1 hH
      refine WpC.seq ?_
      refine WpC.seqR ?_
      refine WpOps.pn 4 rfl trivial ?_
      refine WpOps.nil ?_
      refine WpC.condB rfl (fun hb => ?_) (fun hb => ?_)
      ·
        replace h := Sh.ite_pos hb h
        refine WpC.skipD ?_
        refine ⟨_, Heap.le_refl _, ?_⟩
        refine WpC.seq ?_
        refine WpC.block ?_
        refine WpC.seqR ?_
        obtain ⟨ch_1, hch_1, h⟩ := Sh.bind_some h
        refine WpOps.pn 2 rfl trivial ?_
        refine WpOps.consE (v := (u8A ch_1)) rfl rfl (Exact.ixs hch_1 rfl rfl rfl rfl) ?_
        refine WpOps.pn 1 rfl trivial ?_
        refine WpOps.nil ?_
        refine WpC.condB rfl (fun hb => ?_) (fun hb => ?_)
        ·
          replace h := Sh.ite_pos hb h
          refine WpC.seqR ?_
          refine WpOps.pn 2 rfl trivial ?_
          refine WpOps.nil ?_
          obtain rfl := Sh.some_inj h
          have e := hd_1 _ rfl
          subst e
          have h := hk_1
          obtain rfl := Sh.some_inj h
          refine WpC.ret ?_
          exact VEnds.ret1 rfl rfl ⟨rfl, hH⟩
        ·
          replace h := Sh.ite_neg hb h
          refine WpC.skipD ?_
          refine ⟨_, Heap.le_refl _, ?_⟩
          refine WpC.regionD ?_
          obtain ⟨c_1, h⟩ := Sh.chk_some h
          refine WpOps.pn 3 rfl c_1 ?_
          refine WpOps.nil ?_
          obtain rfl := Sh.some_inj h
          exact ⟨_, (Heap.le_refl _), (i_1 + (1 : Int)), (), rfl, ⟨rfl, rfl, rfl, rfl, trivial⟩, hH⟩
      ·
        replace h := Sh.ite_neg hb h
        obtain rfl := Sh.some_inj h
        have e := hd_1 _ rfl
        subst e
        refine WpC.exit ?_
        exact ⟨((), ()), ⟨rfl, rfl, rfl, trivial⟩, hk_1, hH⟩
    ·
      rintro ⟨_, _⟩ env H' ⟨h, hH⟩
      try dsimp only at h
      refine ⟨_, Heap.le_refl _, ?_⟩
      refine WpC.seqR ?_
      obtain ⟨r_3, hr_3, h⟩ := Sh.bind_some h
      refine WpOps.pn 1 rfl trivial ?_
      refine WpOps.consE (v := (.tup [(AV.rows 1 (List.map cS r_3.1)), (iA r_3.2)])) rfl rfl (Exact.call rfl rfl rfl (w_world_Names (hG.up hH) hr_3)) ?_
      refine WpOps.pn 5 rfl trivial ?_
      refine WpOps.nil ?_
      refine WpC.seqR ?_
      obtain ⟨r_4, hr_4, h⟩ := Sh.bind_some h
      refine WpOps.pn 1 rfl trivial ?_
      refine WpOps.consE (v := (AV.rows 1 (List.map cS r_4))) rfl rfl (Exact.call rfl rfl rfl (w_world_Spelled (hG.up hH) hr_4)) ?_
      refine WpOps.pn 1 rfl trivial ?_
      refine WpOps.nil ?_
      refine WpC.seqR ?_
      obtain ⟨r_5, hr_5, h⟩ := Sh.bind_some h
      refine WpOps.pn 1 rfl trivial ?_
      refine WpOps.consE (v := (AV.rows 1 (List.map cS r_5))) rfl rfl (Exact.call rfl rfl rfl (w_world_Known (hG.up hH) hr_5)) ?_
      refine WpOps.pn 1 rfl trivial ?_
      refine WpOps.nil ?_
      refine WpC.seq ?_
      refine WpC.seqR ?_
      refine WpOps.pn 1 rfl trivial ?_
      refine WpOps.nil ?_
      refine WpC.blockK (fun x : (Unit) × (Unit) => [(0, (AV.rows 2 (List.map cGFile files_1))), (1, (sA text_1)), (5, (bA r_1)), (8, (AV.rows 1 (List.map cS r_3.1))), (9, (iA r_3.2)), (11, (AV.rows 1 (List.map cS r_5)))]) (fun x H' => (emendlaw11_WorldAsked_j3 files_1 text_1 r_1 r_3 r_5) x.1 = some r ∧ Holds H0 [] H') ?_ ?_
      ·
        obtain ⟨o_2, ho_2, hk_2⟩ := Sh.bind_some h
        refine WpC.loopS (emendlaw11_WorldAsked_b4 r_3 r_4 r_5) (fun (s : Int) (a : Unit) => [(0, (AV.rows 2 (List.map cGFile files_1))), (1, (sA text_1)), (5, (bA r_1)), (8, (AV.rows 1 (List.map cS r_3.1))), (9, (iA r_3.2)), (10, (AV.rows 1 (List.map cS r_4))), (11, (AV.rows 1 (List.map cS r_5))), (12, (iA s))]) (fun (s : Int) (a : Unit) H' => Holds H0 [] H') o_2 (0 : Int) () ho_2 ⟨rfl, rfl, rfl, rfl, rfl, rfl, rfl, rfl, trivial⟩ hH ?_
        rintro i_2 _ st_2 env H' h hd_2 hH
        refine WpC.seq ?_
        refine WpC.seqR ?_
        refine WpOps.pn 3 rfl trivial ?_
        refine WpOps.at 57 (len_map _ _) ?_
        refine WpOps.pn 1 rfl trivial ?_
        refine WpOps.nil ?_
        refine WpC.condB rfl (fun hb => ?_) (fun hb => ?_)
        ·
          replace h := Sh.ite_pos hb h
          refine WpC.skipD ?_
          refine ⟨_, Heap.le_refl _, ?_⟩
          refine WpC.seq ?_
          refine WpC.block ?_
          refine WpC.seqR ?_
          obtain ⟨y_1, hy_1, h⟩ := Sh.bind_some h
          refine WpOps.pn 3 rfl trivial ?_
          refine WpOps.consE (v := (.rop (cS y_1))) rfl rfl (Exact.ixr cS hy_1 rfl rfl rfl rfl (by kernel_rfl) (by decide)) ?_
          refine WpOps.consE (v := (sA y_1)) rfl rfl (Exact.load_rop rfl rfl rfl) ?_
          obtain ⟨r_6, hr_6, h⟩ := Sh.bind_some h
          refine WpOps.consE (v := (bA r_6)) rfl rfl (Exact.call rfl rfl rfl (w_emendref11_Has hr_6)) ?_
          refine WpOps.pn 1 rfl trivial ?_
          refine WpOps.nil ?_
          refine WpC.seqR ?_
          obtain ⟨y_2, hy_2, h⟩ := Sh.bind_some h
          refine WpOps.pn 3 rfl trivial ?_
          refine WpOps.consE (v := (.rop (cS y_2))) rfl rfl (Exact.ixr cS hy_2 rfl rfl rfl rfl (by kernel_rfl) (by decide)) ?_
          refine WpOps.consE (v := (sA y_2)) rfl rfl (Exact.load_rop rfl rfl rfl) ?_
          obtain ⟨r_7, hr_7, h⟩ := Sh.bind_some h
          refine WpOps.consE (v := (bA r_7)) rfl rfl (Exact.call rfl rfl rfl (w_emendref11_Has hr_7)) ?_
          refine WpOps.pn 1 rfl trivial ?_
          refine WpOps.nil ?_
          refine WpC.seqD [] [0, 1, 2, 3, 4, 5, 6, 7, 8, 9, 10, 11, 12, 13, 14, 15, 16, 17, 18, 19, 20] (by kernel_rfl) (by kernel_rfl) ?_
          refine WpPi.pn 2 rfl trivial ?_
          obtain ⟨b_3, g_3, h⟩ := Sh.bind_some h
          refine WpPi.cutB 3 77 (bA b_3) rfl ?_ ?_
          ·
            refine WpPi.pn 1 rfl trivial ?_
            refine WpPi.split 75 rfl (fun hb => ?_) (fun hb => ?_)
            ·
              replace g_3 := Sh.ite_pos hb g_3
              refine WpPi.pn 2 rfl trivial ?_
              refine WpPi.nil ?_
              obtain rfl := Sh.some_inj g_3
              exact ⟨rfl, rfl⟩
            ·
              replace g_3 := Sh.ite_neg hb g_3
              refine WpPi.pn 2 rfl trivial ?_
              refine WpPi.nil ?_
              obtain rfl := Sh.some_inj g_3
              exact ⟨rfl, rfl⟩
          intro env
          obtain ⟨b_4, g_4, h⟩ := Sh.bind_some h
          refine WpPi.cutB 16 93 (bA b_4) rfl ?_ ?_
          ·
            refine WpPi.pn 1 rfl trivial ?_
            refine WpPi.split 78 rfl (fun hb => ?_) (fun hb => ?_)
            ·
              replace g_4 := Sh.ite_pos hb g_4
              refine WpPi.pn 6 rfl trivial ?_
              refine WpPi.skip rfl rfl rfl ?_
              refine WpPi.skip rfl rfl rfl ?_
              refine WpPi.pn 2 rfl trivial ?_
              refine WpPi.skip rfl rfl rfl ?_
              refine WpPi.skip rfl rfl rfl ?_
              refine WpPi.pn 3 rfl trivial ?_
              refine WpPi.nil ?_
              obtain rfl := Sh.some_inj g_4
              exact ⟨rfl, rfl⟩
            ·
              replace g_4 := Sh.ite_neg hb g_4
              refine WpPi.pn 2 rfl trivial ?_
              obtain ⟨b_5, g_5, g_4⟩ := Sh.bind_some g_4
              refine WpPi.cutB 12 92 (bA b_5) rfl ?_ ?_
              ·
                refine WpPi.pn 1 rfl trivial ?_
                refine WpPi.split 81 rfl (fun hb => ?_) (fun hb => ?_)
                ·
                  replace g_5 := Sh.ite_pos hb g_5
                  obtain ⟨c_2, g_5⟩ := Sh.chk_some g_5
                  obtain ⟨y_3, hy_3, g_5⟩ := Sh.bind_some g_5
                  refine WpPi.pn 3 rfl c_2 ?_
                  refine WpPi.consI (v := (.rop (cS y_3))) rfl rfl rfl rfl (fun _ => Exact.ixr cS hy_3 rfl rfl rfl rfl (by kernel_rfl) (by decide)) ?_
                  refine WpPi.consI (v := (sA y_3)) rfl rfl rfl rfl (fun _ => Exact.load_rop rfl rfl rfl) ?_
                  obtain ⟨y_4, hy_4, g_5⟩ := Sh.bind_some g_5
                  refine WpPi.pn 2 rfl trivial ?_
                  refine WpPi.consI (v := (.rop (cS y_4))) rfl rfl rfl rfl (fun _ => Exact.ixr cS hy_4 rfl rfl rfl rfl (by kernel_rfl) (by decide)) ?_
                  refine WpPi.consI (v := (sA y_4)) rfl rfl rfl rfl (fun _ => Exact.load_rop rfl rfl rfl) ?_
                  refine WpPi.pn 2 rfl trivial ?_
                  refine WpPi.nil ?_
                  obtain rfl := Sh.some_inj g_5
                  exact ⟨rfl, rfl⟩
                ·
                  replace g_5 := Sh.ite_neg hb g_5
                  refine WpPi.pn 3 rfl trivial ?_
                  refine WpPi.skip rfl rfl rfl ?_
                  refine WpPi.skip rfl rfl rfl ?_
                  refine WpPi.pn 2 rfl trivial ?_
                  refine WpPi.skip rfl rfl rfl ?_
                  refine WpPi.skip rfl rfl rfl ?_
                  refine WpPi.pn 2 rfl trivial ?_
                  refine WpPi.nil ?_
                  obtain rfl := Sh.some_inj g_5
                  exact ⟨rfl, rfl⟩
              intro env
              refine WpPi.pn 1 rfl trivial ?_
              refine WpPi.nil ?_
              obtain rfl := Sh.some_inj g_4
              exact ⟨rfl, rfl⟩
          intro env
          refine WpPi.nil ?_
          refine WpC.condB rfl (fun hb => ?_) (fun hb => ?_)
          ·
            replace h := Sh.ite_pos hb h
            refine WpC.seqR ?_
            refine WpOps.pn 1 rfl trivial ?_
            refine WpOps.nil ?_
            obtain rfl := Sh.some_inj h
            have e := hd_2 _ rfl
            subst e
            have h := hk_2
            obtain rfl := Sh.some_inj h
            refine WpC.ret ?_
            exact VEnds.ret1 rfl rfl ⟨rfl, hH⟩
          ·
            replace h := Sh.ite_neg hb h
            refine WpC.skipD ?_
            refine ⟨_, Heap.le_refl _, ?_⟩
            refine WpC.regionD ?_
            obtain ⟨c_3, h⟩ := Sh.chk_some h
            refine WpOps.pn 3 rfl c_3 ?_
            refine WpOps.nil ?_
            obtain rfl := Sh.some_inj h
            exact ⟨_, (Heap.le_refl _), (i_2 + (1 : Int)), (), rfl, ⟨rfl, rfl, rfl, rfl, rfl, rfl, rfl, rfl, trivial⟩, hH⟩
        ·
          replace h := Sh.ite_neg hb h
          obtain rfl := Sh.some_inj h
          have e := hd_2 _ rfl
          subst e
          refine WpC.exit ?_
          exact ⟨((), ()), ⟨rfl, rfl, rfl, rfl, rfl, rfl, trivial⟩, hk_2, hH⟩
      ·
        rintro ⟨_, _⟩ env H' ⟨h, hH⟩
        try dsimp only at h
        refine ⟨_, Heap.le_refl _, ?_⟩
        refine WpC.seqR ?_
        refine WpOps.consG rfl rfl (WpO.litT (size := 2) cGFile ([] : List GFile) rfl rfl (by kernel_rfl) rfl hH fun g_6 H' hH => ?_)
        obtain ⟨c_4, h⟩ := Sh.chk_some h
        refine WpOps.pn 1 rfl trivial ?_
        refine WpOps.consG rfl rfl (WpO.pushS cGFile ([] : List GFile) files_1 (i := 0) rfl ek32 hH rfl rfl rfl (.rows _) (fun y _ => one_cGFile y) c_4 (by decide) fun g_7 cp_1 H' hH => ?_)
        refine WpOps.pn 2 rfl trivial ?_
        refine WpOps.consE (v := (AV.rows 2 (List.map cGFile ([(GFile.mk ([113, 46, 104] : List UInt8) text_1)] : List GFile)))) rfl rfl (Exact.litSlice rfl (by kernel_rfl)) ?_
        obtain ⟨c_5, h⟩ := Sh.chk_some h
        refine WpOps.consG rfl rfl (WpO.pushS cGFile (([] : List GFile) ++ files_1) ([(GFile.mk ([113, 46, 104] : List UInt8) text_1)] : List GFile) (i := 0) rfl ek32 hH rfl rfl rfl (.rows _) (fun y _ => one_cGFile y) c_5 (by decide) fun g_8 cp_2 H' hH => ?_)
        refine WpOps.pn 1 rfl trivial ?_
        refine WpOps.nil ?_
        refine WpC.freeze (t := 15) (i := 0) hH rfl rfl (fun H' hH => ?_)
        refine WpC.seqR ?_
        obtain ⟨r_8, hr_8, h⟩ := Sh.bind_some h
        refine WpOps.pn 1 rfl trivial ?_
        refine WpOps.consE (v := (.tup [(AV.rows 1 (List.map cS r_8.1)), (iA r_8.2)])) rfl rfl (Exact.call rfl rfl rfl (w_world_Names (hG.up hH) hr_8)) ?_
        refine WpOps.pn 5 rfl trivial ?_
        refine WpOps.nil ?_
        refine WpC.seqR ?_
        obtain ⟨r_9, hr_9, h⟩ := Sh.bind_some h
        refine WpOps.pn 1 rfl trivial ?_
        refine WpOps.consE (v := (AV.rows 1 (List.map cS r_9))) rfl rfl (Exact.call rfl rfl rfl (w_world_Known (hG.up hH) hr_9)) ?_
        refine WpOps.pn 1 rfl trivial ?_
        refine WpOps.nil ?_
        refine WpC.seqR ?_
        refine WpOps.pn 1 rfl trivial ?_
        obtain ⟨b_6, g_9, h⟩ := Sh.bind_some h
        refine WpOps.cutB 5 113 (bA b_6) rfl ?_ ?_
        ·
          refine WpOps.pn 1 rfl trivial ?_
          refine WpOps.split 109 rfl (fun hb => ?_) (fun hb => ?_)
          ·
            replace g_9 := Sh.ite_pos hb g_9
            refine WpOps.pn 4 rfl trivial ?_
            refine WpOps.nil ?_
            obtain rfl := Sh.some_inj g_9
            exact ⟨rfl, rfl⟩
          ·
            replace g_9 := Sh.ite_neg hb g_9
            refine WpOps.pn 4 rfl trivial ?_
            refine WpOps.nil ?_
            obtain rfl := Sh.some_inj g_9
            exact ⟨rfl, rfl⟩
        intro env
        obtain ⟨b_7, g_10, h⟩ := Sh.bind_some h
        refine WpOps.cutB 5 118 (bA b_7) rfl ?_ ?_
        ·
          refine WpOps.pn 1 rfl trivial ?_
          refine WpOps.split 114 rfl (fun hb => ?_) (fun hb => ?_)
          ·
            replace g_10 := Sh.ite_pos hb g_10
            obtain ⟨r_10, hr_10, g_10⟩ := Sh.bind_some g_10
            refine WpOps.pn 2 rfl trivial ?_
            refine WpOps.consE (v := (bA r_10)) rfl rfl (Exact.call rfl rfl rfl (w_emendref11_Same hr_10)) ?_
            refine WpOps.pn 1 rfl trivial ?_
            refine WpOps.nil ?_
            obtain rfl := Sh.some_inj g_10
            exact ⟨rfl, rfl⟩
          ·
            replace g_10 := Sh.ite_neg hb g_10
            refine WpOps.pn 4 rfl trivial ?_
            refine WpOps.nil ?_
            obtain rfl := Sh.some_inj g_10
            exact ⟨rfl, rfl⟩
        intro env
        obtain ⟨b_8, g_11, h⟩ := Sh.bind_some h
        refine WpOps.cutB 5 123 (bA b_8) rfl ?_ ?_
        ·
          refine WpOps.pn 1 rfl trivial ?_
          refine WpOps.split 119 rfl (fun hb => ?_) (fun hb => ?_)
          ·
            replace g_11 := Sh.ite_pos hb g_11
            obtain ⟨r_11, hr_11, g_11⟩ := Sh.bind_some g_11
            refine WpOps.pn 2 rfl trivial ?_
            refine WpOps.consE (v := (bA r_11)) rfl rfl (Exact.call rfl rfl rfl (w_emendref11_Same hr_11)) ?_
            refine WpOps.pn 1 rfl trivial ?_
            refine WpOps.nil ?_
            obtain rfl := Sh.some_inj g_11
            exact ⟨rfl, rfl⟩
          ·
            replace g_11 := Sh.ite_neg hb g_11
            refine WpOps.pn 4 rfl trivial ?_
            refine WpOps.nil ?_
            obtain rfl := Sh.some_inj g_11
            exact ⟨rfl, rfl⟩
        intro env
        refine WpOps.pn 1 rfl trivial ?_
        refine WpOps.nil ?_
        obtain rfl := Sh.some_inj h
        refine WpC.ret ?_
        exact VEnds.ret1 rfl rfl ⟨rfl, hH⟩

theorem w_emendlaw11_WorldTurned {H0 : Heap} (hG : Glob H0) {files_1 : List GFile} {r : Bool} (h : emendlaw11_WorldTurned files_1 = some r) : TCall Tryd.prog 7 [(AV.rows 2 (List.map cGFile files_1))] H0 (fun v H' => v = (bA r) ∧ H' = H0) noE := by
  refine id (TCall.body Tryd.func7 rfl rfl ?_)
  have hH : Holds H0 [] H0 := rfl
  refine WpC.seqR ?_
  refine WpOps.pn 1 rfl trivial ?_
  refine WpOps.nil ?_
  refine WpC.seqR ?_
  obtain ⟨r_1, hr_1, h⟩ := Sh.bind_some h
  refine WpOps.consE (v := (bA r_1)) rfl rfl (Exact.call rfl rfl rfl (w_emendlaw11_awake (hG.up hH) hr_1)) ?_
  refine WpOps.pn 1 rfl trivial ?_
  refine WpOps.nil ?_
  refine WpC.seqR ?_
  obtain ⟨r_2, hr_2, h⟩ := Sh.bind_some h
  refine WpOps.pn 1 rfl trivial ?_
  refine WpOps.consE (v := (bA r_2)) rfl rfl (Exact.call rfl rfl rfl (w_emendref11_Short hr_2)) ?_
  refine WpOps.pn 1 rfl trivial ?_
  refine WpOps.nil ?_
  refine WpC.seq ?_
  refine WpC.seqR ?_
  refine WpOps.pn 2 rfl trivial ?_
  refine WpOps.nil ?_
  refine WpC.condB rfl (fun hb => ?_) (fun hb => ?_)
  ·
    replace h := Sh.ite_pos hb h
    refine WpC.seqR ?_
    refine WpOps.pn 2 rfl trivial ?_
    refine WpOps.nil ?_
    obtain rfl := Sh.some_inj h
    refine WpC.ret ?_
    exact VEnds.ret1 rfl rfl ⟨rfl, hH⟩
  ·
    replace h := Sh.ite_neg hb h
    refine WpC.skipD ?_
    refine ⟨_, Heap.le_refl _, ?_⟩
    refine WpC.seqR ?_
    refine WpOps.pn 1 rfl trivial ?_
    have hH := hH.nil 39 2
    refine WpOps.nil ?_
    refine WpC.seq ?_
    refine WpC.seqR ?_
    refine WpOps.pn 2 rfl trivial ?_
    refine WpOps.at 22 (len_map _ _) ?_
    obtain ⟨c_1, h⟩ := Sh.chk_some h
    refine WpOps.pn 2 rfl c_1 ?_
    refine WpOps.nil ?_
    refine WpC.blockK (fun x : (List GFile) × ((Option (Nat × Nat))) => [(0, (AV.rows 2 (List.map cGFile files_1))), (3, (bA r_1)), (5, (.own (List.map cGFile x.1).length x.2))]) (fun x H' => (emendlaw11_WorldTurned_j1 files_1 r_1) x.1 = some r ∧ Holds H0 [.own 39 2 x.2 (List.map cGFile x.1)] H') ?_ ?_
    ·
      obtain ⟨o_1, ho_1, hk_1⟩ := Sh.bind_some h
      refine WpC.loopS (emendlaw11_WorldTurned_b2 files_1) (fun (s : Int × List GFile) (a : (Option (Nat × Nat))) => [(0, (AV.rows 2 (List.map cGFile files_1))), (3, (bA r_1)), (5, (.own (List.map cGFile s.2).length a)), (6, (iA s.1))]) (fun (s : Int × List GFile) (a : (Option (Nat × Nat))) H' => Holds H0 [.own 39 2 a (List.map cGFile s.2)] H') o_1 (((files_1.length : Int) - (1 : Int)), ([] : List GFile)) none ho_1 ⟨rfl, rfl, rfl, rfl, trivial⟩ hH ?_
      rintro ⟨i_1, back_1⟩ p_1 st_1 env H' h hd_1 hH
      refine WpC.seq ?_
      refine WpC.seqR ?_
      refine WpOps.pn 2 rfl trivial ?_
      refine WpOps.nil ?_
      refine WpC.condB rfl (fun hb => ?_) (fun hb => ?_)
      ·
        replace h := Sh.ite_pos hb h
        refine WpC.skipD ?_
        refine ⟨_, Heap.le_refl _, ?_⟩
        refine WpC.seq ?_
        refine WpC.block ?_
        refine WpC.regionD ?_
        obtain ⟨y_1, hy_1, h⟩ := Sh.bind_some h
        refine WpOps.pn 3 rfl trivial ?_
        refine WpOps.consE (v := (.rop (cGFile y_1))) rfl rfl (Exact.ixr cGFile hy_1 rfl rfl rfl rfl (by kernel_rfl) (by decide)) ?_
        refine WpOps.consE (v := (AV.agg (cGFile y_1))) rfl rfl (Exact.load_rop rfl rfl rfl) ?_
        refine WpOps.consE (v := (AV.rows 2 (List.map cGFile ([y_1] : List GFile)))) rfl rfl (Exact.litSlice rfl (by kernel_rfl)) ?_
        obtain ⟨c_2, h⟩ := Sh.chk_some h
        refine WpOps.consG rfl rfl (WpO.pushT cGFile back_1 ([y_1] : List GFile) (i := 0) rfl ek32 hH rfl rfl rfl (.rows _) (fun y _ => one_cGFile y) (by simp) c_2 (by decide) fun p_2 H' hH => ?_)
        refine WpOps.pn 1 rfl trivial ?_
        refine WpOps.nil ?_
        refine ⟨_, Heap.le_refl _, ?_⟩
        refine WpC.regionD ?_
        obtain ⟨c_3, h⟩ := Sh.chk_some h
        refine WpOps.pn 3 rfl c_3 ?_
        refine WpOps.nil ?_
        obtain rfl := Sh.some_inj h
        exact ⟨_, (Heap.le_refl _), ((i_1 - (1 : Int)), (back_1 ++ ([y_1] : List GFile))), p_2, rfl, ⟨rfl, rfl, rfl, rfl, trivial⟩, hH⟩
      ·
        replace h := Sh.ite_neg hb h
        obtain rfl := Sh.some_inj h
        have e := hd_1 _ rfl
        subst e
        refine WpC.exit ?_
        exact ⟨(back_1, p_1), ⟨rfl, rfl, rfl, trivial⟩, hk_1, hH⟩
    ·
      rintro ⟨back_2, p_3⟩ env H' ⟨h, hH⟩
      try dsimp only at h
      refine ⟨_, Heap.le_refl _, ?_⟩
      refine WpC.seqR ?_
      obtain ⟨r_3, hr_3, h⟩ := Sh.bind_some h
      refine WpOps.pn 1 rfl trivial ?_
      refine WpOps.consE (v := (.tup [(AV.rows 1 (List.map cS r_3.1)), (iA r_3.2)])) rfl rfl (Exact.call rfl rfl rfl (w_world_Names (hG.up hH) hr_3)) ?_
      refine WpOps.pn 5 rfl trivial ?_
      refine WpOps.nil ?_
      refine WpC.freeze (t := 5) (i := 0) hH rfl rfl (fun H' hH => ?_)
      refine WpC.seqR ?_
      obtain ⟨r_4, hr_4, h⟩ := Sh.bind_some h
      refine WpOps.pn 1 rfl trivial ?_
      refine WpOps.consE (v := (.tup [(AV.rows 1 (List.map cS r_4.1)), (iA r_4.2)])) rfl rfl (Exact.call rfl rfl rfl (w_world_Names (hG.up hH) hr_4)) ?_
      refine WpOps.pn 5 rfl trivial ?_
      refine WpOps.nil ?_
      refine WpC.seqR ?_
      obtain ⟨r_5, hr_5, h⟩ := Sh.bind_some h
      refine WpOps.pn 1 rfl trivial ?_
      refine WpOps.consE (v := (AV.rows 1 (List.map cS r_5))) rfl rfl (Exact.call rfl rfl rfl (w_world_Known (hG.up hH) hr_5)) ?_
      refine WpOps.pn 1 rfl trivial ?_
      refine WpOps.nil ?_
      refine WpC.seqR ?_
      obtain ⟨r_6, hr_6, h⟩ := Sh.bind_some h
      refine WpOps.pn 1 rfl trivial ?_
      refine WpOps.consE (v := (AV.rows 1 (List.map cS r_6))) rfl rfl (Exact.call rfl rfl rfl (w_world_Known (hG.up hH) hr_6)) ?_
      refine WpOps.pn 1 rfl trivial ?_
      refine WpOps.nil ?_
      refine WpC.seqR ?_
      obtain ⟨r_7, hr_7, h⟩ := Sh.bind_some h
      refine WpOps.pn 1 rfl trivial ?_
      refine WpOps.consE (v := (AV.rows 1 (List.map cS r_7))) rfl rfl (Exact.call rfl rfl rfl (w_world_Spelled (hG.up hH) hr_7)) ?_
      refine WpOps.pn 1 rfl trivial ?_
      refine WpOps.nil ?_
      refine WpC.seqR ?_
      obtain ⟨r_8, hr_8, h⟩ := Sh.bind_some h
      refine WpOps.pn 1 rfl trivial ?_
      refine WpOps.consE (v := (AV.rows 1 (List.map cS r_8))) rfl rfl (Exact.call rfl rfl rfl (w_world_Spelled (hG.up hH) hr_8)) ?_
      refine WpOps.pn 1 rfl trivial ?_
      refine WpOps.nil ?_
      refine WpC.seqR ?_
      refine WpOps.pn 1 rfl trivial ?_
      obtain ⟨b_1, g_1, h⟩ := Sh.bind_some h
      refine WpOps.cutB 5 58 (bA b_1) rfl ?_ ?_
      ·
        refine WpOps.pn 1 rfl trivial ?_
        refine WpOps.split 54 rfl (fun hb => ?_) (fun hb => ?_)
        ·
          replace g_1 := Sh.ite_pos hb g_1
          refine WpOps.pn 4 rfl trivial ?_
          refine WpOps.nil ?_
          obtain rfl := Sh.some_inj g_1
          exact ⟨rfl, rfl⟩
        ·
          replace g_1 := Sh.ite_neg hb g_1
          refine WpOps.pn 4 rfl trivial ?_
          refine WpOps.nil ?_
          obtain rfl := Sh.some_inj g_1
          exact ⟨rfl, rfl⟩
      intro env
      obtain ⟨b_2, g_2, h⟩ := Sh.bind_some h
      refine WpOps.cutB 5 63 (bA b_2) rfl ?_ ?_
      ·
        refine WpOps.pn 1 rfl trivial ?_
        refine WpOps.split 59 rfl (fun hb => ?_) (fun hb => ?_)
        ·
          replace g_2 := Sh.ite_pos hb g_2
          obtain ⟨r_9, hr_9, g_2⟩ := Sh.bind_some g_2
          refine WpOps.pn 2 rfl trivial ?_
          refine WpOps.consE (v := (bA r_9)) rfl rfl (Exact.call rfl rfl rfl (w_emendref11_Same hr_9)) ?_
          refine WpOps.pn 1 rfl trivial ?_
          refine WpOps.nil ?_
          obtain rfl := Sh.some_inj g_2
          exact ⟨rfl, rfl⟩
        ·
          replace g_2 := Sh.ite_neg hb g_2
          refine WpOps.pn 4 rfl trivial ?_
          refine WpOps.nil ?_
          obtain rfl := Sh.some_inj g_2
          exact ⟨rfl, rfl⟩
      intro env
      obtain ⟨b_3, g_3, h⟩ := Sh.bind_some h
      refine WpOps.cutB 5 68 (bA b_3) rfl ?_ ?_
      ·
        refine WpOps.pn 1 rfl trivial ?_
        refine WpOps.split 64 rfl (fun hb => ?_) (fun hb => ?_)
        ·
          replace g_3 := Sh.ite_pos hb g_3
          obtain ⟨r_10, hr_10, g_3⟩ := Sh.bind_some g_3
          refine WpOps.pn 2 rfl trivial ?_
          refine WpOps.consE (v := (bA r_10)) rfl rfl (Exact.call rfl rfl rfl (w_emendref11_Same hr_10)) ?_
          refine WpOps.pn 1 rfl trivial ?_
          refine WpOps.nil ?_
          obtain rfl := Sh.some_inj g_3
          exact ⟨rfl, rfl⟩
        ·
          replace g_3 := Sh.ite_neg hb g_3
          refine WpOps.pn 4 rfl trivial ?_
          refine WpOps.nil ?_
          obtain rfl := Sh.some_inj g_3
          exact ⟨rfl, rfl⟩
      intro env
      obtain ⟨b_4, g_4, h⟩ := Sh.bind_some h
      refine WpOps.cutB 5 73 (bA b_4) rfl ?_ ?_
      ·
        refine WpOps.pn 1 rfl trivial ?_
        refine WpOps.split 69 rfl (fun hb => ?_) (fun hb => ?_)
        ·
          replace g_4 := Sh.ite_pos hb g_4
          obtain ⟨r_11, hr_11, g_4⟩ := Sh.bind_some g_4
          refine WpOps.pn 2 rfl trivial ?_
          refine WpOps.consE (v := (bA r_11)) rfl rfl (Exact.call rfl rfl rfl (w_emendref11_Same hr_11)) ?_
          refine WpOps.pn 1 rfl trivial ?_
          refine WpOps.nil ?_
          obtain rfl := Sh.some_inj g_4
          exact ⟨rfl, rfl⟩
        ·
          replace g_4 := Sh.ite_neg hb g_4
          refine WpOps.pn 4 rfl trivial ?_
          refine WpOps.nil ?_
          obtain rfl := Sh.some_inj g_4
          exact ⟨rfl, rfl⟩
      intro env
      refine WpOps.pn 1 rfl trivial ?_
      refine WpOps.nil ?_
      obtain rfl := Sh.some_inj h
      refine WpC.ret ?_
      exact VEnds.ret1 rfl rfl ⟨rfl, hH⟩

end Go.Proofs.YtdbcklichbiihaaDoor
