/-
  The code computes what the plain functions say. Printed by a tool.
-/
import Derived.Test.YtdflfbolaicliaaT
import Derived.Test.YtdflfbolaicliaaPe
import Derived.Test.YtdflfbolaicliaaChecked
import Derived.Test.YtdflfbolaicliaaBu
import Derived.Test.YtdflfbolaicliaaEd
import Derived.Test.YtdflfbolaicliaaDf
set_option linter.unusedVariables false
set_option linter.unusedSimpArgs false
set_option maxRecDepth 20000
set_option maxHeartbeats 8000000
namespace Go.Proofs.Ytdflfbolaicliaa
open Go Go.Vc Go.Sh
attribute [local irreducible] WpC WpOps WpPi WpO Exact TCall VEnds Sh.loopS DEnds
theorem ek22 : ElemOk Try.prog 22 37 2 32 := ElemOk.of (by kernel_rfl)
theorem ek23 : ElemOk Try.prog 23 34 4 40 := ElemOk.of (by kernel_rfl)
theorem ek38 : ElemOk Try.prog 38 3 1 8 := ElemOk.of (by kernel_rfl)
theorem ek45 : ElemOk Try.prog 45 49 4 40 := ElemOk.of (by kernel_rfl)
theorem w_edits_change_right {H0 : Heap} {c_1 : GEdit} {files_1 : List GFile} {r : Bool} (h : edits_change_right c_1 files_1 = some r) : TCall Try.prog 38 [(AV.agg (cGEdit c_1)), (AV.rows 2 (List.map cGFile files_1))] H0 (fun v H' => v = (bA r) ∧ H' = H0) noE := by
  refine id (TCall.body Try.func38 rfl rfl ?_)
  have hH : Holds H0 [] H0 := rfl
  refine WpC.seqR ?_
  refine WpOps.consG rfl rfl (WpO.boxT (v := (AV.agg (cGEdit c_1))) rfl rfl hH fun g_1 H' hH => ?_)
  refine WpOps.pn 1 rfl trivial ?_
  refine WpOps.nil ?_
  refine WpC.seqD [.I, .S, .I, .I, .I, .S, .I, .I, .I, .I, .I, .I, .S, .I, .I, .I, .I, .S, .I, .S, .I, .I, .I, .I, .S, .I, .I, .S] [0, 1, 2, 3, 4, 5, 6, 7, 8, 9, 10, 11, 12, 13, 14, 15, 16, 17, 18, 19, 20, 21, 22, 23, 24, 25, 26, 27, 28, 29, 30, 31, 32, 33, 34] (by kernel_rfl) (by kernel_rfl) ?_
  refine WpPi.pn 1 rfl trivial ?_
  refine WpPi.consS (v := (iA c_1.file_)) rfl rfl rfl rfl (Exact.load rfl rfl (hH.cell (i := 0) rfl) rfl rfl) ?_
  refine WpPi.pn 1 rfl trivial ?_
  obtain ⟨b_1, g_2, h⟩ := Sh.bind_some h
  refine WpPi.cutB 7 14 (bA b_1) rfl ?_ ?_
  ·
    refine WpPi.pn 1 rfl trivial ?_
    refine WpPi.split 8 rfl (fun hb => ?_) (fun hb => ?_)
    ·
      replace g_2 := Sh.ite_pos hb g_2
      refine WpPi.pn 1 rfl trivial ?_
      refine WpPi.consS (v := (iA c_1.file_)) rfl rfl rfl rfl (Exact.load rfl rfl (hH.cell (i := 0) rfl) rfl rfl) ?_
      refine WpPi.pn 2 rfl trivial ?_
      refine WpPi.at 12 (len_map _ _) ?_
      refine WpPi.pn 2 rfl trivial ?_
      refine WpPi.nil ?_
      obtain rfl := Sh.some_inj g_2
      exact ⟨rfl, rfl⟩
    ·
      replace g_2 := Sh.ite_neg hb g_2
      refine WpPi.pn 1 rfl trivial ?_
      refine WpPi.skip rfl rfl rfl ?_
      refine WpPi.pn 4 rfl trivial ?_
      refine WpPi.nil ?_
      obtain rfl := Sh.some_inj g_2
      exact ⟨rfl, rfl⟩
  intro env
  obtain ⟨b_2, g_3, h⟩ := Sh.bind_some h
  refine WpPi.cutB 5 19 (bA b_2) rfl ?_ ?_
  ·
    refine WpPi.pn 1 rfl trivial ?_
    refine WpPi.split 15 rfl (fun hb => ?_) (fun hb => ?_)
    ·
      replace g_3 := Sh.ite_pos hb g_3
      refine WpPi.pn 1 rfl trivial ?_
      refine WpPi.consS (v := (iA c_1.from_)) rfl rfl rfl rfl (Exact.load rfl rfl (hH.cell (i := 0) rfl) rfl rfl) ?_
      refine WpPi.pn 2 rfl trivial ?_
      refine WpPi.nil ?_
      obtain rfl := Sh.some_inj g_3
      exact ⟨rfl, rfl⟩
    ·
      replace g_3 := Sh.ite_neg hb g_3
      refine WpPi.pn 1 rfl trivial ?_
      refine WpPi.skip rfl rfl rfl ?_
      refine WpPi.pn 2 rfl trivial ?_
      refine WpPi.nil ?_
      obtain rfl := Sh.some_inj g_3
      exact ⟨rfl, rfl⟩
  intro env
  obtain ⟨b_3, g_4, h⟩ := Sh.bind_some h
  refine WpPi.cutB 7 26 (bA b_3) rfl ?_ ?_
  ·
    refine WpPi.pn 1 rfl trivial ?_
    refine WpPi.split 20 rfl (fun hb => ?_) (fun hb => ?_)
    ·
      replace g_4 := Sh.ite_pos hb g_4
      refine WpPi.pn 1 rfl trivial ?_
      refine WpPi.consS (v := (iA c_1.from_)) rfl rfl rfl rfl (Exact.load rfl rfl (hH.cell (i := 0) rfl) rfl rfl) ?_
      refine WpPi.pn 1 rfl trivial ?_
      refine WpPi.consS (v := (iA c_1.to)) rfl rfl rfl rfl (Exact.load rfl rfl (hH.cell (i := 0) rfl) rfl rfl) ?_
      refine WpPi.pn 2 rfl trivial ?_
      refine WpPi.nil ?_
      obtain rfl := Sh.some_inj g_4
      exact ⟨rfl, rfl⟩
    ·
      replace g_4 := Sh.ite_neg hb g_4
      refine WpPi.pn 1 rfl trivial ?_
      refine WpPi.skip rfl rfl rfl ?_
      refine WpPi.pn 1 rfl trivial ?_
      refine WpPi.skip rfl rfl rfl ?_
      refine WpPi.pn 2 rfl trivial ?_
      refine WpPi.nil ?_
      obtain rfl := Sh.some_inj g_4
      exact ⟨rfl, rfl⟩
  intro env
  obtain ⟨b_4, g_5, h⟩ := Sh.bind_some h
  refine WpPi.cutB 12 38 (bA b_4) rfl ?_ ?_
  ·
    refine WpPi.pn 1 rfl trivial ?_
    refine WpPi.split 27 rfl (fun hb => ?_) (fun hb => ?_)
    ·
      replace g_5 := Sh.ite_pos hb g_5
      refine WpPi.pn 1 rfl trivial ?_
      refine WpPi.consS (v := (iA c_1.to)) rfl rfl rfl rfl (Exact.load rfl rfl (hH.cell (i := 0) rfl) rfl rfl) ?_
      refine WpPi.pn 2 rfl trivial ?_
      refine WpPi.consS (v := (iA c_1.file_)) rfl rfl rfl rfl (Exact.load rfl rfl (hH.cell (i := 0) rfl) rfl rfl) ?_
      obtain ⟨y_1, hy_1, g_5⟩ := Sh.bind_some g_5
      refine WpPi.consI (v := (.rop (cGFile y_1))) rfl rfl rfl rfl (fun _ => Exact.ixr cGFile hy_1 rfl rfl rfl rfl (by kernel_rfl) (by decide)) ?_
      refine WpPi.pn 1 rfl trivial ?_
      refine WpPi.consI (v := (sA y_1.text)) rfl rfl rfl rfl (fun _ => Exact.load_rop rfl rfl rfl) ?_
      refine WpPi.pn 3 rfl trivial ?_
      refine WpPi.nil ?_
      obtain rfl := Sh.some_inj g_5
      exact ⟨rfl, rfl⟩
    ·
      replace g_5 := Sh.ite_neg hb g_5
      refine WpPi.pn 1 rfl trivial ?_
      refine WpPi.skip rfl rfl rfl ?_
      refine WpPi.pn 2 rfl trivial ?_
      refine WpPi.skip rfl rfl rfl ?_
      refine WpPi.skip rfl rfl rfl ?_
      refine WpPi.pn 1 rfl trivial ?_
      refine WpPi.skip rfl rfl rfl ?_
      refine WpPi.pn 3 rfl trivial ?_
      refine WpPi.nil ?_
      obtain rfl := Sh.some_inj g_5
      exact ⟨rfl, rfl⟩
  intro env
  refine WpPi.pn 1 rfl trivial ?_
  refine WpPi.nil ?_
  refine WpC.lose (i := 0) hH rfl (fun H' hH => ?_)
  obtain rfl := Sh.some_inj h
  refine WpC.ret ?_
  exact VEnds.ret1 rfl rfl ⟨rfl, hH⟩

theorem w_cmp_Or_int {H0 : Heap} {vals_1 : List Int} {r : Int} (h : cmp_Or_int vals_1 = some r) : TCall Try.prog 47 [(AV.rows 1 (List.map cI vals_1))] H0 (fun v H' => v = (iA r) ∧ H' = H0) noE := by
  refine id (TCall.body Try.func47 rfl rfl ?_)
  have hH : Holds H0 [] H0 := rfl
  refine WpC.seqR ?_
  refine WpOps.pn 1 rfl trivial ?_
  refine WpOps.nil ?_
  refine WpC.seqR ?_
  refine WpOps.pn 1 rfl trivial ?_
  refine WpOps.nil ?_
  refine WpC.seq ?_
  refine WpC.seqR ?_
  refine WpOps.pn 2 rfl trivial ?_
  refine WpOps.at 7 (len_map _ _) ?_
  refine WpOps.pn 1 rfl trivial ?_
  refine WpOps.nil ?_
  refine WpC.blockK (fun x : (Unit) × (Unit) => [(3, (iA (0 : Int)))]) (fun x H' => cmp_Or_int_j1 x.1 = some r ∧ Holds H0 [] H') ?_ ?_
  ·
    obtain ⟨o_1, ho_1, hk_1⟩ := Sh.bind_some h
    refine WpC.loopS (cmp_Or_int_b2 vals_1) (fun (s : Int) (a : Unit) => [(3, (iA (0 : Int))), (6, (AV.rows 1 (List.map cI vals_1))), (7, (iA (vals_1.length : Int))), (8, (iA s))]) (fun (s : Int) (a : Unit) H' => Holds H0 [] H') o_1 (0 : Int) () ho_1 ⟨rfl, rfl, rfl, rfl, trivial⟩ hH ?_
    rintro t8_1 _ st_1 env H' h hd_1 hH
    refine WpC.seqR ?_
    refine WpOps.pn 1 rfl trivial ?_
    refine WpOps.nil ?_
    refine WpC.seq ?_
    refine WpC.condB rfl (fun hb => ?_) (fun hb => ?_)
    ·
      replace h := Sh.ite_pos hb h
      refine WpC.skipD ?_
      refine ⟨_, Heap.le_refl _, ?_⟩
      refine WpC.seq ?_
      refine WpC.block ?_
      refine WpC.seqR ?_
      obtain ⟨y_1, hy_1, h⟩ := Sh.bind_some h
      refine WpOps.consE (v := (.rop (cI y_1))) rfl rfl (Exact.ixr cI hy_1 rfl rfl rfl rfl (by kernel_rfl) (by decide)) ?_
      refine WpOps.consE (v := (iA y_1)) rfl rfl (Exact.load_rop rfl rfl rfl) ?_
      refine WpOps.pn 1 rfl trivial ?_
      refine WpOps.nil ?_
      refine WpC.seqR ?_
      refine WpOps.pn 3 rfl trivial ?_
      refine WpOps.nil ?_
      refine WpC.condB rfl (fun hb => ?_) (fun hb => ?_)
      ·
        replace h := Sh.ite_pos hb h
        refine WpC.seqR ?_
        refine WpOps.pn 2 rfl trivial ?_
        refine WpOps.nil ?_
        obtain rfl := Sh.some_inj h
        have e := hd_1 _ rfl
        subst e
        have h := hk_1
        obtain rfl := Sh.some_inj h
        refine WpC.ret ?_
        exact VEnds.ret1 rfl rfl ⟨rfl, hH⟩
      ·
        replace h := Sh.ite_neg hb h
        refine WpC.skipD ?_
        refine ⟨_, Heap.le_refl _, ?_⟩
        refine WpC.regionD ?_
        obtain ⟨c_1, h⟩ := Sh.chk_some h
        refine WpOps.pn 2 rfl c_1 ?_
        refine WpOps.nil ?_
        obtain rfl := Sh.some_inj h
        exact ⟨_, (Heap.le_refl _), (t8_1 + (1 : Int)), (), rfl, ⟨rfl, rfl, rfl, rfl, trivial⟩, hH⟩
    ·
      replace h := Sh.ite_neg hb h
      obtain rfl := Sh.some_inj h
      have e := hd_1 _ rfl
      subst e
      refine WpC.exit ?_
      exact ⟨((), ()), ⟨rfl, trivial⟩, hk_1, hH⟩
  ·
    rintro ⟨_, _⟩ env H' ⟨h, hH⟩
    try dsimp only at h
    refine ⟨_, Heap.le_refl _, ?_⟩
    refine WpC.seqR ?_
    refine WpOps.pn 2 rfl trivial ?_
    refine WpOps.nil ?_
    obtain rfl := Sh.some_inj h
    refine WpC.ret ?_
    exact VEnds.ret1 rfl rfl ⟨rfl, hH⟩

theorem w_cmp_isNaN_int {H0 : Heap} {x_1 : Int} {r : Bool} (h : cmp_isNaN_int x_1 = some r) : TCall Try.prog 69 [(iA x_1)] H0 (fun v H' => v = (bA r) ∧ H' = H0) noE := by
  refine id (TCall.body Try.func69 rfl rfl ?_)
  have hH : Holds H0 [] H0 := rfl
  refine WpC.seqR ?_
  refine WpOps.pn 1 rfl trivial ?_
  refine WpOps.nil ?_
  refine WpC.seqR ?_
  refine WpOps.pn 4 rfl trivial ?_
  refine WpOps.nil ?_
  obtain rfl := Sh.some_inj h
  refine WpC.ret ?_
  exact VEnds.ret1 rfl rfl ⟨rfl, hH⟩

theorem w_cmp_Compare_int {H0 : Heap} {x_1 : Int} {y_1 : Int} {r : Int} (h : cmp_Compare_int x_1 y_1 = some r) : TCall Try.prog 48 [(iA x_1), (iA y_1)] H0 (fun v H' => v = (iA r) ∧ H' = H0) noE := by
  refine id (TCall.body Try.func48 rfl rfl ?_)
  have hH : Holds H0 [] H0 := rfl
  refine WpC.seqR ?_
  refine WpOps.pn 1 rfl trivial ?_
  refine WpOps.nil ?_
  refine WpC.seqR ?_
  obtain ⟨r_1, hr_1, h⟩ := Sh.bind_some h
  refine WpOps.pn 1 rfl trivial ?_
  refine WpOps.consE (v := (bA r_1)) rfl rfl (Exact.call rfl rfl rfl (w_cmp_isNaN_int hr_1)) ?_
  refine WpOps.pn 1 rfl trivial ?_
  refine WpOps.nil ?_
  refine WpC.seqR ?_
  obtain ⟨r_2, hr_2, h⟩ := Sh.bind_some h
  refine WpOps.pn 1 rfl trivial ?_
  refine WpOps.consE (v := (bA r_2)) rfl rfl (Exact.call rfl rfl rfl (w_cmp_isNaN_int hr_2)) ?_
  refine WpOps.pn 1 rfl trivial ?_
  refine WpOps.nil ?_
  refine WpC.seq ?_
  refine WpC.seqR ?_
  refine WpOps.pn 1 rfl trivial ?_
  refine WpOps.nil ?_
  refine WpC.condB rfl (fun hb => ?_) (fun hb => ?_)
  ·
    replace h := Sh.ite_pos hb h
    refine WpC.seq ?_
    refine WpC.seqR ?_
    refine WpOps.pn 1 rfl trivial ?_
    refine WpOps.nil ?_
    refine WpC.condB rfl (fun hb => ?_) (fun hb => ?_)
    ·
      replace h := Sh.ite_pos hb h
      refine WpC.seqR ?_
      refine WpOps.pn 1 rfl trivial ?_
      refine WpOps.nil ?_
      obtain rfl := Sh.some_inj h
      refine WpC.ret ?_
      exact VEnds.ret1 rfl rfl ⟨rfl, hH⟩
    ·
      replace h := Sh.ite_neg hb h
      refine WpC.skipD ?_
      refine ⟨_, Heap.le_refl _, ?_⟩
      refine WpC.seqR ?_
      refine WpOps.pn 1 rfl trivial ?_
      refine WpOps.nil ?_
      obtain rfl := Sh.some_inj h
      refine WpC.ret ?_
      exact VEnds.ret1 rfl rfl ⟨rfl, hH⟩
  ·
    replace h := Sh.ite_neg hb h
    refine WpC.skipD ?_
    refine ⟨_, Heap.le_refl _, ?_⟩
    refine WpC.seq ?_
    refine WpC.seqR ?_
    refine WpOps.pn 1 rfl trivial ?_
    refine WpOps.nil ?_
    refine WpC.condB rfl (fun hb => ?_) (fun hb => ?_)
    ·
      replace h := Sh.ite_pos hb h
      refine WpC.seqR ?_
      refine WpOps.pn 1 rfl trivial ?_
      refine WpOps.nil ?_
      obtain rfl := Sh.some_inj h
      refine WpC.ret ?_
      exact VEnds.ret1 rfl rfl ⟨rfl, hH⟩
    ·
      replace h := Sh.ite_neg hb h
      refine WpC.skipD ?_
      refine ⟨_, Heap.le_refl _, ?_⟩
      refine WpC.seq ?_
      refine WpC.seqR ?_
      refine WpOps.pn 3 rfl trivial ?_
      refine WpOps.nil ?_
      refine WpC.condB rfl (fun hb => ?_) (fun hb => ?_)
      ·
        replace h := Sh.ite_pos hb h
        refine WpC.seqR ?_
        refine WpOps.pn 1 rfl trivial ?_
        refine WpOps.nil ?_
        obtain rfl := Sh.some_inj h
        refine WpC.ret ?_
        exact VEnds.ret1 rfl rfl ⟨rfl, hH⟩
      ·
        replace h := Sh.ite_neg hb h
        refine WpC.skipD ?_
        refine ⟨_, Heap.le_refl _, ?_⟩
        refine WpC.seq ?_
        refine WpC.seqR ?_
        refine WpOps.pn 3 rfl trivial ?_
        refine WpOps.nil ?_
        refine WpC.condB rfl (fun hb => ?_) (fun hb => ?_)
        ·
          replace h := Sh.ite_pos hb h
          refine WpC.seqR ?_
          refine WpOps.pn 1 rfl trivial ?_
          refine WpOps.nil ?_
          obtain rfl := Sh.some_inj h
          refine WpC.ret ?_
          exact VEnds.ret1 rfl rfl ⟨rfl, hH⟩
        ·
          replace h := Sh.ite_neg hb h
          refine WpC.skipD ?_
          refine ⟨_, Heap.le_refl _, ?_⟩
          refine WpC.seqR ?_
          refine WpOps.pn 1 rfl trivial ?_
          refine WpOps.nil ?_
          obtain rfl := Sh.some_inj h
          refine WpC.ret ?_
          exact VEnds.ret1 rfl rfl ⟨rfl, hH⟩

theorem w_edits_change_order {H0 : Heap} {c_1 : GEdit} {d_1 : GEdit} {r : Int} (h : edits_change_order c_1 d_1 = some r) : TCall Try.prog 40 [(AV.agg (cGEdit c_1)), (AV.agg (cGEdit d_1))] H0 (fun v H' => v = (iA r) ∧ H' = H0) noE := by
  refine id (TCall.body Try.func40 rfl rfl ?_)
  have hH : Holds H0 [] H0 := rfl
  refine WpC.seqR ?_
  refine WpOps.consG rfl rfl (WpO.boxT (v := (AV.agg (cGEdit c_1))) rfl rfl hH fun g_1 H' hH => ?_)
  refine WpOps.consG rfl rfl (WpO.boxT (v := (AV.agg (cGEdit d_1))) rfl rfl hH fun g_2 H' hH => ?_)
  refine WpOps.pn 1 rfl trivial ?_
  refine WpOps.nil ?_
  refine WpC.seqD [.I, .S, .I, .S, .I, .I, .S, .I, .S, .I, .I, .S, .I, .S] [0, 1, 2, 3, 4, 5, 6, 7, 8, 9, 10, 11, 12, 13, 14, 15, 16, 17] (by kernel_rfl) (by kernel_rfl) ?_
  refine WpPi.pn 1 rfl trivial ?_
  refine WpPi.consS (v := (iA c_1.file_)) rfl rfl rfl rfl (Exact.load rfl rfl (hH.cell (i := 1) rfl) rfl rfl) ?_
  refine WpPi.pn 1 rfl trivial ?_
  refine WpPi.consS (v := (iA d_1.file_)) rfl rfl rfl rfl (Exact.load rfl rfl (hH.cell (i := 0) rfl) rfl rfl) ?_
  obtain ⟨r_1, hr_1, h⟩ := Sh.bind_some h
  refine WpPi.consI (v := (iA r_1)) rfl rfl rfl rfl (fun _ => Exact.call rfl rfl rfl (w_cmp_Compare_int hr_1)) ?_
  refine WpPi.pn 1 rfl trivial ?_
  refine WpPi.consS (v := (iA c_1.from_)) rfl rfl rfl rfl (Exact.load rfl rfl (hH.cell (i := 1) rfl) rfl rfl) ?_
  refine WpPi.pn 1 rfl trivial ?_
  refine WpPi.consS (v := (iA d_1.from_)) rfl rfl rfl rfl (Exact.load rfl rfl (hH.cell (i := 0) rfl) rfl rfl) ?_
  obtain ⟨r_2, hr_2, h⟩ := Sh.bind_some h
  refine WpPi.consI (v := (iA r_2)) rfl rfl rfl rfl (fun _ => Exact.call rfl rfl rfl (w_cmp_Compare_int hr_2)) ?_
  refine WpPi.pn 1 rfl trivial ?_
  refine WpPi.consS (v := (iA c_1.to)) rfl rfl rfl rfl (Exact.load rfl rfl (hH.cell (i := 1) rfl) rfl rfl) ?_
  refine WpPi.pn 1 rfl trivial ?_
  refine WpPi.consS (v := (iA d_1.to)) rfl rfl rfl rfl (Exact.load rfl rfl (hH.cell (i := 0) rfl) rfl rfl) ?_
  obtain ⟨r_3, hr_3, h⟩ := Sh.bind_some h
  refine WpPi.consI (v := (iA r_3)) rfl rfl rfl rfl (fun _ => Exact.call rfl rfl rfl (w_cmp_Compare_int hr_3)) ?_
  refine WpPi.consI (v := (AV.rows 1 (List.map cI ([r_1, r_2, r_3] : List Int)))) rfl rfl rfl rfl (fun _ => Exact.litSlice rfl (by kernel_rfl)) ?_
  obtain ⟨r_4, hr_4, h⟩ := Sh.bind_some h
  refine WpPi.consI (v := (iA r_4)) rfl rfl rfl rfl (fun _ => Exact.call rfl rfl rfl (w_cmp_Or_int hr_4)) ?_
  refine WpPi.pn 1 rfl trivial ?_
  refine WpPi.nil ?_
  refine WpC.lose (i := 0) hH rfl (fun H' hH => ?_)
  refine WpC.lose (i := 0) hH rfl (fun H' hH => ?_)
  obtain rfl := Sh.some_inj h
  refine WpC.ret ?_
  exact VEnds.ret1 rfl rfl ⟨rfl, hH⟩

theorem w_edits_change_over {H0 : Heap} {c_1 : GEdit} {d_1 : GEdit} {r : Bool} (h : edits_change_over c_1 d_1 = some r) : TCall Try.prog 41 [(AV.agg (cGEdit c_1)), (AV.agg (cGEdit d_1))] H0 (fun v H' => v = (bA r) ∧ H' = H0) noE := by
  refine id (TCall.body Try.func41 rfl rfl ?_)
  have hH : Holds H0 [] H0 := rfl
  refine WpC.seqR ?_
  refine WpOps.consG rfl rfl (WpO.boxT (v := (AV.agg (cGEdit c_1))) rfl rfl hH fun g_1 H' hH => ?_)
  refine WpOps.consG rfl rfl (WpO.boxT (v := (AV.agg (cGEdit d_1))) rfl rfl hH fun g_2 H' hH => ?_)
  refine WpOps.pn 1 rfl trivial ?_
  refine WpOps.nil ?_
  refine WpC.seq ?_
  refine WpC.seqR ?_
  refine WpOps.pn 1 rfl trivial ?_
  refine WpOps.consE (v := (iA c_1.file_)) rfl rfl (Exact.load rfl rfl (hH.cell (i := 1) rfl) rfl rfl) ?_
  refine WpOps.pn 1 rfl trivial ?_
  refine WpOps.consE (v := (iA d_1.file_)) rfl rfl (Exact.load rfl rfl (hH.cell (i := 0) rfl) rfl rfl) ?_
  refine WpOps.pn 1 rfl trivial ?_
  refine WpOps.nil ?_
  refine WpC.condB rfl (fun hb => ?_) (fun hb => ?_)
  ·
    replace h := Sh.ite_pos hb h
    refine WpC.seqR ?_
    refine WpOps.pn 1 rfl trivial ?_
    refine WpOps.nil ?_
    refine WpC.lose (i := 0) hH rfl (fun H' hH => ?_)
    refine WpC.lose (i := 0) hH rfl (fun H' hH => ?_)
    obtain rfl := Sh.some_inj h
    refine WpC.ret ?_
    exact VEnds.ret1 rfl rfl ⟨rfl, hH⟩
  ·
    replace h := Sh.ite_neg hb h
    refine WpC.skipD ?_
    refine ⟨_, Heap.le_refl _, ?_⟩
    refine WpC.seqR ?_
    refine WpOps.pn 1 rfl trivial ?_
    refine WpOps.consE (v := (iA d_1.from_)) rfl rfl (Exact.load rfl rfl (hH.cell (i := 0) rfl) rfl rfl) ?_
    refine WpOps.pn 1 rfl trivial ?_
    refine WpOps.consE (v := (iA c_1.to)) rfl rfl (Exact.load rfl rfl (hH.cell (i := 1) rfl) rfl rfl) ?_
    refine WpOps.pn 1 rfl trivial ?_
    obtain ⟨b_1, g_3, h⟩ := Sh.bind_some h
    refine WpOps.cutB 21 35 (bA b_1) rfl ?_ ?_
    ·
      refine WpOps.pn 1 rfl trivial ?_
      refine WpOps.split 15 rfl (fun hb => ?_) (fun hb => ?_)
      ·
        replace g_3 := Sh.ite_pos hb g_3
        refine WpOps.pn 20 rfl trivial ?_
        refine WpOps.nil ?_
        obtain rfl := Sh.some_inj g_3
        exact ⟨rfl, rfl⟩
      ·
        replace g_3 := Sh.ite_neg hb g_3
        refine WpOps.pn 1 rfl trivial ?_
        refine WpOps.consE (v := (iA c_1.from_)) rfl rfl (Exact.load rfl rfl (hH.cell (i := 1) rfl) rfl rfl) ?_
        refine WpOps.pn 1 rfl trivial ?_
        refine WpOps.consE (v := (iA d_1.from_)) rfl rfl (Exact.load rfl rfl (hH.cell (i := 0) rfl) rfl rfl) ?_
        refine WpOps.pn 1 rfl trivial ?_
        obtain ⟨b_2, g_4, g_3⟩ := Sh.bind_some g_3
        refine WpOps.cutB 7 27 (bA b_2) rfl ?_ ?_
        ·
          refine WpOps.pn 1 rfl trivial ?_
          refine WpOps.split 21 rfl (fun hb => ?_) (fun hb => ?_)
          ·
            replace g_4 := Sh.ite_pos hb g_4
            refine WpOps.pn 1 rfl trivial ?_
            refine WpOps.consE (v := (iA c_1.to)) rfl rfl (Exact.load rfl rfl (hH.cell (i := 1) rfl) rfl rfl) ?_
            refine WpOps.pn 1 rfl trivial ?_
            refine WpOps.consE (v := (iA d_1.to)) rfl rfl (Exact.load rfl rfl (hH.cell (i := 0) rfl) rfl rfl) ?_
            refine WpOps.pn 2 rfl trivial ?_
            refine WpOps.nil ?_
            obtain rfl := Sh.some_inj g_4
            exact ⟨rfl, rfl⟩
          ·
            replace g_4 := Sh.ite_neg hb g_4
            refine WpOps.pn 6 rfl trivial ?_
            refine WpOps.nil ?_
            obtain rfl := Sh.some_inj g_4
            exact ⟨rfl, rfl⟩
        intro env
        obtain ⟨b_3, g_5, g_3⟩ := Sh.bind_some g_3
        refine WpOps.cutB 7 34 (bA b_3) rfl ?_ ?_
        ·
          refine WpOps.pn 1 rfl trivial ?_
          refine WpOps.split 28 rfl (fun hb => ?_) (fun hb => ?_)
          ·
            replace g_5 := Sh.ite_pos hb g_5
            refine WpOps.pn 1 rfl trivial ?_
            refine WpOps.consE (v := (iA c_1.from_)) rfl rfl (Exact.load rfl rfl (hH.cell (i := 1) rfl) rfl rfl) ?_
            refine WpOps.pn 1 rfl trivial ?_
            refine WpOps.consE (v := (iA c_1.to)) rfl rfl (Exact.load rfl rfl (hH.cell (i := 1) rfl) rfl rfl) ?_
            refine WpOps.pn 2 rfl trivial ?_
            refine WpOps.nil ?_
            obtain rfl := Sh.some_inj g_5
            exact ⟨rfl, rfl⟩
          ·
            replace g_5 := Sh.ite_neg hb g_5
            refine WpOps.pn 6 rfl trivial ?_
            refine WpOps.nil ?_
            obtain rfl := Sh.some_inj g_5
            exact ⟨rfl, rfl⟩
        intro env
        refine WpOps.pn 1 rfl trivial ?_
        refine WpOps.nil ?_
        obtain rfl := Sh.some_inj g_3
        exact ⟨rfl, rfl⟩
    intro env
    refine WpOps.pn 1 rfl trivial ?_
    refine WpOps.nil ?_
    refine WpC.lose (i := 0) hH rfl (fun H' hH => ?_)
    refine WpC.lose (i := 0) hH rfl (fun H' hH => ?_)
    obtain rfl := Sh.some_inj h
    refine WpC.ret ?_
    exact VEnds.ret1 rfl rfl ⟨rfl, hH⟩

theorem w_edits_sorted {H0 : Heap} {files_1 : List GFile} {l_1 : List GEdit} {r : List GEdit × Int} (h : edits_sorted files_1 l_1 = some r) : TCall Try.prog 23 [(AV.rows 2 (List.map cGFile files_1)), (AV.rows 4 (List.map cGEdit l_1))] H0 (fun v H' => ∃ p, v = (.tup [.own (List.map cGEdit r.1).length p, (iA r.2)]) ∧ Vc.Own H0 49 4 (List.map cGEdit r.1) (List.map cGEdit r.1).length p H') noE := by
  refine id (TCall.body Try.func23 rfl rfl ?_)
  have hH : Holds H0 [] H0 := rfl
  refine WpC.seqR ?_
  refine WpOps.pn 2 rfl trivial ?_
  refine WpOps.nil ?_
  refine WpC.seqR ?_
  refine WpOps.pn 1 rfl trivial ?_
  have hH := hH.nil 49 4
  refine WpOps.nil ?_
  refine WpC.seq ?_
  refine WpC.seqR ?_
  refine WpOps.pn 2 rfl trivial ?_
  refine WpOps.at 11 (len_map _ _) ?_
  refine WpOps.pn 1 rfl trivial ?_
  refine WpOps.nil ?_
  refine WpC.blockK (fun x : (List GEdit) × ((Option (Nat × Nat))) => [(6, (.own (List.map cGEdit x.1).length x.2))]) (fun x H' => edits_sorted_j1 x.1 = some r ∧ Holds H0 [.own 49 4 x.2 (List.map cGEdit x.1)] H') ?_ ?_
  ·
    obtain ⟨o_1, ho_1, hk_1⟩ := Sh.bind_some h
    refine WpC.loopS (edits_sorted_b2 files_1 l_1) (fun (s : Int × List GEdit) (a : (Option (Nat × Nat))) => [(0, (AV.rows 2 (List.map cGFile files_1))), (6, (.own (List.map cGEdit s.2).length a)), (10, (AV.rows 4 (List.map cGEdit l_1))), (11, (iA (l_1.length : Int))), (12, (iA s.1))]) (fun (s : Int × List GEdit) (a : (Option (Nat × Nat))) H' => Holds H0 [.own 49 4 a (List.map cGEdit s.2)] H') o_1 ((0 : Int), ([] : List GEdit)) none ho_1 ⟨rfl, rfl, rfl, rfl, rfl, trivial⟩ hH ?_
    rintro ⟨t12_1, out_1⟩ p_1 st_1 env H' h hd_1 hH
    refine WpC.seqR ?_
    refine WpOps.pn 1 rfl trivial ?_
    refine WpOps.nil ?_
    refine WpC.seq ?_
    refine WpC.condB rfl (fun hb => ?_) (fun hb => ?_)
    ·
      replace h := Sh.ite_pos hb h
      refine WpC.skipD ?_
      refine ⟨_, Heap.le_refl _, ?_⟩
      refine WpC.seq ?_
      refine WpC.block ?_
      refine WpC.seqR ?_
      obtain ⟨y_1, hy_1, h⟩ := Sh.bind_some h
      refine WpOps.consE (v := (.rop (cGEdit y_1))) rfl rfl (Exact.ixr cGEdit hy_1 rfl rfl rfl rfl (by kernel_rfl) (by decide)) ?_
      refine WpOps.consE (v := (AV.agg (cGEdit y_1))) rfl rfl (Exact.load_rop rfl rfl rfl) ?_
      refine WpOps.consG rfl rfl (WpO.allocT (z := cGEdit (GEdit.mk (0 : Int) (0 : Int) (0 : Int) ([] : List UInt8))) rfl rfl hH fun g_1 H' hH => ?_)
      refine WpOps.consG rfl rfl (WpO.putT (cs' := (cGEdit y_1)) (v := (AV.agg (cGEdit y_1))) rfl rfl hH (i := 0) rfl rfl rfl rfl rfl rfl rfl fun H' hH => ?_)
      refine WpOps.nil ?_
      refine WpC.seq ?_
      refine WpC.seqR ?_
      refine WpOps.consE (v := (AV.agg (cGEdit y_1))) rfl rfl (Exact.load rfl rfl (hH.cell (i := 0) rfl) rfl rfl) ?_
      obtain ⟨r_1, hr_1, h⟩ := Sh.bind_some h
      refine WpOps.pn 1 rfl trivial ?_
      refine WpOps.consE (v := (bA r_1)) rfl rfl (Exact.call rfl rfl rfl (w_edits_change_right hr_1)) ?_
      refine WpOps.pn 1 rfl trivial ?_
      refine WpOps.nil ?_
      refine WpC.condB rfl (fun hb => ?_) (fun hb => ?_)
      ·
        replace h := Sh.ite_pos hb h
        refine WpC.seqR ?_
        refine WpOps.pn 2 rfl trivial ?_
        refine WpOps.nil ?_
        have hH := hH.nil 49 4
        refine WpC.lose (i := 1) hH rfl (fun H' hH => ?_)
        refine WpC.lose (i := 1) hH rfl (fun H' hH => ?_)
        obtain rfl := Sh.some_inj h
        have e := hd_1 _ rfl
        subst e
        have h := hk_1
        obtain rfl := Sh.some_inj h
        refine WpC.ret ?_
        exact VEnds.ret2 rfl rfl rfl ⟨_, rfl, hH.one_inv⟩
      ·
        replace h := Sh.ite_neg hb h
        refine WpC.skipD ?_
        refine ⟨_, Heap.le_refl _, ?_⟩
        refine WpC.regionD ?_
        refine WpOps.pn 1 rfl trivial ?_
        refine WpOps.consE (v := (AV.agg (cGEdit y_1))) rfl rfl (Exact.load rfl rfl (hH.cell (i := 0) rfl) rfl rfl) ?_
        refine WpOps.consE (v := (AV.rows 4 (List.map cGEdit ([y_1] : List GEdit)))) rfl rfl (Exact.litSlice rfl (by kernel_rfl)) ?_
        obtain ⟨c_1, h⟩ := Sh.chk_some h
        refine WpOps.consG rfl rfl (WpO.pushT cGEdit out_1 ([y_1] : List GEdit) (i := 1) rfl ek45 hH rfl rfl rfl (.rows _) (fun y _ => one_cGEdit y) (by simp) c_1 (by decide) fun p_2 H' hH => ?_)
        refine WpOps.pn 1 rfl trivial ?_
        refine WpOps.nil ?_
        refine ⟨_, Heap.le_refl _, ?_⟩
        refine WpC.regionD ?_
        obtain ⟨c_2, h⟩ := Sh.chk_some h
        refine WpOps.pn 2 rfl c_2 ?_
        refine WpOps.nil ?_
        obtain ⟨_, hle_1, hH⟩ := hH.lose_ (i := 0) rfl
        obtain rfl := Sh.some_inj h
        exact ⟨_, hle_1, ((t12_1 + (1 : Int)), (out_1 ++ ([y_1] : List GEdit))), p_2, rfl, ⟨rfl, rfl, rfl, rfl, rfl, trivial⟩, hH⟩
    ·
      replace h := Sh.ite_neg hb h
      obtain rfl := Sh.some_inj h
      have e := hd_1 _ rfl
      subst e
      refine WpC.exit ?_
      exact ⟨(out_1, p_1), ⟨rfl, trivial⟩, hk_1, hH⟩
  ·
    rintro ⟨out_2, p_3⟩ env H' ⟨h, hH⟩
    try dsimp only at h
    refine ⟨_, Heap.le_refl _, ?_⟩
    refine WpC.seqR ?_
    obtain ⟨c_3, h⟩ := Sh.chk_some h
    refine WpOps.pn 1 rfl trivial ?_
    refine WpOps.consG rfl rfl (WpO.callT (v := (.tup [])) rfl rfl rfl hH (i := 0) rfl (fun H1 hl hh => w_sortE c_3 hh) fun H' hH => ?_)
    refine WpOps.at 6 (own_sortE _ _) ?_
    refine WpOps.at 25 (own_sortE _ _) ?_
    refine WpOps.nil ?_
    refine WpC.seq ?_
    refine WpC.seqR ?_
    refine WpOps.pn 1 rfl trivial ?_
    refine WpOps.nil ?_
    refine WpC.blockK (fun x : (Unit) × (Unit) => [(6, (.own (List.map cGEdit (sortE out_2)).length p_3))]) (fun x H' => (edits_sorted_j3 out_2) x.1 = some r ∧ Holds H0 [.own 49 4 p_3 (List.map cGEdit (sortE out_2))] H') ?_ ?_
    ·
      obtain ⟨o_2, ho_2, hk_2⟩ := Sh.bind_some h
      refine WpC.loopS (edits_sorted_b4 out_2) (fun (s : Int) (a : Unit) => [(6, (.own (List.map cGEdit (sortE out_2)).length p_3)), (9, (iA s))]) (fun (s : Int) (a : Unit) H' => Holds H0 [.own 49 4 p_3 (List.map cGEdit (sortE out_2))] H') o_2 (1 : Int) () ho_2 ⟨rfl, rfl, trivial⟩ hH ?_
      rintro i_1 _ st_2 env H' h hd_2 hH
      refine WpC.seq ?_
      refine WpC.seqR ?_
      refine WpOps.pn 3 rfl trivial ?_
      refine WpOps.at 29 (len_map _ _) ?_
      refine WpOps.pn 1 rfl trivial ?_
      refine WpOps.nil ?_
      refine WpC.condB rfl (fun hb => ?_) (fun hb => ?_)
      ·
        replace h := Sh.ite_pos hb h
        refine WpC.skipD ?_
        refine ⟨_, Heap.le_refl _, ?_⟩
        refine WpC.seq ?_
        refine WpC.block ?_
        refine WpC.seqD [.I, .I, .I, .S, .S, .I, .I, .S, .S] [0, 1, 2, 3, 4, 5, 6, 7, 8, 9] (by kernel_rfl) (by kernel_rfl) ?_
        obtain ⟨c_4, h⟩ := Sh.chk_some h
        obtain ⟨y_2, hy_2, h⟩ := Sh.bind_some h
        refine WpPi.pn 3 rfl c_4 ?_
        have hq_1 := h; have hq_2 := hH
        obtain ⟨g_2, cp_1, rfl⟩ := hq_2.grown (i := 0) rfl (ne_of_ix hy_2)
        have h := hq_1; have hH := hq_2
        refine WpPi.consS rfl rfl rfl rfl (Exact.ixo (size := 4) cGEdit hy_2 rfl rfl rfl rfl (by kernel_rfl) (by decide)) ?_
        refine WpPi.consS (v := (AV.agg (cGEdit y_2))) rfl rfl rfl rfl (Exact.ldo (off := 0) (i := 0) cGEdit hy_2 hH rfl rfl rfl (by decide) rfl) ?_
        obtain ⟨y_3, hy_3, h⟩ := Sh.bind_some h
        refine WpPi.pn 2 rfl trivial ?_
        refine WpPi.consS rfl rfl rfl rfl (Exact.ixo (size := 4) cGEdit hy_3 rfl rfl rfl rfl (by kernel_rfl) (by decide)) ?_
        refine WpPi.consS (v := (AV.agg (cGEdit y_3))) rfl rfl rfl rfl (Exact.ldo (off := 0) (i := 0) cGEdit hy_3 hH rfl rfl rfl (by decide) rfl) ?_
        obtain ⟨r_2, hr_2, h⟩ := Sh.bind_some h
        refine WpPi.consI (v := (bA r_2)) rfl rfl rfl rfl (fun _ => Exact.call rfl rfl rfl (w_edits_change_over hr_2)) ?_
        refine WpPi.nil ?_
        refine WpC.condB rfl (fun hb => ?_) (fun hb => ?_)
        ·
          replace h := Sh.ite_pos hb h
          refine WpC.seqR ?_
          refine WpOps.pn 2 rfl trivial ?_
          refine WpOps.nil ?_
          have hH := hH.nil 49 4
          refine WpC.lose (i := 1) hH rfl (fun H' hH => ?_)
          obtain rfl := Sh.some_inj h
          have e := hd_2 _ rfl
          subst e
          have h := hk_2
          obtain rfl := Sh.some_inj h
          refine WpC.ret ?_
          exact VEnds.ret2 rfl rfl rfl ⟨_, rfl, hH.one_inv⟩
        ·
          replace h := Sh.ite_neg hb h
          refine WpC.skipD ?_
          refine ⟨_, Heap.le_refl _, ?_⟩
          refine WpC.regionD ?_
          obtain ⟨c_5, h⟩ := Sh.chk_some h
          refine WpOps.pn 3 rfl c_5 ?_
          refine WpOps.nil ?_
          obtain rfl := Sh.some_inj h
          exact ⟨_, (Heap.le_refl _), (i_1 + (1 : Int)), (), rfl, ⟨rfl, rfl, trivial⟩, hH⟩
      ·
        replace h := Sh.ite_neg hb h
        obtain rfl := Sh.some_inj h
        have e := hd_2 _ rfl
        subst e
        refine WpC.exit ?_
        exact ⟨((), ()), ⟨rfl, trivial⟩, hk_2, hH⟩
    ·
      rintro ⟨_, _⟩ env H' ⟨h, hH⟩
      try dsimp only at h
      refine ⟨_, Heap.le_refl _, ?_⟩
      refine WpC.seqR ?_
      refine WpOps.pn 3 rfl trivial ?_
      refine WpOps.nil ?_
      obtain rfl := Sh.some_inj h
      refine WpC.ret ?_
      exact VEnds.ret2 rfl rfl rfl ⟨_, rfl, hH.one_inv⟩

theorem w_edits_change_idle {H0 : Heap} {c_1 : GEdit} {files_1 : List GFile} {r : Bool} (h : edits_change_idle c_1 files_1 = some r) : TCall Try.prog 26 [(AV.agg (cGEdit c_1)), (AV.rows 2 (List.map cGFile files_1))] H0 (fun v H' => v = (bA r) ∧ H' = H0) noE := by
  refine id (TCall.body Try.func26 rfl rfl ?_)
  have hH : Holds H0 [] H0 := rfl
  refine WpC.seqR ?_
  refine WpOps.consG rfl rfl (WpO.boxT (v := (AV.agg (cGEdit c_1))) rfl rfl hH fun g_1 H' hH => ?_)
  refine WpOps.pn 1 rfl trivial ?_
  refine WpOps.nil ?_
  refine WpC.seqD [.I, .I, .S, .I, .I, .I, .I, .S, .I, .S, .I, .I, .S] [0, 1, 2, 3, 4, 5, 6, 7, 8, 9, 10, 11, 12, 13, 14] (by kernel_rfl) (by kernel_rfl) ?_
  refine WpPi.pn 2 rfl trivial ?_
  refine WpPi.consS (v := (iA c_1.file_)) rfl rfl rfl rfl (Exact.load rfl rfl (hH.cell (i := 0) rfl) rfl rfl) ?_
  obtain ⟨y_1, hy_1, h⟩ := Sh.bind_some h
  refine WpPi.consI (v := (.rop (cGFile y_1))) rfl rfl rfl rfl (fun _ => Exact.ixr cGFile hy_1 rfl rfl rfl rfl (by kernel_rfl) (by decide)) ?_
  refine WpPi.pn 1 rfl trivial ?_
  refine WpPi.consI (v := (sA y_1.text)) rfl rfl rfl rfl (fun _ => Exact.load_rop rfl rfl rfl) ?_
  refine WpPi.pn 1 rfl trivial ?_
  refine WpPi.consS (v := (iA c_1.from_)) rfl rfl rfl rfl (Exact.load rfl rfl (hH.cell (i := 0) rfl) rfl rfl) ?_
  refine WpPi.pn 1 rfl trivial ?_
  refine WpPi.consS (v := (iA c_1.to)) rfl rfl rfl rfl (Exact.load rfl rfl (hH.cell (i := 0) rfl) rfl rfl) ?_
  obtain ⟨c_2, h⟩ := Sh.chk_some h
  refine WpPi.pn 1 rfl (show 0 ≤ c_1.from_ ∧ 0 ≤ c_1.to ∧ ((c_1.from_).toNat ≤ (c_1.to).toNat ∧ (c_1.to).toNat ≤ y_1.text.length) from ⟨(by omega), (by omega), (by omega)⟩) ?_
  refine WpPi.pn 1 rfl trivial ?_
  refine WpPi.consS (v := (sA c_1.text)) rfl rfl rfl rfl (Exact.load rfl rfl (hH.cell (i := 0) rfl) rfl rfl) ?_
  refine WpPi.pn 2 rfl trivial ?_
  refine WpPi.nil ?_
  refine WpC.lose (i := 0) hH rfl (fun H' hH => ?_)
  obtain rfl := Sh.some_inj h
  refine WpC.ret ?_
  exact VEnds.ret1 rfl rfl ⟨rfl, hH⟩

theorem w_edits_Normal_c1 {H0 : Heap} {c_1 : GEdit} {t1_1 : List GFile} {r : Bool} (h : edits_Normal_c1 c_1 t1_1 = some r) : TCall Try.prog 25 [(AV.agg (cGEdit c_1)), (.rop [(AV.rows 2 (List.map cGFile t1_1))])] H0 (fun v H' => v = (bA r) ∧ H' = H0) noE := by
  refine id (TCall.body Try.func25 rfl rfl ?_)
  have hH : Holds H0 [] H0 := rfl
  refine WpC.seqR ?_
  refine WpOps.consG rfl rfl (WpO.boxT (v := (AV.agg (cGEdit c_1))) rfl rfl hH fun g_1 H' hH => ?_)
  refine WpOps.pn 1 rfl trivial ?_
  refine WpOps.nil ?_
  refine WpC.seqR ?_
  refine WpOps.consE (v := (AV.agg (cGEdit c_1))) rfl rfl (Exact.load rfl rfl (hH.cell (i := 0) rfl) rfl rfl) ?_
  refine WpOps.consE (v := (AV.rows 2 (List.map cGFile t1_1))) rfl rfl (Exact.load_rop rfl rfl rfl) ?_
  obtain ⟨r_1, hr_1, h⟩ := Sh.bind_some h
  refine WpOps.consE (v := (bA r_1)) rfl rfl (Exact.call rfl rfl rfl (w_edits_change_idle hr_1)) ?_
  refine WpOps.pn 1 rfl trivial ?_
  refine WpOps.nil ?_
  refine WpC.lose (i := 0) hH rfl (fun H' hH => ?_)
  obtain rfl := Sh.some_inj h
  refine WpC.ret ?_
  exact VEnds.ret1 rfl rfl ⟨rfl, hH⟩

theorem w_edits_joined {H0 : Heap} {l_1 : List GEdit} {r : List GEdit} (h : edits_joined l_1 = some r) : TCall Try.prog 27 [(AV.rows 4 (List.map cGEdit l_1))] H0 (fun v H' => v = (AV.rows 4 (List.map cGEdit r)) ∧ H' = H0) noE := by
  refine id (TCall.body Try.func27 rfl rfl ?_)
  have hH : Holds H0 [] H0 := rfl
  refine WpC.seqR ?_
  refine WpOps.pn 1 rfl trivial ?_
  refine WpOps.nil ?_
  refine WpC.seqR ?_
  refine WpOps.pn 1 rfl trivial ?_
  have hH := hH.nil 49 4
  refine WpOps.nil ?_
  refine WpC.seq ?_
  refine WpC.seqR ?_
  refine WpOps.pn 2 rfl trivial ?_
  refine WpOps.at 8 (len_map _ _) ?_
  refine WpOps.pn 1 rfl trivial ?_
  refine WpOps.nil ?_
  refine WpC.blockK (fun x : (List GEdit) × ((Option (Nat × Nat))) => [(3, (.own (List.map cGEdit x.1).length x.2))]) (fun x H' => edits_joined_j1 x.1 = some r ∧ Holds H0 [.own 49 4 x.2 (List.map cGEdit x.1)] H') ?_ ?_
  ·
    obtain ⟨o_1, ho_1, hk_1⟩ := Sh.bind_some h
    refine WpC.loopS (edits_joined_b2 l_1) (fun (s : Int × List GEdit) (a : (Option (Nat × Nat))) => [(3, (.own (List.map cGEdit s.2).length a)), (7, (AV.rows 4 (List.map cGEdit l_1))), (8, (iA (l_1.length : Int))), (9, (iA s.1))]) (fun (s : Int × List GEdit) (a : (Option (Nat × Nat))) H' => Holds H0 [.own 49 4 a (List.map cGEdit s.2)] H') o_1 ((0 : Int), ([] : List GEdit)) none ho_1 ⟨rfl, rfl, rfl, rfl, trivial⟩ hH ?_
    rintro ⟨t9_1, out_1⟩ p_1 st_1 env H' h hd_1 hH
    refine WpC.seqR ?_
    refine WpOps.pn 1 rfl trivial ?_
    refine WpOps.nil ?_
    refine WpC.seq ?_
    refine WpC.condB rfl (fun hb => ?_) (fun hb => ?_)
    ·
      replace h := Sh.ite_pos hb h
      refine WpC.skipD ?_
      refine ⟨_, Heap.le_refl _, ?_⟩
      refine WpC.seq ?_
      refine WpC.block ?_
      refine WpC.seqR ?_
      obtain ⟨y_1, hy_1, h⟩ := Sh.bind_some h
      refine WpOps.consE (v := (.rop (cGEdit y_1))) rfl rfl (Exact.ixr cGEdit hy_1 rfl rfl rfl rfl (by kernel_rfl) (by decide)) ?_
      refine WpOps.consE (v := (AV.agg (cGEdit y_1))) rfl rfl (Exact.load_rop rfl rfl rfl) ?_
      refine WpOps.consG rfl rfl (WpO.allocT (z := cGEdit (GEdit.mk (0 : Int) (0 : Int) (0 : Int) ([] : List UInt8))) rfl rfl hH fun g_1 H' hH => ?_)
      refine WpOps.consG rfl rfl (WpO.putT (cs' := (cGEdit y_1)) (v := (AV.agg (cGEdit y_1))) rfl rfl hH (i := 0) rfl rfl rfl rfl rfl rfl rfl fun H' hH => ?_)
      refine WpOps.nil ?_
      refine WpC.seq ?_
      refine WpC.seqR ?_
      refine WpOps.pn 2 rfl trivial ?_
      refine WpOps.at 14 (len_map _ _) ?_
      obtain ⟨c_1, h⟩ := Sh.chk_some h
      refine WpOps.pn 2 rfl c_1 ?_
      refine WpOps.nil ?_
      refine WpC.seqD [.I, .I, .I, .I, .I, .S, .I, .S, .I, .S, .I, .I, .I, .I, .I, .S, .I, .S, .I, .S] [0, 1, 2, 3, 4, 5, 6, 7, 8, 9, 10, 11, 12, 13, 14, 15, 16, 17, 18, 19, 20, 21] (by kernel_rfl) (by kernel_rfl) ?_
      refine WpPi.pn 2 rfl trivial ?_
      obtain ⟨b_1, g_2, h⟩ := Sh.bind_some h
      refine WpPi.cutB 10 27 (bA b_1) rfl ?_ ?_
      ·
        refine WpPi.pn 1 rfl trivial ?_
        refine WpPi.split 18 rfl (fun hb => ?_) (fun hb => ?_)
        ·
          replace g_2 := Sh.ite_pos hb g_2
          obtain ⟨y_2, hy_2, g_2⟩ := Sh.bind_some g_2
          refine WpPi.pn 2 rfl trivial ?_
          have hq_1 := g_2; have hq_2 := hH
          obtain ⟨g_3, cp_1, rfl⟩ := hq_2.grown (i := 1) rfl (ne_of_ix hy_2)
          have g_2 := hq_1; have hH := hq_2
          refine WpPi.consS rfl rfl rfl rfl (Exact.ixo (size := 4) cGEdit hy_2 rfl rfl rfl rfl (by kernel_rfl) (by decide)) ?_
          refine WpPi.pn 1 rfl trivial ?_
          refine WpPi.consS (v := (iA y_2.file_)) rfl rfl rfl rfl (Exact.ldo (off := 0) (i := 1) cGEdit hy_2 hH rfl rfl rfl (by decide) rfl) ?_
          refine WpPi.pn 1 rfl trivial ?_
          refine WpPi.consS (v := (iA y_1.file_)) rfl rfl rfl rfl (Exact.load rfl rfl (hH.cell (i := 0) rfl) rfl rfl) ?_
          refine WpPi.pn 2 rfl trivial ?_
          refine WpPi.nil ?_
          obtain rfl := Sh.some_inj g_2
          exact ⟨rfl, rfl⟩
        ·
          replace g_2 := Sh.ite_neg hb g_2
          refine WpPi.pn 2 rfl trivial ?_
          refine WpPi.skip rfl rfl rfl ?_
          refine WpPi.pn 1 rfl trivial ?_
          refine WpPi.skip rfl rfl rfl ?_
          refine WpPi.pn 1 rfl trivial ?_
          refine WpPi.skip rfl rfl rfl ?_
          refine WpPi.pn 2 rfl trivial ?_
          refine WpPi.nil ?_
          obtain rfl := Sh.some_inj g_2
          exact ⟨rfl, rfl⟩
      intro env
      obtain ⟨b_2, g_4, h⟩ := Sh.bind_some h
      refine WpPi.cutB 10 37 (bA b_2) rfl ?_ ?_
      ·
        refine WpPi.pn 1 rfl trivial ?_
        refine WpPi.split 28 rfl (fun hb => ?_) (fun hb => ?_)
        ·
          replace g_4 := Sh.ite_pos hb g_4
          obtain ⟨y_3, hy_3, g_4⟩ := Sh.bind_some g_4
          refine WpPi.pn 2 rfl trivial ?_
          have hq_3 := g_4; have hq_4 := hH
          obtain ⟨g_5, cp_2, rfl⟩ := hq_4.grown (i := 1) rfl (ne_of_ix hy_3)
          have g_4 := hq_3; have hH := hq_4
          refine WpPi.consS rfl rfl rfl rfl (Exact.ixo (size := 4) cGEdit hy_3 rfl rfl rfl rfl (by kernel_rfl) (by decide)) ?_
          refine WpPi.pn 1 rfl trivial ?_
          refine WpPi.consS (v := (iA y_3.to)) rfl rfl rfl rfl (Exact.ldo (off := 2) (i := 1) cGEdit hy_3 hH rfl rfl rfl (by decide) rfl) ?_
          refine WpPi.pn 1 rfl trivial ?_
          refine WpPi.consS (v := (iA y_1.from_)) rfl rfl rfl rfl (Exact.load rfl rfl (hH.cell (i := 0) rfl) rfl rfl) ?_
          refine WpPi.pn 2 rfl trivial ?_
          refine WpPi.nil ?_
          obtain rfl := Sh.some_inj g_4
          exact ⟨rfl, rfl⟩
        ·
          replace g_4 := Sh.ite_neg hb g_4
          refine WpPi.pn 2 rfl trivial ?_
          refine WpPi.skip rfl rfl rfl ?_
          refine WpPi.pn 1 rfl trivial ?_
          refine WpPi.skip rfl rfl rfl ?_
          refine WpPi.pn 1 rfl trivial ?_
          refine WpPi.skip rfl rfl rfl ?_
          refine WpPi.pn 2 rfl trivial ?_
          refine WpPi.nil ?_
          obtain rfl := Sh.some_inj g_4
          exact ⟨rfl, rfl⟩
      intro env
      refine WpPi.nil ?_
      refine WpC.condB rfl (fun hb => ?_) (fun hb => ?_)
      ·
        replace h := Sh.ite_pos hb h
        refine WpC.seqDI (fun H => H g_1 = some (.cells 49 (cGEdit y_1)) ∧ True) [.I, .I, .I, .I, .I, .I, .I, .I, .I, .I, .S, .I, .I, .I, .I, .I, .E, .I, .I, .E] [0, 1, 2, 3, 4, 5, 6, 7, 8, 9, 10, 11, 12, 13, 14, 15, 16, 17, 18, 19] (by kernel_rfl) (by kernel_rfl) ⟨hH.cell (i := 0) rfl, trivial⟩ ?_
        refine WpPi.pn 5 rfl trivial ?_
        refine WpPi.consV (v := (iA y_1.to)) rfl rfl rfl rfl (fun _ hi => Exact.load rfl rfl hi.1 rfl rfl) ?_
        obtain ⟨y_4, hy_4, h⟩ := Sh.bind_some h
        refine WpPi.pn 2 rfl trivial ?_
        have hq_5 := h; have hq_6 := hH
        obtain ⟨g_6, cp_3, rfl⟩ := hq_6.grown (i := 1) rfl (ne_of_ix hy_4)
        have h := hq_5; have hH := hq_6
        refine WpPi.consV rfl rfl rfl rfl (fun _ hi => Exact.ixo (size := 4) cGEdit hy_4 rfl rfl rfl rfl (by kernel_rfl) (by decide)) ?_
        refine WpPi.pn 1 rfl trivial ?_
        refine WpPi.consS (v := (sA y_4.text)) rfl rfl rfl rfl (Exact.ldo (off := 3) (i := 1) cGEdit hy_4 hH rfl rfl rfl (by decide) rfl) ?_
        refine WpPi.pn 1 rfl trivial ?_
        refine WpPi.consV (v := (sA y_1.text)) rfl rfl rfl rfl (fun _ hi => Exact.load rfl rfl hi.1 rfl rfl) ?_
        obtain ⟨c_2, h⟩ := Sh.chk_some h
        obtain ⟨y_5, hy_5, h⟩ := Sh.bind_some h
        refine WpPi.pn 1 rfl c_2 ?_
        refine WpPi.consV rfl rfl rfl rfl (fun _ hi => Exact.ixo (size := 4) cGEdit hy_5 rfl rfl rfl rfl (by kernel_rfl) (by decide)) ?_
        refine WpPi.pn 1 rfl trivial ?_
        refine WpPi.consF rfl rfl rfl rfl (WpO.setT (off := 2) (i := 1) cGEdit (y' := (GEdit.mk y_5.file_ y_5.from_ y_1.to y_5.text)) (v := (iA y_1.to)) hy_5 hH rfl rfl rfl rfl rfl rfl rfl rfl rfl fun H' hH => ⟨⟨hH.cell (i := 0) rfl, trivial⟩, ?_⟩)
        refine WpPi.at 3 (own_set cGEdit out_1 (((out_1.length : Int) - (1 : Int))).toNat (GEdit.mk y_5.file_ y_5.from_ y_1.to y_5.text) _) ?_
        refine WpPi.at 13 (own_set cGEdit out_1 (((out_1.length : Int) - (1 : Int))).toNat (GEdit.mk y_5.file_ y_5.from_ y_1.to y_5.text) _) ?_
        refine WpPi.at 38 (own_set cGEdit out_1 (((out_1.length : Int) - (1 : Int))).toNat (GEdit.mk y_5.file_ y_5.from_ y_1.to y_5.text) _) ?_
        refine WpPi.at 40 (own_set cGEdit out_1 (((out_1.length : Int) - (1 : Int))).toNat (GEdit.mk y_5.file_ y_5.from_ y_1.to y_5.text) _) ?_
        refine WpPi.at 44 (own_set cGEdit out_1 (((out_1.length : Int) - (1 : Int))).toNat (GEdit.mk y_5.file_ y_5.from_ y_1.to y_5.text) _) ?_
        obtain ⟨y_6, hy_6, h⟩ := Sh.bind_some h
        refine WpPi.consV rfl rfl rfl rfl (fun _ hi => Exact.ixo (size := 4) cGEdit hy_6 rfl rfl rfl rfl (by kernel_rfl) (by decide)) ?_
        refine WpPi.pn 1 rfl trivial ?_
        refine WpPi.consF rfl rfl rfl rfl (WpO.setT (off := 3) (i := 1) cGEdit (y' := (GEdit.mk y_6.file_ y_6.from_ y_6.to (y_4.text ++ y_1.text))) (v := (sA (y_4.text ++ y_1.text))) hy_6 hH rfl rfl rfl rfl rfl rfl rfl rfl rfl fun H' hH => ⟨⟨hH.cell (i := 0) rfl, trivial⟩, ?_⟩)
        refine WpPi.at 3 (own_set cGEdit (out_1.set (((out_1.length : Int) - (1 : Int))).toNat (GEdit.mk y_5.file_ y_5.from_ y_1.to y_5.text)) (((out_1.length : Int) - (1 : Int))).toNat (GEdit.mk y_6.file_ y_6.from_ y_6.to (y_4.text ++ y_1.text)) _) ?_
        refine WpPi.at 13 (own_set cGEdit (out_1.set (((out_1.length : Int) - (1 : Int))).toNat (GEdit.mk y_5.file_ y_5.from_ y_1.to y_5.text)) (((out_1.length : Int) - (1 : Int))).toNat (GEdit.mk y_6.file_ y_6.from_ y_6.to (y_4.text ++ y_1.text)) _) ?_
        refine WpPi.at 38 (own_set cGEdit (out_1.set (((out_1.length : Int) - (1 : Int))).toNat (GEdit.mk y_5.file_ y_5.from_ y_1.to y_5.text)) (((out_1.length : Int) - (1 : Int))).toNat (GEdit.mk y_6.file_ y_6.from_ y_6.to (y_4.text ++ y_1.text)) _) ?_
        refine WpPi.at 40 (own_set cGEdit (out_1.set (((out_1.length : Int) - (1 : Int))).toNat (GEdit.mk y_5.file_ y_5.from_ y_1.to y_5.text)) (((out_1.length : Int) - (1 : Int))).toNat (GEdit.mk y_6.file_ y_6.from_ y_6.to (y_4.text ++ y_1.text)) _) ?_
        refine WpPi.at 44 (own_set cGEdit (out_1.set (((out_1.length : Int) - (1 : Int))).toNat (GEdit.mk y_5.file_ y_5.from_ y_1.to y_5.text)) (((out_1.length : Int) - (1 : Int))).toNat (GEdit.mk y_6.file_ y_6.from_ y_6.to (y_4.text ++ y_1.text)) _) ?_
        refine WpPi.nil ?_
        refine WpC.exitD ?_
        refine ⟨_, Heap.le_refl _, ?_⟩
        refine WpC.regionD ?_
        obtain ⟨c_3, h⟩ := Sh.chk_some h
        refine WpOps.pn 2 rfl c_3 ?_
        refine WpOps.nil ?_
        obtain ⟨_, hle_1, hH⟩ := hH.lose_ (i := 0) rfl
        obtain rfl := Sh.some_inj h
        exact ⟨_, hle_1, ((t9_1 + (1 : Int)), ((out_1.set (((out_1.length : Int) - (1 : Int))).toNat (GEdit.mk y_5.file_ y_5.from_ y_1.to y_5.text)).set (((out_1.length : Int) - (1 : Int))).toNat (GEdit.mk y_6.file_ y_6.from_ y_6.to (y_4.text ++ y_1.text)))), (some (g_6, cp_3)), rfl, ⟨rfl, rfl, rfl, rfl, trivial⟩, hH⟩
      ·
        replace h := Sh.ite_neg hb h
        refine WpC.skipD ?_
        refine ⟨_, Heap.le_refl _, ?_⟩
        refine WpC.regionD ?_
        refine WpOps.pn 1 rfl trivial ?_
        refine WpOps.consE (v := (AV.agg (cGEdit y_1))) rfl rfl (Exact.load rfl rfl (hH.cell (i := 0) rfl) rfl rfl) ?_
        refine WpOps.consE (v := (AV.rows 4 (List.map cGEdit ([y_1] : List GEdit)))) rfl rfl (Exact.litSlice rfl (by kernel_rfl)) ?_
        obtain ⟨c_4, h⟩ := Sh.chk_some h
        refine WpOps.consG rfl rfl (WpO.pushT cGEdit out_1 ([y_1] : List GEdit) (i := 1) rfl ek45 hH rfl rfl rfl (.rows _) (fun y _ => one_cGEdit y) (by simp) c_4 (by decide) fun p_2 H' hH => ?_)
        refine WpOps.pn 1 rfl trivial ?_
        refine WpOps.nil ?_
        refine ⟨_, Heap.le_refl _, ?_⟩
        refine WpC.regionD ?_
        obtain ⟨c_5, h⟩ := Sh.chk_some h
        refine WpOps.pn 2 rfl c_5 ?_
        refine WpOps.nil ?_
        obtain ⟨_, hle_2, hH⟩ := hH.lose_ (i := 0) rfl
        obtain rfl := Sh.some_inj h
        exact ⟨_, hle_2, ((t9_1 + (1 : Int)), (out_1 ++ ([y_1] : List GEdit))), p_2, rfl, ⟨rfl, rfl, rfl, rfl, trivial⟩, hH⟩
    ·
      replace h := Sh.ite_neg hb h
      obtain rfl := Sh.some_inj h
      have e := hd_1 _ rfl
      subst e
      refine WpC.exit ?_
      exact ⟨(out_1, p_1), ⟨rfl, trivial⟩, hk_1, hH⟩
  ·
    rintro ⟨out_2, p_3⟩ env H' ⟨h, hH⟩
    try dsimp only at h
    refine ⟨_, Heap.le_refl _, ?_⟩
    refine WpC.seqR ?_
    refine WpOps.pn 2 rfl trivial ?_
    refine WpOps.nil ?_
    refine WpC.freeze (t := 2) (i := 0) hH rfl rfl (fun H' hH => ?_)
    obtain rfl := Sh.some_inj h
    refine WpC.ret ?_
    exact VEnds.ret1 rfl rfl ⟨rfl, hH⟩

theorem w_edits_Normal {H0 : Heap} {files_1 : List GFile} {l_1 : List GEdit} {r : List GEdit × Int} (h : edits_Normal files_1 l_1 = some r) : TCall Try.prog 12 [(AV.rows 2 (List.map cGFile files_1)), (AV.rows 4 (List.map cGEdit l_1))] H0 (fun v H' => v = (.tup [(AV.rows 4 (List.map cGEdit r.1)), (iA r.2)]) ∧ H' = H0) noE := by
  refine id (TCall.body Try.func12 rfl rfl ?_)
  have hH : Holds H0 [] H0 := rfl
  refine WpC.seqR ?_
  refine WpOps.consG rfl rfl (WpO.boxT (v := (AV.rows 2 (List.map cGFile files_1))) rfl rfl hH fun g_1 H' hH => ?_)
  refine WpOps.pn 2 rfl trivial ?_
  refine WpOps.nil ?_
  refine WpC.ice (t := 2) (i := 0) hH rfl rfl (fun H' hH => ?_)
  refine WpC.seqR ?_
  refine WpOps.consE (v := (AV.rows 2 (List.map cGFile files_1))) rfl rfl (Exact.load_rop rfl rfl rfl) ?_
  obtain ⟨r_1, hr_1, h⟩ := Sh.bind_some h
  refine WpOps.pn 1 rfl trivial ?_
  refine WpOps.consG rfl rfl (WpO.callQ (F := (fun q => .tup [.own (List.map cGEdit r_1.1).length q, (iA r_1.2)])) (t := 49) (size := 4) (es := List.map cGEdit r_1.1) rfl rfl rfl hH (w_edits_sorted hr_1) fun p_1 H' hH => ?_)
  refine WpOps.pn 5 rfl trivial ?_
  refine WpOps.nil ?_
  refine WpC.seq ?_
  refine WpC.seqR ?_
  refine WpOps.pn 2 rfl trivial ?_
  refine WpOps.nil ?_
  refine WpC.condB rfl (fun hb => ?_) (fun hb => ?_)
  ·
    replace h := Sh.ite_pos hb h
    refine WpC.seqR ?_
    refine WpOps.pn 3 rfl trivial ?_
    refine WpOps.nil ?_
    refine WpC.sub (t := 4) (Sub.nil 4) ?_
    refine WpC.lose (i := 0) hH rfl (fun H' hH => ?_)
    obtain rfl := Sh.some_inj h
    refine WpC.ret ?_
    exact VEnds.ret2 rfl rfl rfl ⟨rfl, hH⟩
  ·
    replace h := Sh.ite_neg hb h
    refine WpC.skipD ?_
    refine ⟨_, Heap.le_refl _, ?_⟩
    refine WpC.seqR ?_
    obtain ⟨c_1, h⟩ := Sh.chk_some h
    obtain ⟨d_1, hd_1, h⟩ := Sh.bind_some h
    refine WpOps.pn 2 rfl trivial ?_
    refine WpOps.consG rfl rfl (WpO.callT (v := (.own (List.map cGEdit d_1).length p_1)) rfl rfl rfl hH (i := 0) rfl (fun H1 hl hh => w_DeleteFuncE (by kernel_rfl) (fun H y b hb => w_edits_Normal_c1 hb) hd_1 (Nat.le_trans (Nat.le_of_lt c_1) (by decide)) hh) fun H' hH => ?_)
    refine WpOps.pn 1 rfl trivial ?_
    refine WpOps.nil ?_
    refine WpC.seqR ?_
    refine WpOps.pn 1 rfl trivial ?_
    have hH := hH.nil 34 4
    refine WpOps.nil ?_
    refine WpC.seq ?_
    refine WpC.freeze (t := 6) (i := 1) hH rfl rfl (fun H' hH => ?_)
    refine WpC.seqR ?_
    obtain ⟨r_2, hr_2, h⟩ := Sh.bind_some h
    refine WpOps.pn 1 rfl trivial ?_
    refine WpOps.consE (v := (AV.rows 4 (List.map cGEdit r_2))) rfl rfl (Exact.call rfl rfl rfl (w_edits_joined hr_2)) ?_
    refine WpOps.pn 1 rfl trivial ?_
    refine WpOps.at 25 (len_map _ _) ?_
    refine WpOps.pn 1 rfl trivial ?_
    refine WpOps.nil ?_
    refine WpC.blockK (fun x : (List GEdit) × ((Option (Nat × Nat))) => [(8, (.own (List.map cGEdit x.1).length x.2))]) (fun x H' => edits_Normal_j1 x.1 = some r ∧ Holds H0 [.own 34 4 x.2 (List.map cGEdit x.1)] H') ?_ ?_
    ·
      obtain ⟨o_1, ho_1, hk_1⟩ := Sh.bind_some h
      refine WpC.loopS (edits_Normal_b2 files_1 r_2) (fun (s : Int × List GEdit) (a : (Option (Nat × Nat))) => [(2, (.rop [(AV.rows 2 (List.map cGFile files_1))])), (8, (.own (List.map cGEdit s.2).length a)), (24, (AV.rows 4 (List.map cGEdit r_2))), (25, (iA (r_2.length : Int))), (26, (iA s.1))]) (fun (s : Int × List GEdit) (a : (Option (Nat × Nat))) H' => Holds H0 [.own 34 4 a (List.map cGEdit s.2)] H') o_1 ((0 : Int), ([] : List GEdit)) none ho_1 ⟨rfl, rfl, rfl, rfl, rfl, trivial⟩ hH ?_
      rintro ⟨t26_1, out_1⟩ p_2 st_1 env H' h hd_2 hH
      refine WpC.seqR ?_
      refine WpOps.pn 1 rfl trivial ?_
      refine WpOps.nil ?_
      refine WpC.seq ?_
      refine WpC.condB rfl (fun hb => ?_) (fun hb => ?_)
      ·
        replace h := Sh.ite_pos hb h
        refine WpC.skipD ?_
        refine ⟨_, Heap.le_refl _, ?_⟩
        refine WpC.seq ?_
        refine WpC.block ?_
        refine WpC.seqR ?_
        obtain ⟨y_1, hy_1, h⟩ := Sh.bind_some h
        refine WpOps.consE (v := (.rop (cGEdit y_1))) rfl rfl (Exact.ixr cGEdit hy_1 rfl rfl rfl rfl (by kernel_rfl) (by decide)) ?_
        refine WpOps.consE (v := (AV.agg (cGEdit y_1))) rfl rfl (Exact.load_rop rfl rfl rfl) ?_
        refine WpOps.consG rfl rfl (WpO.allocT (z := cGEdit (GEdit.mk (0 : Int) (0 : Int) (0 : Int) ([] : List UInt8))) rfl rfl hH fun g_2 H' hH => ?_)
        refine WpOps.consG rfl rfl (WpO.putT (cs' := (cGEdit y_1)) (v := (AV.agg (cGEdit y_1))) rfl rfl hH (i := 0) rfl rfl rfl rfl rfl rfl rfl fun H' hH => ?_)
        refine WpOps.nil ?_
        refine WpC.seqR ?_
        refine WpOps.consE (v := (AV.agg (cGEdit y_1))) rfl rfl (Exact.load rfl rfl (hH.cell (i := 0) rfl) rfl rfl) ?_
        refine WpOps.consE (v := (AV.rows 2 (List.map cGFile files_1))) rfl rfl (Exact.load_rop rfl rfl rfl) ?_
        obtain ⟨r_3, hr_3, h⟩ := Sh.bind_some h
        refine WpOps.consE (v := (bA r_3)) rfl rfl (Exact.call rfl rfl rfl (w_edits_change_idle hr_3)) ?_
        refine WpOps.pn 1 rfl trivial ?_
        refine WpOps.nil ?_
        refine WpC.condB rfl (fun hb => ?_) (fun hb => ?_)
        ·
          replace h := Sh.ite_pos hb h
          refine WpC.regionD ?_
          refine WpOps.pn 1 rfl trivial ?_
          refine WpOps.consE (v := (AV.agg (cGEdit y_1))) rfl rfl (Exact.load rfl rfl (hH.cell (i := 0) rfl) rfl rfl) ?_
          refine WpOps.consE (v := (AV.rows 4 (List.map cGEdit ([y_1] : List GEdit)))) rfl rfl (Exact.litSlice rfl (by kernel_rfl)) ?_
          obtain ⟨c_2, h⟩ := Sh.chk_some h
          refine WpOps.consG rfl rfl (WpO.pushT cGEdit out_1 ([y_1] : List GEdit) (i := 1) rfl ek23 hH rfl rfl rfl (.rows _) (fun y _ => one_cGEdit y) (by simp) c_2 (by decide) fun p_3 H' hH => ?_)
          refine WpOps.pn 1 rfl trivial ?_
          refine WpOps.nil ?_
          refine ⟨_, Heap.le_refl _, ?_⟩
          refine WpC.regionD ?_
          obtain ⟨c_3, h⟩ := Sh.chk_some h
          refine WpOps.pn 2 rfl c_3 ?_
          refine WpOps.nil ?_
          obtain ⟨_, hle_1, hH⟩ := hH.lose_ (i := 0) rfl
          obtain rfl := Sh.some_inj h
          exact ⟨_, hle_1, ((t26_1 + (1 : Int)), (out_1 ++ ([y_1] : List GEdit))), p_3, rfl, ⟨rfl, rfl, rfl, rfl, rfl, trivial⟩, hH⟩
        ·
          replace h := Sh.ite_neg hb h
          refine WpC.skipD ?_
          refine ⟨_, Heap.le_refl _, ?_⟩
          refine WpC.regionD ?_
          obtain ⟨c_4, h⟩ := Sh.chk_some h
          refine WpOps.pn 2 rfl c_4 ?_
          refine WpOps.nil ?_
          obtain ⟨_, hle_2, hH⟩ := hH.lose_ (i := 0) rfl
          obtain rfl := Sh.some_inj h
          exact ⟨_, hle_2, ((t26_1 + (1 : Int)), out_1), p_2, rfl, ⟨rfl, rfl, rfl, rfl, rfl, trivial⟩, hH⟩
      ·
        replace h := Sh.ite_neg hb h
        obtain rfl := Sh.some_inj h
        have e := hd_2 _ rfl
        subst e
        refine WpC.exit ?_
        exact ⟨(out_1, p_2), ⟨rfl, trivial⟩, hk_1, hH⟩
    ·
      rintro ⟨out_2, p_4⟩ env H' ⟨h, hH⟩
      try dsimp only at h
      refine ⟨_, Heap.le_refl _, ?_⟩
      refine WpC.seqR ?_
      refine WpOps.pn 3 rfl trivial ?_
      refine WpOps.nil ?_
      refine WpC.freeze (t := 4) (i := 0) hH rfl rfl (fun H' hH => ?_)
      obtain rfl := Sh.some_inj h
      refine WpC.ret ?_
      exact VEnds.ret2 rfl rfl rfl ⟨rfl, hH⟩

theorem w_slices_Clone_Lapi_File_api_File {H0 : Heap} {l : List GFile} (hc : l.length * 32 ≤ 140737488355328) : TCall Try.prog 31 [.rows 2 (List.map cGFile l)] H0 (fun v H' => ∃ p, v = .own (List.map cGFile l).length p ∧ Vc.Own H0 37 2 (List.map cGFile l) (List.map cGFile l).length p H') noE := by
  refine TCall.body Try.func31 rfl rfl ?_
  refine WpC.seqR ?_
  refine WpOps.pn 1 rfl trivial ?_
  refine WpOps.nil ?_
  refine WpC.seq ?_
  refine WpC.seqR ?_
  refine WpOps.pn 1 rfl trivial ?_
  refine WpOps.consG rfl rfl (WpO.isNil (size := 2) (es := List.map cGFile l) rfl rfl rfl rfl fun b hb => ?_)
  refine WpOps.nil ?_
  refine WpC.condB rfl (fun hb2 => ?_) (fun hb2 => ?_)
  · subst hb2
    have e0 : List.map cGFile l = [] := hb rfl
    refine WpC.seqR ?_
    refine WpOps.pn 1 rfl trivial ?_
    refine WpOps.nil ?_
    refine WpC.ret ?_
    exact VEnds.ret1 rfl rfl ⟨none, by rw [e0]; rfl, by rw [e0]; exact Vc.Own.nil rfl⟩
  · refine WpC.skip ?_
    have hH : Holds H0 [] H0 := rfl
    refine WpC.seqR ?_
    refine WpOps.consG rfl rfl (WpO.litT (size := 2) cGFile ([] : List GFile) rfl rfl (by kernel_rfl) rfl hH fun g H' hH => ?_)
    refine WpOps.pn 1 rfl trivial ?_
    refine WpOps.consG rfl rfl (WpO.pushS cGFile ([] : List GFile) l (i := 0) rfl ek22 hH rfl rfl rfl (.rows _) (fun y _ => one_cGFile y) (by simpa using hc) (by decide) fun g2 c2 H' hH => ?_)
    refine WpOps.pn 1 rfl trivial ?_
    refine WpOps.nil ?_
    refine WpC.ret ?_
    obtain ⟨_, rfl, hO⟩ := hH
    exact VEnds.ret1 rfl rfl ⟨_, rfl, hO⟩

theorem w_edits_Apply {H0 : Heap} {files_1 : List GFile} {l_1 : List GEdit} {r : List GFile × Int} (h : edits_Apply files_1 l_1 = some r) : TCall Try.prog 14 [(AV.rows 2 (List.map cGFile files_1)), (AV.rows 4 (List.map cGEdit l_1))] H0 (fun v H' => v = (.tup [(AV.rows 2 (List.map cGFile r.1)), (iA r.2)]) ∧ H' = H0) noE := by
  refine id (TCall.body Try.func14 rfl rfl ?_)
  have hH : Holds H0 [] H0 := rfl
  refine WpC.seqR ?_
  refine WpOps.pn 2 rfl trivial ?_
  refine WpOps.nil ?_
  refine WpC.seqR ?_
  obtain ⟨r_1, hr_1, h⟩ := Sh.bind_some h
  refine WpOps.pn 2 rfl trivial ?_
  refine WpOps.consE (v := (.tup [(AV.rows 4 (List.map cGEdit r_1.1)), (iA r_1.2)])) rfl rfl (Exact.call rfl rfl rfl (w_edits_Normal hr_1)) ?_
  refine WpOps.pn 5 rfl trivial ?_
  refine WpOps.nil ?_
  refine WpC.seq ?_
  refine WpC.seqR ?_
  refine WpOps.pn 2 rfl trivial ?_
  refine WpOps.nil ?_
  refine WpC.condB rfl (fun hb => ?_) (fun hb => ?_)
  ·
    replace h := Sh.ite_pos hb h
    refine WpC.seqR ?_
    refine WpOps.pn 3 rfl trivial ?_
    refine WpOps.nil ?_
    refine WpC.sub (t := 4) (Sub.nil 2) ?_
    obtain rfl := Sh.some_inj h
    refine WpC.ret ?_
    exact VEnds.ret2 rfl rfl rfl ⟨rfl, hH⟩
  ·
    replace h := Sh.ite_neg hb h
    refine WpC.skipD ?_
    refine ⟨_, Heap.le_refl _, ?_⟩
    refine WpC.seqR ?_
    obtain ⟨c_1, h⟩ := Sh.chk_some h
    refine WpOps.pn 1 rfl trivial ?_
    refine WpOps.consG rfl rfl (WpO.callO (t := 37) (size := 2) (es := List.map cGFile files_1) rfl rfl rfl hH (w_slices_Clone_Lapi_File_api_File c_1) fun p_1 H' hH => ?_)
    refine WpOps.pn 1 rfl trivial ?_
    refine WpOps.nil ?_
    refine WpC.seq ?_
    refine WpC.seqR ?_
    refine WpOps.pn 2 rfl trivial ?_
    refine WpOps.at 25 (len_map _ _) ?_
    refine WpOps.pn 1 rfl trivial ?_
    refine WpOps.nil ?_
    refine WpC.blockK (fun x : (List GFile) × ((Option (Nat × Nat))) => [(7, (.own (List.map cGFile x.1).length x.2))]) (fun x H' => edits_Apply_j1 x.1 = some r ∧ Holds H0 [.own 37 2 x.2 (List.map cGFile x.1)] H') ?_ ?_
    ·
      obtain ⟨o_1, ho_1, hk_1⟩ := Sh.bind_some h
      refine WpC.loopS (edits_Apply_b2 files_1 r_1) (fun (s : Int × List GFile) (a : (Option (Nat × Nat))) => [(1, (AV.rows 4 (List.map cGEdit r_1.1))), (7, (.own (List.map cGFile s.2).length a)), (25, (iA (files_1.length : Int))), (26, (iA s.1))]) (fun (s : Int × List GFile) (a : (Option (Nat × Nat))) H' => Holds H0 [.own 37 2 a (List.map cGFile s.2)] H') o_1 ((0 : Int), files_1) p_1 ho_1 ⟨rfl, rfl, rfl, rfl, trivial⟩ hH ?_
      rintro ⟨t26_1, out_1⟩ p_2 st_1 env H' h hd_1 hH
      refine WpC.seqR ?_
      refine WpOps.pn 1 rfl trivial ?_
      refine WpOps.nil ?_
      refine WpC.seq ?_
      refine WpC.condB rfl (fun hb => ?_) (fun hb => ?_)
      ·
        replace h := Sh.ite_pos hb h
        refine WpC.skipD ?_
        refine ⟨_, Heap.le_refl _, ?_⟩
        refine WpC.seq ?_
        refine WpC.block ?_
        refine WpC.seqR ?_
        refine WpOps.pn 2 rfl trivial ?_
        refine WpOps.nil ?_
        refine WpC.seqR ?_
        refine WpOps.consG rfl rfl (WpO.allocT rfl rfl hH fun g_1 H' hH => ?_)
        have hH := Holds.bld_new 5 hH
        refine WpOps.nil ?_
        refine WpC.seqR ?_
        refine WpOps.pn 1 rfl trivial ?_
        refine WpOps.nil ?_
        refine WpC.seq ?_
        refine WpC.seqR ?_
        refine WpOps.pn 2 rfl trivial ?_
        refine WpOps.at 30 (len_map _ _) ?_
        refine WpOps.pn 1 rfl trivial ?_
        refine WpOps.nil ?_
        refine WpC.blockK (fun x : (Int × List UInt8) × (Unit) => [(1, (AV.rows 4 (List.map cGEdit r_1.1))), (7, (.own (List.map cGFile out_1).length p_2)), (8, (iA t26_1)), (9, (.lit (.pointer (some ⟨g_1, 0, none⟩)))), (10, (iA x.1.1)), (25, (iA (files_1.length : Int))), (26, (iA t26_1))]) (fun x H' => (edits_Apply_j3 t26_1 out_1) x.1 = some st_1 ∧ Holds H0 [.bld g_1 59 5 x.1.2, .own 37 2 p_2 (List.map cGFile out_1)] H') ?_ ?_
        ·
          obtain ⟨o_2, ho_2, hk_2⟩ := Sh.bind_some h
          refine WpC.loopS (edits_Apply_b4 r_1 t26_1 out_1) (fun (s : Int × Int × List UInt8) (a : Unit) => [(1, (AV.rows 4 (List.map cGEdit r_1.1))), (7, (.own (List.map cGFile out_1).length p_2)), (8, (iA t26_1)), (9, (.lit (.pointer (some ⟨g_1, 0, none⟩)))), (10, (iA s.1)), (25, (iA (files_1.length : Int))), (26, (iA t26_1)), (29, (AV.rows 4 (List.map cGEdit r_1.1))), (30, (iA (r_1.1.length : Int))), (31, (iA s.2.1))]) (fun (s : Int × Int × List UInt8) (a : Unit) H' => Holds H0 [.bld g_1 59 5 s.2.2, .own 37 2 p_2 (List.map cGFile out_1)] H') o_2 ((0 : Int), (0 : Int), ([] : List UInt8)) () ho_2 ⟨rfl, rfl, rfl, rfl, rfl, rfl, rfl, rfl, rfl, rfl, trivial⟩ hH ?_
          rintro ⟨at_1, t31_1, text_1⟩ _ st_2 env H' h hd_2 hH
          refine WpC.seqR ?_
          refine WpOps.pn 1 rfl trivial ?_
          refine WpOps.nil ?_
          refine WpC.seq ?_
          refine WpC.condB rfl (fun hb => ?_) (fun hb => ?_)
          ·
            replace h := Sh.ite_pos hb h
            refine WpC.skipD ?_
            refine ⟨_, Heap.le_refl _, ?_⟩
            refine WpC.seq ?_
            refine WpC.block ?_
            refine WpC.seqR ?_
            obtain ⟨y_1, hy_1, h⟩ := Sh.bind_some h
            refine WpOps.consE (v := (.rop (cGEdit y_1))) rfl rfl (Exact.ixr cGEdit hy_1 rfl rfl rfl rfl (by kernel_rfl) (by decide)) ?_
            refine WpOps.consE (v := (AV.agg (cGEdit y_1))) rfl rfl (Exact.load_rop rfl rfl rfl) ?_
            refine WpOps.consG rfl rfl (WpO.allocT (z := cGEdit (GEdit.mk (0 : Int) (0 : Int) (0 : Int) ([] : List UInt8))) rfl rfl hH fun g_2 H' hH => ?_)
            refine WpOps.consG rfl rfl (WpO.putT (cs' := (cGEdit y_1)) (v := (AV.agg (cGEdit y_1))) rfl rfl hH (i := 0) rfl rfl rfl rfl rfl rfl rfl fun H' hH => ?_)
            refine WpOps.nil ?_
            refine WpC.seqR ?_
            refine WpOps.pn 1 rfl trivial ?_
            refine WpOps.consE (v := (iA y_1.file_)) rfl rfl (Exact.load rfl rfl (hH.cell (i := 0) rfl) rfl rfl) ?_
            refine WpOps.pn 2 rfl trivial ?_
            refine WpOps.nil ?_
            refine WpC.condB rfl (fun hb => ?_) (fun hb => ?_)
            ·
              replace h := Sh.ite_pos hb h
              refine WpC.seqD [.I, .I, .S, .I, .S, .I, .I, .S, .I, .E] [0, 1, 2, 3, 4, 5, 6, 7, 8, 9] (by kernel_rfl) (by kernel_rfl) ?_
              obtain ⟨y_2, hy_2, h⟩ := Sh.bind_some h
              refine WpPi.pn 2 rfl trivial ?_
              have hq_1 := h; have hq_2 := hH
              obtain ⟨g_3, cp_1, rfl⟩ := hq_2.grown (i := 2) rfl (ne_of_ix hy_2)
              have h := hq_1; have hH := hq_2
              refine WpPi.consS rfl rfl rfl rfl (Exact.ixo (size := 2) cGFile hy_2 rfl rfl rfl rfl (by kernel_rfl) (by decide)) ?_
              refine WpPi.pn 1 rfl trivial ?_
              refine WpPi.consS (v := (sA y_2.text)) rfl rfl rfl rfl (Exact.ldo (off := 1) (i := 2) cGFile hy_2 hH rfl rfl rfl (by decide) rfl) ?_
              refine WpPi.pn 2 rfl trivial ?_
              refine WpPi.consS (v := (iA y_1.from_)) rfl rfl rfl rfl (Exact.load rfl rfl (hH.cell (i := 0) rfl) rfl rfl) ?_
              obtain ⟨c_2, h⟩ := Sh.chk_some h
              refine WpPi.pn 1 rfl (show 0 ≤ at_1 ∧ 0 ≤ y_1.from_ ∧ ((at_1).toNat ≤ (y_1.from_).toNat ∧ (y_1.from_).toNat ≤ y_2.text.length) from ⟨(by omega), (by omega), (by omega)⟩) ?_
              obtain ⟨c_3, h⟩ := Sh.chk_some h
              refine WpPi.consE rfl rfl rfl rfl (WpO.callT (v := .tup [iA ((y_2.text.drop (at_1).toNat).take ((y_1.from_).toNat - (at_1).toNat)).length, .lit .nilIface]) rfl rfl rfl hH (i := 1) rfl (fun H1 hl hh => w_WriteString c_3 hh) fun H' hH => ?_)
              refine WpPi.nil ?_
              refine WpC.seqR ?_
              refine WpOps.pn 1 rfl trivial ?_
              refine WpOps.consE (v := (sA y_1.text)) rfl rfl (Exact.load rfl rfl (hH.cell (i := 0) rfl) rfl rfl) ?_
              obtain ⟨c_4, h⟩ := Sh.chk_some h
              refine WpOps.consG rfl rfl (WpO.callT (v := .tup [iA y_1.text.length, .lit .nilIface]) rfl rfl rfl hH (i := 1) rfl (fun H1 hl hh => w_WriteString c_4 hh) fun H' hH => ?_)
              refine WpOps.nil ?_
              refine WpC.regionD ?_
              refine WpOps.pn 1 rfl trivial ?_
              refine WpOps.consE (v := (iA y_1.to)) rfl rfl (Exact.load rfl rfl (hH.cell (i := 0) rfl) rfl rfl) ?_
              refine WpOps.pn 1 rfl trivial ?_
              refine WpOps.nil ?_
              refine ⟨_, Heap.le_refl _, ?_⟩
              refine WpC.regionD ?_
              obtain ⟨c_5, h⟩ := Sh.chk_some h
              refine WpOps.pn 2 rfl c_5 ?_
              refine WpOps.nil ?_
              obtain ⟨_, hle_1, hH⟩ := hH.lose_ (i := 0) rfl
              obtain rfl := Sh.some_inj h
              exact ⟨_, hle_1, (y_1.to, (t31_1 + (1 : Int)), ((text_1 ++ ((y_2.text.drop (at_1).toNat).take ((y_1.from_).toNat - (at_1).toNat))) ++ y_1.text)), (), rfl, ⟨rfl, rfl, rfl, rfl, rfl, rfl, rfl, rfl, rfl, rfl, trivial⟩, hH⟩
            ·
              replace h := Sh.ite_neg hb h
              refine WpC.skipD ?_
              refine ⟨_, Heap.le_refl _, ?_⟩
              refine WpC.regionD ?_
              obtain ⟨c_6, h⟩ := Sh.chk_some h
              refine WpOps.pn 2 rfl c_6 ?_
              refine WpOps.nil ?_
              obtain ⟨_, hle_2, hH⟩ := hH.lose_ (i := 0) rfl
              obtain rfl := Sh.some_inj h
              exact ⟨_, hle_2, (at_1, (t31_1 + (1 : Int)), text_1), (), rfl, ⟨rfl, rfl, rfl, rfl, rfl, rfl, rfl, rfl, rfl, rfl, trivial⟩, hH⟩
          ·
            replace h := Sh.ite_neg hb h
            obtain rfl := Sh.some_inj h
            have e := hd_2 _ rfl
            subst e
            refine WpC.exit ?_
            exact ⟨((at_1, text_1), ()), ⟨rfl, rfl, rfl, rfl, rfl, rfl, rfl, trivial⟩, hk_2, hH⟩
        ·
          rintro ⟨⟨at_2, l_2⟩, _⟩ env H' ⟨h, hH⟩
          try dsimp only at h
          refine ⟨_, Heap.le_refl _, ?_⟩
          refine WpC.seqR ?_
          obtain ⟨y_3, hy_3, h⟩ := Sh.bind_some h
          refine WpOps.pn 2 rfl trivial ?_
          have hq_3 := h; have hq_4 := hH
          obtain ⟨g_4, cp_2, rfl⟩ := hq_4.grown (i := 1) rfl (ne_of_ix hy_3)
          have h := hq_3; have hH := hq_4
          refine WpOps.consE rfl rfl (Exact.ixo (size := 2) cGFile hy_3 rfl rfl rfl rfl (by kernel_rfl) (by decide)) ?_
          refine WpOps.pn 1 rfl trivial ?_
          refine WpOps.consE (v := (sA y_3.text)) rfl rfl (Exact.ldo (off := 1) (i := 1) cGFile hy_3 hH rfl rfl rfl (by decide) rfl) ?_
          obtain ⟨c_7, h⟩ := Sh.chk_some h
          refine WpOps.pn 1 rfl trivial ?_
          refine WpOps.pn 1 rfl (show 0 ≤ at_2 ∧ True ∧ (at_2).toNat ≤ y_3.text.length from ⟨(by omega), trivial, (by omega)⟩) ?_
          obtain ⟨c_8, h⟩ := Sh.chk_some h
          refine WpOps.consG rfl rfl (WpO.callT (v := .tup [iA (y_3.text.drop (at_2).toNat).length, .lit .nilIface]) rfl rfl rfl hH (i := 0) rfl (fun H1 hl hh => w_WriteString c_8 hh) fun H' hH => ?_)
          refine WpOps.nil ?_
          refine WpC.regionD ?_
          refine WpOps.pn 2 rfl trivial ?_
          refine WpOps.consG rfl rfl (WpO.callT0 (v := sA (l_2 ++ (y_3.text.drop (at_2).toNat))) rfl rfl rfl hH (i := 0) rfl (fun H1 hh => w_String hh) fun H' hH => ?_)
          obtain ⟨y_4, hy_4, h⟩ := Sh.bind_some h
          refine WpOps.consE rfl rfl (Exact.ixo (size := 2) cGFile hy_4 rfl rfl rfl rfl (by kernel_rfl) (by decide)) ?_
          refine WpOps.pn 1 rfl trivial ?_
          refine WpOps.consG rfl rfl (WpO.setT (off := 1) (i := 0) cGFile (y' := (GFile.mk y_4.path (l_2 ++ (y_3.text.drop (at_2).toNat)))) (v := (sA (l_2 ++ (y_3.text.drop (at_2).toNat)))) hy_4 hH rfl rfl rfl rfl rfl rfl rfl rfl rfl fun H' hH => ?_)
          refine WpOps.at 7 (own_set cGFile out_1 (t26_1).toNat (GFile.mk y_4.path (l_2 ++ (y_3.text.drop (at_2).toNat))) _) ?_
          refine WpOps.at 55 (own_set cGFile out_1 (t26_1).toNat (GFile.mk y_4.path (l_2 ++ (y_3.text.drop (at_2).toNat))) _) ?_
          refine WpOps.at 63 (own_set cGFile out_1 (t26_1).toNat (GFile.mk y_4.path (l_2 ++ (y_3.text.drop (at_2).toNat))) _) ?_
          refine WpOps.nil ?_
          refine ⟨_, Heap.le_refl _, ?_⟩
          refine WpC.regionD ?_
          obtain ⟨c_9, h⟩ := Sh.chk_some h
          refine WpOps.pn 2 rfl c_9 ?_
          refine WpOps.nil ?_
          obtain rfl := Sh.some_inj h
          exact ⟨_, (Heap.le_refl _), ((t26_1 + (1 : Int)), (out_1.set (t26_1).toNat (GFile.mk y_4.path (l_2 ++ (y_3.text.drop (at_2).toNat))))), (some (g_4, cp_2)), rfl, ⟨rfl, rfl, rfl, rfl, trivial⟩, hH⟩
      ·
        replace h := Sh.ite_neg hb h
        obtain rfl := Sh.some_inj h
        have e := hd_1 _ rfl
        subst e
        refine WpC.exit ?_
        exact ⟨(out_1, p_2), ⟨rfl, trivial⟩, hk_1, hH⟩
    ·
      rintro ⟨out_2, p_3⟩ env H' ⟨h, hH⟩
      try dsimp only at h
      refine ⟨_, Heap.le_refl _, ?_⟩
      refine WpC.seqR ?_
      refine WpOps.pn 3 rfl trivial ?_
      refine WpOps.nil ?_
      refine WpC.freeze (t := 4) (i := 0) hH rfl rfl (fun H' hH => ?_)
      obtain rfl := Sh.some_inj h
      refine WpC.ret ?_
      exact VEnds.ret2 rfl rfl rfl ⟨rfl, hH⟩

theorem w_emendlaw20_awake {H0 : Heap}  {r : Bool} (h : emendlaw20_awake  = some r) : TCall Try.prog 10 [] H0 (fun v H' => v = (bA r) ∧ H' = H0) noE := by
  refine id (TCall.body Try.func10 rfl rfl ?_)
  have hH : Holds H0 [] H0 := rfl
  refine WpC.seqR ?_
  refine WpOps.pn 1 rfl trivial ?_
  refine WpOps.nil ?_
  refine WpC.seqR ?_
  refine WpOps.pn 1 rfl trivial ?_
  refine WpOps.consE (v := (AV.rows 2 (List.map cGFile ([(GFile.mk ([97] : List UInt8) ([97, 98, 99, 100, 101, 102] : List UInt8))] : List GFile)))) rfl rfl (Exact.litSlice rfl (by kernel_rfl)) ?_
  refine WpOps.pn 1 rfl trivial ?_
  refine WpOps.nil ?_
  refine WpC.seqR ?_
  refine WpOps.pn 3 rfl trivial ?_
  refine WpOps.consE (v := (AV.rows 4 (List.map cGEdit ([(GEdit.mk (0 : Int) (4 : Int) (5 : Int) ([88] : List UInt8)), (GEdit.mk (0 : Int) (0 : Int) (2 : Int) ([] : List UInt8))] : List GEdit)))) rfl rfl (Exact.litSlice rfl (by kernel_rfl)) ?_
  obtain ⟨r_1, hr_1, h⟩ := Sh.bind_some h
  refine WpOps.consE (v := (.tup [(AV.rows 2 (List.map cGFile r_1.1)), (iA r_1.2)])) rfl rfl (Exact.call rfl rfl rfl (w_edits_Apply hr_1)) ?_
  refine WpOps.pn 5 rfl trivial ?_
  refine WpOps.nil ?_
  refine WpC.seqR ?_
  refine WpOps.pn 3 rfl trivial ?_
  refine WpOps.consE (v := (AV.rows 4 (List.map cGEdit ([(GEdit.mk (0 : Int) (1 : Int) (3 : Int) ([120] : List UInt8)), (GEdit.mk (0 : Int) (2 : Int) (4 : Int) ([121] : List UInt8))] : List GEdit)))) rfl rfl (Exact.litSlice rfl (by kernel_rfl)) ?_
  obtain ⟨r_2, hr_2, h⟩ := Sh.bind_some h
  refine WpOps.consE (v := (.tup [(AV.rows 2 (List.map cGFile r_2.1)), (iA r_2.2)])) rfl rfl (Exact.call rfl rfl rfl (w_edits_Apply hr_2)) ?_
  refine WpOps.pn 5 rfl trivial ?_
  refine WpOps.nil ?_
  refine WpC.seqR ?_
  refine WpOps.pn 3 rfl trivial ?_
  refine WpOps.consE (v := (AV.rows 4 (List.map cGEdit ([(GEdit.mk (0 : Int) (1 : Int) (1 : Int) ([120] : List UInt8)), (GEdit.mk (0 : Int) (1 : Int) (1 : Int) ([121] : List UInt8))] : List GEdit)))) rfl rfl (Exact.litSlice rfl (by kernel_rfl)) ?_
  obtain ⟨r_3, hr_3, h⟩ := Sh.bind_some h
  refine WpOps.consE (v := (.tup [(AV.rows 2 (List.map cGFile r_3.1)), (iA r_3.2)])) rfl rfl (Exact.call rfl rfl rfl (w_edits_Apply hr_3)) ?_
  refine WpOps.pn 5 rfl trivial ?_
  refine WpOps.nil ?_
  refine WpC.seqR ?_
  refine WpOps.pn 3 rfl trivial ?_
  refine WpOps.consE (v := (AV.rows 4 (List.map cGEdit ([(GEdit.mk (0 : Int) (0 : Int) (3 : Int) ([120] : List UInt8)), (GEdit.mk (0 : Int) (1 : Int) (1 : Int) ([121] : List UInt8))] : List GEdit)))) rfl rfl (Exact.litSlice rfl (by kernel_rfl)) ?_
  obtain ⟨r_4, hr_4, h⟩ := Sh.bind_some h
  refine WpOps.consE (v := (.tup [(AV.rows 2 (List.map cGFile r_4.1)), (iA r_4.2)])) rfl rfl (Exact.call rfl rfl rfl (w_edits_Apply hr_4)) ?_
  refine WpOps.pn 5 rfl trivial ?_
  refine WpOps.nil ?_
  refine WpC.seqR ?_
  refine WpOps.pn 4 rfl trivial ?_
  refine WpOps.consE (v := (AV.rows 4 (List.map cGEdit ([(GEdit.mk (0 : Int) (1 : Int) (2 : Int) ([120] : List UInt8)), (GEdit.mk (0 : Int) (2 : Int) (2 : Int) ([121] : List UInt8)), (GEdit.mk (0 : Int) (2 : Int) (3 : Int) ([122] : List UInt8))] : List GEdit)))) rfl rfl (Exact.litSlice rfl (by kernel_rfl)) ?_
  obtain ⟨r_5, hr_5, h⟩ := Sh.bind_some h
  refine WpOps.consE (v := (.tup [(AV.rows 2 (List.map cGFile r_5.1)), (iA r_5.2)])) rfl rfl (Exact.call rfl rfl rfl (w_edits_Apply hr_5)) ?_
  refine WpOps.pn 5 rfl trivial ?_
  refine WpOps.nil ?_
  refine WpC.seqR ?_
  refine WpOps.pn 2 rfl trivial ?_
  refine WpOps.consE (v := (AV.rows 4 (List.map cGEdit ([(GEdit.mk (0 : Int) (0 : Int) (7 : Int) ([120] : List UInt8))] : List GEdit)))) rfl rfl (Exact.litSlice rfl (by kernel_rfl)) ?_
  obtain ⟨r_6, hr_6, h⟩ := Sh.bind_some h
  refine WpOps.consE (v := (.tup [(AV.rows 2 (List.map cGFile r_6.1)), (iA r_6.2)])) rfl rfl (Exact.call rfl rfl rfl (w_edits_Apply hr_6)) ?_
  refine WpOps.pn 5 rfl trivial ?_
  refine WpOps.nil ?_
  refine WpC.seqR ?_
  refine WpOps.pn 2 rfl trivial ?_
  refine WpOps.consE (v := (AV.rows 4 (List.map cGEdit ([(GEdit.mk (0 : Int) (0 : Int) (1 : Int) ([97] : List UInt8))] : List GEdit)))) rfl rfl (Exact.litSlice rfl (by kernel_rfl)) ?_
  obtain ⟨r_7, hr_7, h⟩ := Sh.bind_some h
  refine WpOps.consE (v := (.tup [(AV.rows 4 (List.map cGEdit r_7.1)), (iA r_7.2)])) rfl rfl (Exact.call rfl rfl rfl (w_edits_Normal hr_7)) ?_
  refine WpOps.pn 5 rfl trivial ?_
  refine WpOps.nil ?_
  refine WpC.seq ?_
  refine WpC.seqR ?_
  refine WpOps.pn 2 rfl trivial ?_
  refine WpOps.at 74 (len_map _ _) ?_
  refine WpOps.pn 1 rfl trivial ?_
  obtain ⟨b_1, g_1, h⟩ := Sh.bind_some h
  refine WpOps.cutB 5 80 (bA b_1) rfl ?_ ?_
  ·
    refine WpOps.pn 1 rfl trivial ?_
    refine WpOps.split 76 rfl (fun hb => ?_) (fun hb => ?_)
    ·
      replace g_1 := Sh.ite_pos hb g_1
      refine WpOps.pn 4 rfl trivial ?_
      refine WpOps.nil ?_
      obtain rfl := Sh.some_inj g_1
      exact ⟨rfl, rfl⟩
    ·
      replace g_1 := Sh.ite_neg hb g_1
      refine WpOps.pn 2 rfl trivial ?_
      refine WpOps.at 78 (len_map _ _) ?_
      refine WpOps.pn 2 rfl trivial ?_
      refine WpOps.nil ?_
      obtain rfl := Sh.some_inj g_1
      exact ⟨rfl, rfl⟩
  intro env
  refine WpOps.nil ?_
  refine WpC.condB rfl (fun hb => ?_) (fun hb => ?_)
  ·
    replace h := Sh.ite_pos hb h
    refine WpC.seqR ?_
    refine WpOps.pn 1 rfl trivial ?_
    refine WpOps.nil ?_
    obtain rfl := Sh.some_inj h
    refine WpC.ret ?_
    exact VEnds.ret1 rfl rfl ⟨rfl, hH⟩
  ·
    replace h := Sh.ite_neg hb h
    refine WpC.skipD ?_
    refine ⟨_, Heap.le_refl _, ?_⟩
    refine WpC.seqR ?_
    obtain ⟨y_1, hy_1, h⟩ := Sh.bind_some h
    refine WpOps.pn 1 rfl trivial ?_
    refine WpOps.consE (v := (.rop (cGFile y_1))) rfl rfl (Exact.ixr cGFile hy_1 rfl rfl rfl rfl (by kernel_rfl) (by decide)) ?_
    refine WpOps.pn 1 rfl trivial ?_
    refine WpOps.consE (v := (sA y_1.text)) rfl rfl (Exact.load_rop rfl rfl rfl) ?_
    refine WpOps.pn 1 rfl trivial ?_
    obtain ⟨b_2, g_2, h⟩ := Sh.bind_some h
    refine WpOps.cutB 4 89 (bA b_2) rfl ?_ ?_
    ·
      refine WpOps.pn 1 rfl trivial ?_
      refine WpOps.split 86 rfl (fun hb => ?_) (fun hb => ?_)
      ·
        replace g_2 := Sh.ite_pos hb g_2
        refine WpOps.pn 3 rfl trivial ?_
        refine WpOps.nil ?_
        obtain rfl := Sh.some_inj g_2
        exact ⟨rfl, rfl⟩
      ·
        replace g_2 := Sh.ite_neg hb g_2
        refine WpOps.pn 3 rfl trivial ?_
        refine WpOps.nil ?_
        obtain rfl := Sh.some_inj g_2
        exact ⟨rfl, rfl⟩
    intro env
    obtain ⟨b_3, g_3, h⟩ := Sh.bind_some h
    refine WpOps.cutB 4 93 (bA b_3) rfl ?_ ?_
    ·
      refine WpOps.pn 1 rfl trivial ?_
      refine WpOps.split 90 rfl (fun hb => ?_) (fun hb => ?_)
      ·
        replace g_3 := Sh.ite_pos hb g_3
        refine WpOps.pn 3 rfl trivial ?_
        refine WpOps.nil ?_
        obtain rfl := Sh.some_inj g_3
        exact ⟨rfl, rfl⟩
      ·
        replace g_3 := Sh.ite_neg hb g_3
        refine WpOps.pn 3 rfl trivial ?_
        refine WpOps.nil ?_
        obtain rfl := Sh.some_inj g_3
        exact ⟨rfl, rfl⟩
    intro env
    obtain ⟨b_4, g_4, h⟩ := Sh.bind_some h
    refine WpOps.cutB 4 97 (bA b_4) rfl ?_ ?_
    ·
      refine WpOps.pn 1 rfl trivial ?_
      refine WpOps.split 94 rfl (fun hb => ?_) (fun hb => ?_)
      ·
        replace g_4 := Sh.ite_pos hb g_4
        refine WpOps.pn 3 rfl trivial ?_
        refine WpOps.nil ?_
        obtain rfl := Sh.some_inj g_4
        exact ⟨rfl, rfl⟩
      ·
        replace g_4 := Sh.ite_neg hb g_4
        refine WpOps.pn 3 rfl trivial ?_
        refine WpOps.nil ?_
        obtain rfl := Sh.some_inj g_4
        exact ⟨rfl, rfl⟩
    intro env
    obtain ⟨b_5, g_5, h⟩ := Sh.bind_some h
    refine WpOps.cutB 4 101 (bA b_5) rfl ?_ ?_
    ·
      refine WpOps.pn 1 rfl trivial ?_
      refine WpOps.split 98 rfl (fun hb => ?_) (fun hb => ?_)
      ·
        replace g_5 := Sh.ite_pos hb g_5
        refine WpOps.pn 3 rfl trivial ?_
        refine WpOps.nil ?_
        obtain rfl := Sh.some_inj g_5
        exact ⟨rfl, rfl⟩
      ·
        replace g_5 := Sh.ite_neg hb g_5
        refine WpOps.pn 3 rfl trivial ?_
        refine WpOps.nil ?_
        obtain rfl := Sh.some_inj g_5
        exact ⟨rfl, rfl⟩
    intro env
    obtain ⟨b_6, g_6, h⟩ := Sh.bind_some h
    refine WpOps.cutB 7 108 (bA b_6) rfl ?_ ?_
    ·
      refine WpOps.pn 1 rfl trivial ?_
      refine WpOps.split 102 rfl (fun hb => ?_) (fun hb => ?_)
      ·
        replace g_6 := Sh.ite_pos hb g_6
        obtain ⟨y_2, hy_2, g_6⟩ := Sh.bind_some g_6
        refine WpOps.pn 1 rfl trivial ?_
        refine WpOps.consE (v := (.rop (cGFile y_2))) rfl rfl (Exact.ixr cGFile hy_2 rfl rfl rfl rfl (by kernel_rfl) (by decide)) ?_
        refine WpOps.pn 1 rfl trivial ?_
        refine WpOps.consE (v := (sA y_2.text)) rfl rfl (Exact.load_rop rfl rfl rfl) ?_
        refine WpOps.pn 2 rfl trivial ?_
        refine WpOps.nil ?_
        obtain rfl := Sh.some_inj g_6
        exact ⟨rfl, rfl⟩
      ·
        replace g_6 := Sh.ite_neg hb g_6
        refine WpOps.pn 6 rfl trivial ?_
        refine WpOps.nil ?_
        obtain rfl := Sh.some_inj g_6
        exact ⟨rfl, rfl⟩
    intro env
    obtain ⟨b_7, g_7, h⟩ := Sh.bind_some h
    refine WpOps.cutB 4 112 (bA b_7) rfl ?_ ?_
    ·
      refine WpOps.pn 1 rfl trivial ?_
      refine WpOps.split 109 rfl (fun hb => ?_) (fun hb => ?_)
      ·
        replace g_7 := Sh.ite_pos hb g_7
        refine WpOps.pn 3 rfl trivial ?_
        refine WpOps.nil ?_
        obtain rfl := Sh.some_inj g_7
        exact ⟨rfl, rfl⟩
      ·
        replace g_7 := Sh.ite_neg hb g_7
        refine WpOps.pn 3 rfl trivial ?_
        refine WpOps.nil ?_
        obtain rfl := Sh.some_inj g_7
        exact ⟨rfl, rfl⟩
    intro env
    obtain ⟨b_8, g_8, h⟩ := Sh.bind_some h
    refine WpOps.cutB 4 116 (bA b_8) rfl ?_ ?_
    ·
      refine WpOps.pn 1 rfl trivial ?_
      refine WpOps.split 113 rfl (fun hb => ?_) (fun hb => ?_)
      ·
        replace g_8 := Sh.ite_pos hb g_8
        refine WpOps.pn 3 rfl trivial ?_
        refine WpOps.nil ?_
        obtain rfl := Sh.some_inj g_8
        exact ⟨rfl, rfl⟩
      ·
        replace g_8 := Sh.ite_neg hb g_8
        refine WpOps.pn 3 rfl trivial ?_
        refine WpOps.nil ?_
        obtain rfl := Sh.some_inj g_8
        exact ⟨rfl, rfl⟩
    intro env
    obtain ⟨b_9, g_9, h⟩ := Sh.bind_some h
    refine WpOps.cutB 5 121 (bA b_9) rfl ?_ ?_
    ·
      refine WpOps.pn 1 rfl trivial ?_
      refine WpOps.split 117 rfl (fun hb => ?_) (fun hb => ?_)
      ·
        replace g_9 := Sh.ite_pos hb g_9
        refine WpOps.pn 2 rfl trivial ?_
        refine WpOps.at 119 (len_map _ _) ?_
        refine WpOps.pn 2 rfl trivial ?_
        refine WpOps.nil ?_
        obtain rfl := Sh.some_inj g_9
        exact ⟨rfl, rfl⟩
      ·
        replace g_9 := Sh.ite_neg hb g_9
        refine WpOps.pn 4 rfl trivial ?_
        refine WpOps.nil ?_
        obtain rfl := Sh.some_inj g_9
        exact ⟨rfl, rfl⟩
    intro env
    obtain ⟨b_10, g_10, h⟩ := Sh.bind_some h
    refine WpOps.cutB 4 125 (bA b_10) rfl ?_ ?_
    ·
      refine WpOps.pn 1 rfl trivial ?_
      refine WpOps.split 122 rfl (fun hb => ?_) (fun hb => ?_)
      ·
        replace g_10 := Sh.ite_pos hb g_10
        refine WpOps.pn 3 rfl trivial ?_
        refine WpOps.nil ?_
        obtain rfl := Sh.some_inj g_10
        exact ⟨rfl, rfl⟩
      ·
        replace g_10 := Sh.ite_neg hb g_10
        refine WpOps.pn 3 rfl trivial ?_
        refine WpOps.nil ?_
        obtain rfl := Sh.some_inj g_10
        exact ⟨rfl, rfl⟩
    intro env
    refine WpOps.pn 1 rfl trivial ?_
    refine WpOps.nil ?_
    obtain rfl := Sh.some_inj h
    refine WpC.ret ?_
    exact VEnds.ret1 rfl rfl ⟨rfl, hH⟩

theorem w_emendlaw20_short {H0 : Heap} {files_1 : List GFile} {l_1 : List GEdit} {r : Bool} (h : emendlaw20_short files_1 l_1 = some r) : TCall Try.prog 11 [(AV.rows 2 (List.map cGFile files_1)), (AV.rows 4 (List.map cGEdit l_1))] H0 (fun v H' => v = (bA r) ∧ H' = H0) noE := by
  refine id (TCall.body Try.func11 rfl rfl ?_)
  have hH : Holds H0 [] H0 := rfl
  refine WpC.seqR ?_
  refine WpOps.pn 1 rfl trivial ?_
  refine WpOps.nil ?_
  refine WpC.seq ?_
  refine WpC.seqR ?_
  refine WpOps.pn 2 rfl trivial ?_
  refine WpOps.at 8 (len_map _ _) ?_
  refine WpOps.pn 1 rfl trivial ?_
  obtain ⟨b_1, g_1, h⟩ := Sh.bind_some h
  refine WpOps.cutB 5 14 (bA b_1) rfl ?_ ?_
  ·
    refine WpOps.pn 1 rfl trivial ?_
    refine WpOps.split 10 rfl (fun hb => ?_) (fun hb => ?_)
    ·
      replace g_1 := Sh.ite_pos hb g_1
      refine WpOps.pn 4 rfl trivial ?_
      refine WpOps.nil ?_
      obtain rfl := Sh.some_inj g_1
      exact ⟨rfl, rfl⟩
    ·
      replace g_1 := Sh.ite_neg hb g_1
      refine WpOps.pn 2 rfl trivial ?_
      refine WpOps.at 12 (len_map _ _) ?_
      refine WpOps.pn 2 rfl trivial ?_
      refine WpOps.nil ?_
      obtain rfl := Sh.some_inj g_1
      exact ⟨rfl, rfl⟩
  intro env
  refine WpOps.nil ?_
  refine WpC.condB rfl (fun hb => ?_) (fun hb => ?_)
  ·
    replace h := Sh.ite_pos hb h
    refine WpC.seqR ?_
    refine WpOps.pn 1 rfl trivial ?_
    refine WpOps.nil ?_
    obtain rfl := Sh.some_inj h
    refine WpC.ret ?_
    exact VEnds.ret1 rfl rfl ⟨rfl, hH⟩
  ·
    replace h := Sh.ite_neg hb h
    refine WpC.skipD ?_
    refine ⟨_, Heap.le_refl _, ?_⟩
    refine WpC.seq ?_
    refine WpC.seqR ?_
    refine WpOps.pn 1 rfl trivial ?_
    refine WpOps.nil ?_
    refine WpC.blockK (fun x : (Unit) × (Unit) => [(1, (AV.rows 4 (List.map cGEdit l_1)))]) (fun x H' => (emendlaw20_short_j1 l_1) x.1 = some r ∧ Holds H0 [] H') ?_ ?_
    ·
      obtain ⟨o_1, ho_1, hk_1⟩ := Sh.bind_some h
      refine WpC.loopS (emendlaw20_short_b2 files_1) (fun (s : Int) (a : Unit) => [(0, (AV.rows 2 (List.map cGFile files_1))), (1, (AV.rows 4 (List.map cGEdit l_1))), (5, (iA s))]) (fun (s : Int) (a : Unit) H' => Holds H0 [] H') o_1 (0 : Int) () ho_1 ⟨rfl, rfl, rfl, trivial⟩ hH ?_
      rintro i_1 _ st_1 env H' h hd_1 hH
      refine WpC.seq ?_
      refine WpC.seqR ?_
      refine WpOps.pn 3 rfl trivial ?_
      refine WpOps.at 17 (len_map _ _) ?_
      refine WpOps.pn 1 rfl trivial ?_
      refine WpOps.nil ?_
      refine WpC.condB rfl (fun hb => ?_) (fun hb => ?_)
      ·
        replace h := Sh.ite_pos hb h
        refine WpC.skipD ?_
        refine ⟨_, Heap.le_refl _, ?_⟩
        refine WpC.seq ?_
        refine WpC.block ?_
        refine WpC.seqR ?_
        obtain ⟨y_1, hy_1, h⟩ := Sh.bind_some h
        refine WpOps.pn 2 rfl trivial ?_
        refine WpOps.consE (v := (.rop (cGFile y_1))) rfl rfl (Exact.ixr cGFile hy_1 rfl rfl rfl rfl (by kernel_rfl) (by decide)) ?_
        refine WpOps.pn 1 rfl trivial ?_
        refine WpOps.consE (v := (sA y_1.text)) rfl rfl (Exact.load_rop rfl rfl rfl) ?_
        refine WpOps.pn 2 rfl trivial ?_
        refine WpOps.nil ?_
        refine WpC.condB rfl (fun hb => ?_) (fun hb => ?_)
        ·
          replace h := Sh.ite_pos hb h
          refine WpC.seqR ?_
          refine WpOps.pn 1 rfl trivial ?_
          refine WpOps.nil ?_
          obtain rfl := Sh.some_inj h
          have e := hd_1 _ rfl
          subst e
          have h := hk_1
          obtain rfl := Sh.some_inj h
          refine WpC.ret ?_
          exact VEnds.ret1 rfl rfl ⟨rfl, hH⟩
        ·
          replace h := Sh.ite_neg hb h
          refine WpC.skipD ?_
          refine ⟨_, Heap.le_refl _, ?_⟩
          refine WpC.regionD ?_
          obtain ⟨c_1, h⟩ := Sh.chk_some h
          refine WpOps.pn 3 rfl c_1 ?_
          refine WpOps.nil ?_
          obtain rfl := Sh.some_inj h
          exact ⟨_, (Heap.le_refl _), (i_1 + (1 : Int)), (), rfl, ⟨rfl, rfl, rfl, trivial⟩, hH⟩
      ·
        replace h := Sh.ite_neg hb h
        obtain rfl := Sh.some_inj h
        have e := hd_1 _ rfl
        subst e
        refine WpC.exit ?_
        exact ⟨((), ()), ⟨rfl, trivial⟩, hk_1, hH⟩
    ·
      rintro ⟨_, _⟩ env H' ⟨h, hH⟩
      try dsimp only at h
      refine ⟨_, Heap.le_refl _, ?_⟩
      refine WpC.seq ?_
      refine WpC.seqR ?_
      refine WpOps.pn 1 rfl trivial ?_
      refine WpOps.nil ?_
      refine WpC.blockK (fun x : (Unit) × (Unit) => []) (fun x H' => emendlaw20_short_j3 x.1 = some r ∧ Holds H0 [] H') ?_ ?_
      ·
        obtain ⟨o_2, ho_2, hk_2⟩ := Sh.bind_some h
        refine WpC.loopS (emendlaw20_short_b4 l_1) (fun (s : Int) (a : Unit) => [(1, (AV.rows 4 (List.map cGEdit l_1))), (6, (iA s))]) (fun (s : Int) (a : Unit) H' => Holds H0 [] H') o_2 (0 : Int) () ho_2 ⟨rfl, rfl, trivial⟩ hH ?_
        rintro i_2 _ st_2 env H' h hd_2 hH
        refine WpC.seq ?_
        refine WpC.seqR ?_
        refine WpOps.pn 3 rfl trivial ?_
        refine WpOps.at 30 (len_map _ _) ?_
        refine WpOps.pn 1 rfl trivial ?_
        refine WpOps.nil ?_
        refine WpC.condB rfl (fun hb => ?_) (fun hb => ?_)
        ·
          replace h := Sh.ite_pos hb h
          refine WpC.skipD ?_
          refine ⟨_, Heap.le_refl _, ?_⟩
          refine WpC.seq ?_
          refine WpC.block ?_
          refine WpC.seqR ?_
          obtain ⟨y_2, hy_2, h⟩ := Sh.bind_some h
          refine WpOps.pn 2 rfl trivial ?_
          refine WpOps.consE (v := (.rop (cGEdit y_2))) rfl rfl (Exact.ixr cGEdit hy_2 rfl rfl rfl rfl (by kernel_rfl) (by decide)) ?_
          refine WpOps.pn 1 rfl trivial ?_
          refine WpOps.consE (v := (sA y_2.text)) rfl rfl (Exact.load_rop rfl rfl rfl) ?_
          refine WpOps.pn 2 rfl trivial ?_
          refine WpOps.nil ?_
          refine WpC.condB rfl (fun hb => ?_) (fun hb => ?_)
          ·
            replace h := Sh.ite_pos hb h
            refine WpC.seqR ?_
            refine WpOps.pn 1 rfl trivial ?_
            refine WpOps.nil ?_
            obtain rfl := Sh.some_inj h
            have e := hd_2 _ rfl
            subst e
            have h := hk_2
            obtain rfl := Sh.some_inj h
            refine WpC.ret ?_
            exact VEnds.ret1 rfl rfl ⟨rfl, hH⟩
          ·
            replace h := Sh.ite_neg hb h
            refine WpC.skipD ?_
            refine ⟨_, Heap.le_refl _, ?_⟩
            refine WpC.regionD ?_
            obtain ⟨c_2, h⟩ := Sh.chk_some h
            refine WpOps.pn 3 rfl c_2 ?_
            refine WpOps.nil ?_
            obtain rfl := Sh.some_inj h
            exact ⟨_, (Heap.le_refl _), (i_2 + (1 : Int)), (), rfl, ⟨rfl, rfl, trivial⟩, hH⟩
        ·
          replace h := Sh.ite_neg hb h
          obtain rfl := Sh.some_inj h
          have e := hd_2 _ rfl
          subst e
          refine WpC.exit ?_
          exact ⟨((), ()), trivial, hk_2, hH⟩
      ·
        rintro ⟨_, _⟩ env H' ⟨h, hH⟩
        try dsimp only at h
        refine ⟨_, Heap.le_refl _, ?_⟩
        refine WpC.seqR ?_
        refine WpOps.pn 1 rfl trivial ?_
        refine WpOps.nil ?_
        obtain rfl := Sh.some_inj h
        refine WpC.ret ?_
        exact VEnds.ret1 rfl rfl ⟨rfl, hH⟩

theorem w_emendref20_Right {H0 : Heap} {files_1 : List GFile} {c_1 : GEdit} {r : Bool} (h : emendref20_Right files_1 c_1 = some r) : TCall Try.prog 18 [(AV.rows 2 (List.map cGFile files_1)), (AV.agg (cGEdit c_1))] H0 (fun v H' => v = (bA r) ∧ H' = H0) noE := by
  refine id (TCall.body Try.func18 rfl rfl ?_)
  have hH : Holds H0 [] H0 := rfl
  refine WpC.seqR ?_
  refine WpOps.consG rfl rfl (WpO.boxT (v := (AV.agg (cGEdit c_1))) rfl rfl hH fun g_1 H' hH => ?_)
  refine WpOps.pn 1 rfl trivial ?_
  refine WpOps.nil ?_
  refine WpC.seq ?_
  refine WpC.seqR ?_
  refine WpOps.pn 1 rfl trivial ?_
  refine WpOps.consE (v := (iA c_1.file_)) rfl rfl (Exact.load rfl rfl (hH.cell (i := 0) rfl) rfl rfl) ?_
  refine WpOps.pn 1 rfl trivial ?_
  obtain ⟨b_1, g_2, h⟩ := Sh.bind_some h
  refine WpOps.cutB 7 14 (bA b_1) rfl ?_ ?_
  ·
    refine WpOps.pn 1 rfl trivial ?_
    refine WpOps.split 8 rfl (fun hb => ?_) (fun hb => ?_)
    ·
      replace g_2 := Sh.ite_pos hb g_2
      refine WpOps.pn 6 rfl trivial ?_
      refine WpOps.nil ?_
      obtain rfl := Sh.some_inj g_2
      exact ⟨rfl, rfl⟩
    ·
      replace g_2 := Sh.ite_neg hb g_2
      refine WpOps.pn 1 rfl trivial ?_
      refine WpOps.consE (v := (iA c_1.file_)) rfl rfl (Exact.load rfl rfl (hH.cell (i := 0) rfl) rfl rfl) ?_
      refine WpOps.pn 2 rfl trivial ?_
      refine WpOps.at 12 (len_map _ _) ?_
      refine WpOps.pn 2 rfl trivial ?_
      refine WpOps.nil ?_
      obtain rfl := Sh.some_inj g_2
      exact ⟨rfl, rfl⟩
  intro env
  refine WpOps.nil ?_
  refine WpC.condB rfl (fun hb => ?_) (fun hb => ?_)
  ·
    replace h := Sh.ite_pos hb h
    refine WpC.seqR ?_
    refine WpOps.pn 1 rfl trivial ?_
    refine WpOps.nil ?_
    refine WpC.lose (i := 0) hH rfl (fun H' hH => ?_)
    obtain rfl := Sh.some_inj h
    refine WpC.ret ?_
    exact VEnds.ret1 rfl rfl ⟨rfl, hH⟩
  ·
    replace h := Sh.ite_neg hb h
    refine WpC.skipD ?_
    refine ⟨_, Heap.le_refl _, ?_⟩
    refine WpC.seqD [.I, .S, .I, .I, .I, .S, .I, .S, .I, .I, .I, .I, .S, .I, .I, .S] [0, 1, 2, 3, 4, 5, 6, 7, 8, 9, 10, 11, 12, 13, 14, 15, 16, 17, 18, 19, 20, 21, 22] (by kernel_rfl) (by kernel_rfl) ?_
    refine WpPi.pn 1 rfl trivial ?_
    refine WpPi.consS (v := (iA c_1.from_)) rfl rfl rfl rfl (Exact.load rfl rfl (hH.cell (i := 0) rfl) rfl rfl) ?_
    refine WpPi.pn 1 rfl trivial ?_
    obtain ⟨b_2, g_3, h⟩ := Sh.bind_some h
    refine WpPi.cutB 7 24 (bA b_2) rfl ?_ ?_
    ·
      refine WpPi.pn 1 rfl trivial ?_
      refine WpPi.split 18 rfl (fun hb => ?_) (fun hb => ?_)
      ·
        replace g_3 := Sh.ite_pos hb g_3
        refine WpPi.pn 1 rfl trivial ?_
        refine WpPi.consS (v := (iA c_1.from_)) rfl rfl rfl rfl (Exact.load rfl rfl (hH.cell (i := 0) rfl) rfl rfl) ?_
        refine WpPi.pn 1 rfl trivial ?_
        refine WpPi.consS (v := (iA c_1.to)) rfl rfl rfl rfl (Exact.load rfl rfl (hH.cell (i := 0) rfl) rfl rfl) ?_
        refine WpPi.pn 2 rfl trivial ?_
        refine WpPi.nil ?_
        obtain rfl := Sh.some_inj g_3
        exact ⟨rfl, rfl⟩
      ·
        replace g_3 := Sh.ite_neg hb g_3
        refine WpPi.pn 1 rfl trivial ?_
        refine WpPi.skip rfl rfl rfl ?_
        refine WpPi.pn 1 rfl trivial ?_
        refine WpPi.skip rfl rfl rfl ?_
        refine WpPi.pn 2 rfl trivial ?_
        refine WpPi.nil ?_
        obtain rfl := Sh.some_inj g_3
        exact ⟨rfl, rfl⟩
    intro env
    obtain ⟨b_3, g_4, h⟩ := Sh.bind_some h
    refine WpPi.cutB 12 36 (bA b_3) rfl ?_ ?_
    ·
      refine WpPi.pn 1 rfl trivial ?_
      refine WpPi.split 25 rfl (fun hb => ?_) (fun hb => ?_)
      ·
        replace g_4 := Sh.ite_pos hb g_4
        refine WpPi.pn 1 rfl trivial ?_
        refine WpPi.consS (v := (iA c_1.to)) rfl rfl rfl rfl (Exact.load rfl rfl (hH.cell (i := 0) rfl) rfl rfl) ?_
        refine WpPi.pn 2 rfl trivial ?_
        refine WpPi.consS (v := (iA c_1.file_)) rfl rfl rfl rfl (Exact.load rfl rfl (hH.cell (i := 0) rfl) rfl rfl) ?_
        obtain ⟨y_1, hy_1, g_4⟩ := Sh.bind_some g_4
        refine WpPi.consI (v := (.rop (cGFile y_1))) rfl rfl rfl rfl (fun _ => Exact.ixr cGFile hy_1 rfl rfl rfl rfl (by kernel_rfl) (by decide)) ?_
        refine WpPi.pn 1 rfl trivial ?_
        refine WpPi.consI (v := (sA y_1.text)) rfl rfl rfl rfl (fun _ => Exact.load_rop rfl rfl rfl) ?_
        refine WpPi.pn 3 rfl trivial ?_
        refine WpPi.nil ?_
        obtain rfl := Sh.some_inj g_4
        exact ⟨rfl, rfl⟩
      ·
        replace g_4 := Sh.ite_neg hb g_4
        refine WpPi.pn 1 rfl trivial ?_
        refine WpPi.skip rfl rfl rfl ?_
        refine WpPi.pn 2 rfl trivial ?_
        refine WpPi.skip rfl rfl rfl ?_
        refine WpPi.skip rfl rfl rfl ?_
        refine WpPi.pn 1 rfl trivial ?_
        refine WpPi.skip rfl rfl rfl ?_
        refine WpPi.pn 3 rfl trivial ?_
        refine WpPi.nil ?_
        obtain rfl := Sh.some_inj g_4
        exact ⟨rfl, rfl⟩
    intro env
    refine WpPi.pn 1 rfl trivial ?_
    refine WpPi.nil ?_
    refine WpC.lose (i := 0) hH rfl (fun H' hH => ?_)
    obtain rfl := Sh.some_inj h
    refine WpC.ret ?_
    exact VEnds.ret1 rfl rfl ⟨rfl, hH⟩

theorem w_emendref20_Over {H0 : Heap} {a_1 : GEdit} {b_1 : GEdit} {r : Bool} (h : emendref20_Over a_1 b_1 = some r) : TCall Try.prog 28 [(AV.agg (cGEdit a_1)), (AV.agg (cGEdit b_1))] H0 (fun v H' => v = (bA r) ∧ H' = H0) noE := by
  refine id (TCall.body Try.func28 rfl rfl ?_)
  have hH : Holds H0 [] H0 := rfl
  refine WpC.seqR ?_
  refine WpOps.consG rfl rfl (WpO.boxT (v := (AV.agg (cGEdit a_1))) rfl rfl hH fun g_1 H' hH => ?_)
  refine WpOps.consG rfl rfl (WpO.boxT (v := (AV.agg (cGEdit b_1))) rfl rfl hH fun g_2 H' hH => ?_)
  refine WpOps.pn 1 rfl trivial ?_
  refine WpOps.nil ?_
  refine WpC.seq ?_
  refine WpC.seqR ?_
  refine WpOps.pn 1 rfl trivial ?_
  refine WpOps.consE (v := (iA a_1.file_)) rfl rfl (Exact.load rfl rfl (hH.cell (i := 1) rfl) rfl rfl) ?_
  refine WpOps.pn 1 rfl trivial ?_
  refine WpOps.consE (v := (iA b_1.file_)) rfl rfl (Exact.load rfl rfl (hH.cell (i := 0) rfl) rfl rfl) ?_
  refine WpOps.pn 1 rfl trivial ?_
  refine WpOps.nil ?_
  refine WpC.condB rfl (fun hb => ?_) (fun hb => ?_)
  ·
    replace h := Sh.ite_pos hb h
    refine WpC.seqR ?_
    refine WpOps.pn 1 rfl trivial ?_
    refine WpOps.nil ?_
    refine WpC.lose (i := 0) hH rfl (fun H' hH => ?_)
    refine WpC.lose (i := 0) hH rfl (fun H' hH => ?_)
    obtain rfl := Sh.some_inj h
    refine WpC.ret ?_
    exact VEnds.ret1 rfl rfl ⟨rfl, hH⟩
  ·
    replace h := Sh.ite_neg hb h
    refine WpC.skipD ?_
    refine ⟨_, Heap.le_refl _, ?_⟩
    refine WpC.seq ?_
    refine WpC.seqR ?_
    refine WpOps.pn 1 rfl trivial ?_
    refine WpOps.consE (v := (iA a_1.from_)) rfl rfl (Exact.load rfl rfl (hH.cell (i := 1) rfl) rfl rfl) ?_
    refine WpOps.pn 1 rfl trivial ?_
    refine WpOps.consE (v := (iA a_1.to)) rfl rfl (Exact.load rfl rfl (hH.cell (i := 1) rfl) rfl rfl) ?_
    refine WpOps.pn 1 rfl trivial ?_
    obtain ⟨b_2, g_3, h⟩ := Sh.bind_some h
    refine WpOps.cutB 7 21 (bA b_2) rfl ?_ ?_
    ·
      refine WpOps.pn 1 rfl trivial ?_
      refine WpOps.split 15 rfl (fun hb => ?_) (fun hb => ?_)
      ·
        replace g_3 := Sh.ite_pos hb g_3
        refine WpOps.pn 1 rfl trivial ?_
        refine WpOps.consE (v := (iA b_1.from_)) rfl rfl (Exact.load rfl rfl (hH.cell (i := 0) rfl) rfl rfl) ?_
        refine WpOps.pn 1 rfl trivial ?_
        refine WpOps.consE (v := (iA b_1.to)) rfl rfl (Exact.load rfl rfl (hH.cell (i := 0) rfl) rfl rfl) ?_
        refine WpOps.pn 2 rfl trivial ?_
        refine WpOps.nil ?_
        obtain rfl := Sh.some_inj g_3
        exact ⟨rfl, rfl⟩
      ·
        replace g_3 := Sh.ite_neg hb g_3
        refine WpOps.pn 6 rfl trivial ?_
        refine WpOps.nil ?_
        obtain rfl := Sh.some_inj g_3
        exact ⟨rfl, rfl⟩
    intro env
    refine WpOps.nil ?_
    refine WpC.condB rfl (fun hb => ?_) (fun hb => ?_)
    ·
      replace h := Sh.ite_pos hb h
      refine WpC.seqR ?_
      refine WpOps.pn 1 rfl trivial ?_
      refine WpOps.consE (v := (iA a_1.from_)) rfl rfl (Exact.load rfl rfl (hH.cell (i := 1) rfl) rfl rfl) ?_
      refine WpOps.pn 1 rfl trivial ?_
      refine WpOps.consE (v := (iA b_1.from_)) rfl rfl (Exact.load rfl rfl (hH.cell (i := 0) rfl) rfl rfl) ?_
      refine WpOps.pn 2 rfl trivial ?_
      refine WpOps.nil ?_
      refine WpC.lose (i := 0) hH rfl (fun H' hH => ?_)
      refine WpC.lose (i := 0) hH rfl (fun H' hH => ?_)
      obtain rfl := Sh.some_inj h
      refine WpC.ret ?_
      exact VEnds.ret1 rfl rfl ⟨rfl, hH⟩
    ·
      replace h := Sh.ite_neg hb h
      refine WpC.skipD ?_
      refine ⟨_, Heap.le_refl _, ?_⟩
      refine WpC.seqR ?_
      refine WpOps.pn 1 rfl trivial ?_
      refine WpOps.consE (v := (iA a_1.from_)) rfl rfl (Exact.load rfl rfl (hH.cell (i := 1) rfl) rfl rfl) ?_
      refine WpOps.pn 1 rfl trivial ?_
      refine WpOps.consE (v := (iA b_1.to)) rfl rfl (Exact.load rfl rfl (hH.cell (i := 0) rfl) rfl rfl) ?_
      refine WpOps.pn 1 rfl trivial ?_
      obtain ⟨b_3, g_4, h⟩ := Sh.bind_some h
      refine WpOps.cutB 7 38 (bA b_3) rfl ?_ ?_
      ·
        refine WpOps.pn 1 rfl trivial ?_
        refine WpOps.split 32 rfl (fun hb => ?_) (fun hb => ?_)
        ·
          replace g_4 := Sh.ite_pos hb g_4
          refine WpOps.pn 1 rfl trivial ?_
          refine WpOps.consE (v := (iA b_1.from_)) rfl rfl (Exact.load rfl rfl (hH.cell (i := 0) rfl) rfl rfl) ?_
          refine WpOps.pn 1 rfl trivial ?_
          refine WpOps.consE (v := (iA a_1.to)) rfl rfl (Exact.load rfl rfl (hH.cell (i := 1) rfl) rfl rfl) ?_
          refine WpOps.pn 2 rfl trivial ?_
          refine WpOps.nil ?_
          obtain rfl := Sh.some_inj g_4
          exact ⟨rfl, rfl⟩
        ·
          replace g_4 := Sh.ite_neg hb g_4
          refine WpOps.pn 6 rfl trivial ?_
          refine WpOps.nil ?_
          obtain rfl := Sh.some_inj g_4
          exact ⟨rfl, rfl⟩
      intro env
      refine WpOps.pn 1 rfl trivial ?_
      refine WpOps.nil ?_
      refine WpC.lose (i := 0) hH rfl (fun H' hH => ?_)
      refine WpC.lose (i := 0) hH rfl (fun H' hH => ?_)
      obtain rfl := Sh.some_inj h
      refine WpC.ret ?_
      exact VEnds.ret1 rfl rfl ⟨rfl, hH⟩

theorem w_emendref20_before {H0 : Heap} {a_1 : GEdit} {b_1 : GEdit} {r : Bool} (h : emendref20_before a_1 b_1 = some r) : TCall Try.prog 29 [(AV.agg (cGEdit a_1)), (AV.agg (cGEdit b_1))] H0 (fun v H' => v = (bA r) ∧ H' = H0) noE := by
  refine id (TCall.body Try.func29 rfl rfl ?_)
  have hH : Holds H0 [] H0 := rfl
  refine WpC.seqR ?_
  refine WpOps.consG rfl rfl (WpO.boxT (v := (AV.agg (cGEdit a_1))) rfl rfl hH fun g_1 H' hH => ?_)
  refine WpOps.consG rfl rfl (WpO.boxT (v := (AV.agg (cGEdit b_1))) rfl rfl hH fun g_2 H' hH => ?_)
  refine WpOps.pn 1 rfl trivial ?_
  refine WpOps.nil ?_
  refine WpC.seq ?_
  refine WpC.seqR ?_
  refine WpOps.pn 1 rfl trivial ?_
  refine WpOps.consE (v := (iA a_1.file_)) rfl rfl (Exact.load rfl rfl (hH.cell (i := 1) rfl) rfl rfl) ?_
  refine WpOps.pn 1 rfl trivial ?_
  refine WpOps.consE (v := (iA b_1.file_)) rfl rfl (Exact.load rfl rfl (hH.cell (i := 0) rfl) rfl rfl) ?_
  refine WpOps.pn 1 rfl trivial ?_
  refine WpOps.nil ?_
  refine WpC.condB rfl (fun hb => ?_) (fun hb => ?_)
  ·
    replace h := Sh.ite_pos hb h
    refine WpC.seqR ?_
    refine WpOps.pn 1 rfl trivial ?_
    refine WpOps.consE (v := (iA a_1.file_)) rfl rfl (Exact.load rfl rfl (hH.cell (i := 1) rfl) rfl rfl) ?_
    refine WpOps.pn 1 rfl trivial ?_
    refine WpOps.consE (v := (iA b_1.file_)) rfl rfl (Exact.load rfl rfl (hH.cell (i := 0) rfl) rfl rfl) ?_
    refine WpOps.pn 2 rfl trivial ?_
    refine WpOps.nil ?_
    refine WpC.lose (i := 0) hH rfl (fun H' hH => ?_)
    refine WpC.lose (i := 0) hH rfl (fun H' hH => ?_)
    obtain rfl := Sh.some_inj h
    refine WpC.ret ?_
    exact VEnds.ret1 rfl rfl ⟨rfl, hH⟩
  ·
    replace h := Sh.ite_neg hb h
    refine WpC.skipD ?_
    refine ⟨_, Heap.le_refl _, ?_⟩
    refine WpC.seq ?_
    refine WpC.seqR ?_
    refine WpOps.pn 1 rfl trivial ?_
    refine WpOps.consE (v := (iA a_1.from_)) rfl rfl (Exact.load rfl rfl (hH.cell (i := 1) rfl) rfl rfl) ?_
    refine WpOps.pn 1 rfl trivial ?_
    refine WpOps.consE (v := (iA b_1.from_)) rfl rfl (Exact.load rfl rfl (hH.cell (i := 0) rfl) rfl rfl) ?_
    refine WpOps.pn 1 rfl trivial ?_
    refine WpOps.nil ?_
    refine WpC.condB rfl (fun hb => ?_) (fun hb => ?_)
    ·
      replace h := Sh.ite_pos hb h
      refine WpC.seqR ?_
      refine WpOps.pn 1 rfl trivial ?_
      refine WpOps.consE (v := (iA a_1.from_)) rfl rfl (Exact.load rfl rfl (hH.cell (i := 1) rfl) rfl rfl) ?_
      refine WpOps.pn 1 rfl trivial ?_
      refine WpOps.consE (v := (iA b_1.from_)) rfl rfl (Exact.load rfl rfl (hH.cell (i := 0) rfl) rfl rfl) ?_
      refine WpOps.pn 2 rfl trivial ?_
      refine WpOps.nil ?_
      refine WpC.lose (i := 0) hH rfl (fun H' hH => ?_)
      refine WpC.lose (i := 0) hH rfl (fun H' hH => ?_)
      obtain rfl := Sh.some_inj h
      refine WpC.ret ?_
      exact VEnds.ret1 rfl rfl ⟨rfl, hH⟩
    ·
      replace h := Sh.ite_neg hb h
      refine WpC.skipD ?_
      refine ⟨_, Heap.le_refl _, ?_⟩
      refine WpC.seqR ?_
      refine WpOps.pn 1 rfl trivial ?_
      refine WpOps.consE (v := (iA a_1.to)) rfl rfl (Exact.load rfl rfl (hH.cell (i := 1) rfl) rfl rfl) ?_
      refine WpOps.pn 1 rfl trivial ?_
      refine WpOps.consE (v := (iA b_1.to)) rfl rfl (Exact.load rfl rfl (hH.cell (i := 0) rfl) rfl rfl) ?_
      refine WpOps.pn 2 rfl trivial ?_
      refine WpOps.nil ?_
      refine WpC.lose (i := 0) hH rfl (fun H' hH => ?_)
      refine WpC.lose (i := 0) hH rfl (fun H' hH => ?_)
      obtain rfl := Sh.some_inj h
      refine WpC.ret ?_
      exact VEnds.ret1 rfl rfl ⟨rfl, hH⟩

theorem w_emendref20_joinF {J : List GFile → List GEdit → Option (List GEdit)} (wJ : ∀ {H0 : Heap} {f : List GFile} {l r : List GEdit}, J f l = some r → TCall Try.prog 30 [(AV.rows 2 (List.map cGFile f)), (AV.rows 4 (List.map cGEdit l))] H0 (fun v H' => v = (AV.rows 4 (List.map cGEdit r)) ∧ H' = H0) noE) {H0 : Heap} {files_1 : List GFile} {l_1 : List GEdit} {r : List GEdit} (h : emendref20_joinF J files_1 l_1 = some r) : TCall Try.prog 30 [(AV.rows 2 (List.map cGFile files_1)), (AV.rows 4 (List.map cGEdit l_1))] H0 (fun v H' => v = (AV.rows 4 (List.map cGEdit r)) ∧ H' = H0) noE := by
  refine id (TCall.body Try.func30 rfl rfl ?_)
  have hH : Holds H0 [] H0 := rfl
  refine WpC.seqR ?_
  refine WpOps.pn 1 rfl trivial ?_
  refine WpOps.nil ?_
  refine WpC.seq ?_
  refine WpC.seqR ?_
  refine WpOps.pn 1 rfl trivial ?_
  refine WpOps.nil ?_
  refine WpC.blockK (fun x : (Unit) × (Unit) => [(0, (AV.rows 2 (List.map cGFile files_1))), (1, (AV.rows 4 (List.map cGEdit l_1)))]) (fun x H' => ((emendref20_join_j1 J) files_1 l_1) x.1 = some r ∧ Holds H0 [] H') ?_ ?_
  ·
    obtain ⟨o_1, ho_1, hk_1⟩ := Sh.bind_some h
    refine WpC.loopS ((emendref20_join_b2 J) files_1 l_1) (fun (s : Int) (a : Unit) => [(0, (AV.rows 2 (List.map cGFile files_1))), (1, (AV.rows 4 (List.map cGEdit l_1))), (5, (iA s))]) (fun (s : Int) (a : Unit) H' => Holds H0 [] H') o_1 (1 : Int) () ho_1 ⟨rfl, rfl, rfl, trivial⟩ hH ?_
    rintro i_1 _ st_1 env H' h hd_1 hH
    refine WpC.seq ?_
    refine WpC.seqR ?_
    refine WpOps.pn 3 rfl trivial ?_
    refine WpOps.at 12 (len_map _ _) ?_
    refine WpOps.pn 1 rfl trivial ?_
    refine WpOps.nil ?_
    refine WpC.condB rfl (fun hb => ?_) (fun hb => ?_)
    ·
      replace h := Sh.ite_pos hb h
      refine WpC.skipD ?_
      refine ⟨_, Heap.le_refl _, ?_⟩
      refine WpC.seq ?_
      refine WpC.block ?_
      refine WpC.seqD [] [0, 1, 2, 3, 4, 5, 6, 7, 8, 9, 10, 11, 12, 13, 14, 15, 16, 17, 18, 19, 20, 21, 22, 23, 24, 25] (by kernel_rfl) (by kernel_rfl) ?_
      obtain ⟨c_1, h⟩ := Sh.chk_some h
      obtain ⟨y_1, hy_1, h⟩ := Sh.bind_some h
      refine WpPi.pn 3 rfl c_1 ?_
      refine WpPi.consI (v := (.rop (cGEdit y_1))) rfl rfl rfl rfl (fun _ => Exact.ixr cGEdit hy_1 rfl rfl rfl rfl (by kernel_rfl) (by decide)) ?_
      refine WpPi.pn 1 rfl trivial ?_
      refine WpPi.consI (v := (iA y_1.file_)) rfl rfl rfl rfl (fun _ => Exact.load_rop rfl rfl rfl) ?_
      obtain ⟨y_2, hy_2, h⟩ := Sh.bind_some h
      refine WpPi.pn 2 rfl trivial ?_
      refine WpPi.consI (v := (.rop (cGEdit y_2))) rfl rfl rfl rfl (fun _ => Exact.ixr cGEdit hy_2 rfl rfl rfl rfl (by kernel_rfl) (by decide)) ?_
      refine WpPi.pn 1 rfl trivial ?_
      refine WpPi.consI (v := (iA y_2.file_)) rfl rfl rfl rfl (fun _ => Exact.load_rop rfl rfl rfl) ?_
      refine WpPi.pn 1 rfl trivial ?_
      obtain ⟨b_1, g_1, h⟩ := Sh.bind_some h
      refine WpPi.cutB 14 41 (bA b_1) rfl ?_ ?_
      ·
        refine WpPi.pn 1 rfl trivial ?_
        refine WpPi.split 28 rfl (fun hb => ?_) (fun hb => ?_)
        ·
          replace g_1 := Sh.ite_pos hb g_1
          obtain ⟨c_2, g_1⟩ := Sh.chk_some g_1
          obtain ⟨y_3, hy_3, g_1⟩ := Sh.bind_some g_1
          refine WpPi.pn 3 rfl c_2 ?_
          refine WpPi.consI (v := (.rop (cGEdit y_3))) rfl rfl rfl rfl (fun _ => Exact.ixr cGEdit hy_3 rfl rfl rfl rfl (by kernel_rfl) (by decide)) ?_
          refine WpPi.pn 1 rfl trivial ?_
          refine WpPi.consI (v := (iA y_3.to)) rfl rfl rfl rfl (fun _ => Exact.load_rop rfl rfl rfl) ?_
          obtain ⟨y_4, hy_4, g_1⟩ := Sh.bind_some g_1
          refine WpPi.pn 2 rfl trivial ?_
          refine WpPi.consI (v := (.rop (cGEdit y_4))) rfl rfl rfl rfl (fun _ => Exact.ixr cGEdit hy_4 rfl rfl rfl rfl (by kernel_rfl) (by decide)) ?_
          refine WpPi.pn 1 rfl trivial ?_
          refine WpPi.consI (v := (iA y_4.from_)) rfl rfl rfl rfl (fun _ => Exact.load_rop rfl rfl rfl) ?_
          refine WpPi.pn 2 rfl trivial ?_
          refine WpPi.nil ?_
          obtain rfl := Sh.some_inj g_1
          exact ⟨rfl, rfl⟩
        ·
          replace g_1 := Sh.ite_neg hb g_1
          refine WpPi.pn 3 rfl trivial ?_
          refine WpPi.skip rfl rfl rfl ?_
          refine WpPi.pn 1 rfl trivial ?_
          refine WpPi.skip rfl rfl rfl ?_
          refine WpPi.pn 2 rfl trivial ?_
          refine WpPi.skip rfl rfl rfl ?_
          refine WpPi.pn 1 rfl trivial ?_
          refine WpPi.skip rfl rfl rfl ?_
          refine WpPi.pn 2 rfl trivial ?_
          refine WpPi.nil ?_
          obtain rfl := Sh.some_inj g_1
          exact ⟨rfl, rfl⟩
      intro env
      refine WpPi.nil ?_
      refine WpC.condB rfl (fun hb => ?_) (fun hb => ?_)
      ·
        replace h := Sh.ite_pos hb h
        refine WpC.seqDI (fun H => True) [.I, .I, .I, .I, .I, .I, .I, .I, .I, .I, .I, .I, .I, .I, .I, .I, .I, .I, .I, .I, .I, .I, .I, .I, .I, .I, .I, .I, .I, .E, .E] [0, 1, 2, 3, 4, 5, 6, 7, 8, 9, 10, 11, 12, 13, 14, 15, 16, 17, 18, 19, 20, 21, 22, 23, 24, 25, 26, 27, 28, 29, 30] (by kernel_rfl) (by kernel_rfl) trivial ?_
        obtain ⟨y_5, hy_5, h⟩ := Sh.bind_some h
        refine WpPi.pn 2 rfl trivial ?_
        refine WpPi.consI (v := (.rop (cGEdit y_5))) rfl rfl rfl rfl (fun _ => Exact.ixr cGEdit hy_5 rfl rfl rfl rfl (by kernel_rfl) (by decide)) ?_
        refine WpPi.pn 1 rfl trivial ?_
        refine WpPi.consI (v := (iA y_5.file_)) rfl rfl rfl rfl (fun _ => Exact.load_rop rfl rfl rfl) ?_
        obtain ⟨c_3, h⟩ := Sh.chk_some h
        obtain ⟨y_6, hy_6, h⟩ := Sh.bind_some h
        refine WpPi.pn 3 rfl c_3 ?_
        refine WpPi.consI (v := (.rop (cGEdit y_6))) rfl rfl rfl rfl (fun _ => Exact.ixr cGEdit hy_6 rfl rfl rfl rfl (by kernel_rfl) (by decide)) ?_
        refine WpPi.pn 1 rfl trivial ?_
        refine WpPi.consI (v := (iA y_6.from_)) rfl rfl rfl rfl (fun _ => Exact.load_rop rfl rfl rfl) ?_
        obtain ⟨y_7, hy_7, h⟩ := Sh.bind_some h
        refine WpPi.pn 2 rfl trivial ?_
        refine WpPi.consI (v := (.rop (cGEdit y_7))) rfl rfl rfl rfl (fun _ => Exact.ixr cGEdit hy_7 rfl rfl rfl rfl (by kernel_rfl) (by decide)) ?_
        refine WpPi.pn 1 rfl trivial ?_
        refine WpPi.consI (v := (iA y_7.to)) rfl rfl rfl rfl (fun _ => Exact.load_rop rfl rfl rfl) ?_
        obtain ⟨c_4, h⟩ := Sh.chk_some h
        obtain ⟨y_8, hy_8, h⟩ := Sh.bind_some h
        refine WpPi.pn 3 rfl c_4 ?_
        refine WpPi.consI (v := (.rop (cGEdit y_8))) rfl rfl rfl rfl (fun _ => Exact.ixr cGEdit hy_8 rfl rfl rfl rfl (by kernel_rfl) (by decide)) ?_
        refine WpPi.pn 1 rfl trivial ?_
        refine WpPi.consI (v := (sA y_8.text)) rfl rfl rfl rfl (fun _ => Exact.load_rop rfl rfl rfl) ?_
        obtain ⟨y_9, hy_9, h⟩ := Sh.bind_some h
        refine WpPi.pn 2 rfl trivial ?_
        refine WpPi.consI (v := (.rop (cGEdit y_9))) rfl rfl rfl rfl (fun _ => Exact.ixr cGEdit hy_9 rfl rfl rfl rfl (by kernel_rfl) (by decide)) ?_
        refine WpPi.pn 1 rfl trivial ?_
        refine WpPi.consI (v := (sA y_9.text)) rfl rfl rfl rfl (fun _ => Exact.load_rop rfl rfl rfl) ?_
        obtain ⟨c_5, h⟩ := Sh.chk_some h
        refine WpPi.pn 2 rfl c_5 ?_
        refine WpPi.consF rfl rfl rfl rfl (WpO.allocT (z := cGEdit (GEdit.mk (0 : Int) (0 : Int) (0 : Int) ([] : List UInt8))) rfl rfl hH fun g_2 H' hH => ⟨trivial, ?_⟩)
        refine WpPi.consF rfl rfl rfl rfl (WpO.putT (cs' := (cGEdit (GEdit.mk y_5.file_ y_6.from_ y_7.to (y_8.text ++ y_9.text)))) (v := (AV.agg (cGEdit (GEdit.mk y_5.file_ y_6.from_ y_7.to (y_8.text ++ y_9.text))))) rfl rfl hH (i := 0) rfl rfl rfl rfl rfl rfl rfl fun H' hH => ⟨trivial, ?_⟩)
        refine WpPi.nil ?_
        refine WpC.seqD [.S, .E, .I, .I, .I, .I, .E] [0, 2, 3, 4, 5, 1, 6, 7] (by kernel_rfl) (by kernel_rfl) ?_
        refine WpPi.consS (v := (AV.agg (cGEdit (GEdit.mk y_5.file_ y_6.from_ y_7.to (y_8.text ++ y_9.text))))) rfl rfl rfl rfl (Exact.load rfl rfl (hH.cell (i := 0) rfl) rfl rfl) ?_
        obtain ⟨c_6, h⟩ := Sh.chk_some h
        obtain ⟨c_7, h⟩ := Sh.chk_some h
        refine WpPi.pn 3 rfl c_6 ?_
        refine WpPi.pn 1 rfl (show 0 ≤ (i_1 + (1 : Int)) ∧ True ∧ True ∧ ((i_1 + (1 : Int))).toNat ≤ (List.map cGEdit l_1).length ∧ True from ⟨(by omega), trivial, trivial, (by simp only [List.length_map]; omega), trivial⟩) ?_
        refine WpPi.at 76 (rows_drop 4 cGEdit l_1 _) ?_
        refine WpPi.consE rfl rfl rfl rfl (WpO.litT (size := 4) cGEdit ([(GEdit.mk y_5.file_ y_6.from_ y_7.to (y_8.text ++ y_9.text))] : List GEdit) rfl rfl (by kernel_rfl) rfl hH fun g_3 H' hH => ?_)
        obtain ⟨c_8, h⟩ := Sh.chk_some h
        refine WpPi.consE rfl rfl rfl rfl (WpO.pushS cGEdit ([(GEdit.mk y_5.file_ y_6.from_ y_7.to (y_8.text ++ y_9.text))] : List GEdit) (l_1.drop ((i_1 + (1 : Int))).toNat) (i := 0) rfl ek23 hH rfl rfl rfl (.rows _) (fun y _ => one_cGEdit y) c_8 (by decide) fun g_4 cp_1 H' hH => ?_)
        refine WpPi.pn 1 rfl trivial ?_
        refine WpPi.nil ?_
        refine WpC.freeze (t := 7) (i := 0) hH rfl rfl (fun H' hH => ?_)
        refine WpC.seqR ?_
        refine WpOps.pn 1 rfl trivial ?_
        refine WpOps.consG rfl rfl (WpO.litT (size := 4) cGEdit ([] : List GEdit) rfl rfl (by kernel_rfl) rfl hH fun g_5 H' hH => ?_)
        obtain ⟨c_9, h⟩ := Sh.chk_some h
        obtain ⟨c_10, h⟩ := Sh.chk_some h
        refine WpOps.pn 3 rfl c_9 ?_
        refine WpOps.pn 1 rfl (show True ∧ 0 ≤ (i_1 - (1 : Int)) ∧ True ∧ ((i_1 - (1 : Int))).toNat ≤ (List.map cGEdit l_1).length ∧ True from ⟨trivial, (by omega), trivial, (by simp only [List.length_map]; omega), trivial⟩) ?_
        refine WpOps.at 83 (rows_take 4 cGEdit l_1 _) ?_
        obtain ⟨c_11, h⟩ := Sh.chk_some h
        refine WpOps.consG rfl rfl (WpO.pushS cGEdit ([] : List GEdit) (l_1.take ((i_1 - (1 : Int))).toNat) (i := 0) rfl ek23 hH rfl rfl rfl (.rows _) (fun y _ => one_cGEdit y) c_11 (by decide) fun g_6 cp_2 H' hH => ?_)
        obtain ⟨c_12, h⟩ := Sh.chk_some h
        refine WpOps.pn 1 rfl trivial ?_
        refine WpOps.consG rfl rfl (WpO.pushS cGEdit (([] : List GEdit) ++ (l_1.take ((i_1 - (1 : Int))).toNat)) (([(GEdit.mk y_5.file_ y_6.from_ y_7.to (y_8.text ++ y_9.text))] : List GEdit) ++ (l_1.drop ((i_1 + (1 : Int))).toNat)) (i := 0) rfl ek23 hH rfl rfl rfl (.rows _) (fun y _ => one_cGEdit y) c_12 (by decide) fun g_7 cp_3 H' hH => ?_)
        obtain ⟨r_1, hr_1, h⟩ := Sh.bind_some h
        refine WpOps.consG rfl rfl (WpO.thawT (t := 86) (i := 0) (v := (AV.rows 4 (List.map cGEdit r_1))) hH rfl rfl (fun H' hH => ⟨Exact.call rfl rfl rfl (wJ hr_1), ?_⟩))
        refine WpOps.pn 1 rfl trivial ?_
        refine WpOps.nil ?_
        refine WpC.lose (i := 0) hH rfl (fun H' hH => ?_)
        obtain rfl := Sh.some_inj h
        have e := hd_1 _ rfl
        subst e
        have h := hk_1
        obtain rfl := Sh.some_inj h
        refine WpC.ret ?_
        exact VEnds.ret1 rfl rfl ⟨rfl, hH⟩
      ·
        replace h := Sh.ite_neg hb h
        refine WpC.skipD ?_
        refine ⟨_, Heap.le_refl _, ?_⟩
        refine WpC.regionD ?_
        obtain ⟨c_13, h⟩ := Sh.chk_some h
        refine WpOps.pn 3 rfl c_13 ?_
        refine WpOps.nil ?_
        obtain rfl := Sh.some_inj h
        exact ⟨_, (Heap.le_refl _), (i_1 + (1 : Int)), (), rfl, ⟨rfl, rfl, rfl, trivial⟩, hH⟩
    ·
      replace h := Sh.ite_neg hb h
      obtain rfl := Sh.some_inj h
      have e := hd_1 _ rfl
      subst e
      refine WpC.exit ?_
      exact ⟨((), ()), ⟨rfl, rfl, trivial⟩, hk_1, hH⟩
  ·
    rintro ⟨_, _⟩ env H' ⟨h, hH⟩
    try dsimp only at h
    refine ⟨_, Heap.le_refl _, ?_⟩
    refine WpC.seqR ?_
    refine WpOps.pn 1 rfl trivial ?_
    have hH := hH.nil 34 4
    refine WpOps.nil ?_
    refine WpC.seq ?_
    refine WpC.seqR ?_
    refine WpOps.pn 1 rfl trivial ?_
    refine WpOps.nil ?_
    refine WpC.blockK (fun x : (List GEdit) × ((Option (Nat × Nat))) => [(8, (.own (List.map cGEdit x.1).length x.2))]) (fun x H' => (emendref20_join_j3 J) x.1 = some r ∧ Holds H0 [.own 34 4 x.2 (List.map cGEdit x.1)] H') ?_ ?_
    ·
      obtain ⟨o_2, ho_2, hk_2⟩ := Sh.bind_some h
      refine WpC.loopS ((emendref20_join_b4 J) files_1 l_1) (fun (s : Int × List GEdit) (a : (Option (Nat × Nat))) => [(0, (AV.rows 2 (List.map cGFile files_1))), (1, (AV.rows 4 (List.map cGEdit l_1))), (8, (.own (List.map cGEdit s.2).length a)), (9, (iA s.1))]) (fun (s : Int × List GEdit) (a : (Option (Nat × Nat))) H' => Holds H0 [.own 34 4 a (List.map cGEdit s.2)] H') o_2 ((0 : Int), ([] : List GEdit)) none ho_2 ⟨rfl, rfl, rfl, rfl, trivial⟩ hH ?_
      rintro ⟨i_2, out_1⟩ p_1 st_2 env H' h hd_2 hH
      refine WpC.seq ?_
      refine WpC.seqR ?_
      refine WpOps.pn 3 rfl trivial ?_
      refine WpOps.at 90 (len_map _ _) ?_
      refine WpOps.pn 1 rfl trivial ?_
      refine WpOps.nil ?_
      refine WpC.condB rfl (fun hb => ?_) (fun hb => ?_)
      ·
        replace h := Sh.ite_pos hb h
        refine WpC.skipD ?_
        refine ⟨_, Heap.le_refl _, ?_⟩
        refine WpC.seq ?_
        refine WpC.block ?_
        refine WpC.seqD [] [0, 1, 2, 3, 4, 5, 6, 7, 8, 9, 10, 11, 12, 13, 14, 15, 16, 17, 18, 19, 20, 21, 22, 23, 24, 25] (by kernel_rfl) (by kernel_rfl) ?_
        obtain ⟨y_10, hy_10, h⟩ := Sh.bind_some h
        refine WpPi.pn 3 rfl trivial ?_
        refine WpPi.consI (v := (.rop (cGEdit y_10))) rfl rfl rfl rfl (fun _ => Exact.ixr cGEdit hy_10 rfl rfl rfl rfl (by kernel_rfl) (by decide)) ?_
        refine WpPi.pn 1 rfl trivial ?_
        refine WpPi.consI (v := (iA y_10.file_)) rfl rfl rfl rfl (fun _ => Exact.load_rop rfl rfl rfl) ?_
        obtain ⟨y_11, hy_11, h⟩ := Sh.bind_some h
        refine WpPi.consI (v := (.rop (cGFile y_11))) rfl rfl rfl rfl (fun _ => Exact.ixr cGFile hy_11 rfl rfl rfl rfl (by kernel_rfl) (by decide)) ?_
        refine WpPi.pn 1 rfl trivial ?_
        refine WpPi.consI (v := (sA y_11.text)) rfl rfl rfl rfl (fun _ => Exact.load_rop rfl rfl rfl) ?_
        obtain ⟨y_12, hy_12, h⟩ := Sh.bind_some h
        refine WpPi.pn 2 rfl trivial ?_
        refine WpPi.consI (v := (.rop (cGEdit y_12))) rfl rfl rfl rfl (fun _ => Exact.ixr cGEdit hy_12 rfl rfl rfl rfl (by kernel_rfl) (by decide)) ?_
        refine WpPi.pn 1 rfl trivial ?_
        refine WpPi.consI (v := (iA y_12.from_)) rfl rfl rfl rfl (fun _ => Exact.load_rop rfl rfl rfl) ?_
        obtain ⟨y_13, hy_13, h⟩ := Sh.bind_some h
        refine WpPi.pn 2 rfl trivial ?_
        refine WpPi.consI (v := (.rop (cGEdit y_13))) rfl rfl rfl rfl (fun _ => Exact.ixr cGEdit hy_13 rfl rfl rfl rfl (by kernel_rfl) (by decide)) ?_
        refine WpPi.pn 1 rfl trivial ?_
        refine WpPi.consI (v := (iA y_13.to)) rfl rfl rfl rfl (fun _ => Exact.load_rop rfl rfl rfl) ?_
        obtain ⟨c_14, h⟩ := Sh.chk_some h
        refine WpPi.pn 1 rfl (show 0 ≤ y_12.from_ ∧ 0 ≤ y_13.to ∧ ((y_12.from_).toNat ≤ (y_13.to).toNat ∧ (y_13.to).toNat ≤ y_11.text.length) from ⟨(by omega), (by omega), (by omega)⟩) ?_
        obtain ⟨y_14, hy_14, h⟩ := Sh.bind_some h
        refine WpPi.pn 2 rfl trivial ?_
        refine WpPi.consI (v := (.rop (cGEdit y_14))) rfl rfl rfl rfl (fun _ => Exact.ixr cGEdit hy_14 rfl rfl rfl rfl (by kernel_rfl) (by decide)) ?_
        refine WpPi.pn 1 rfl trivial ?_
        refine WpPi.consI (v := (sA y_14.text)) rfl rfl rfl rfl (fun _ => Exact.load_rop rfl rfl rfl) ?_
        refine WpPi.pn 1 rfl trivial ?_
        refine WpPi.nil ?_
        refine WpC.condB rfl (fun hb => ?_) (fun hb => ?_)
        ·
          replace h := Sh.ite_pos hb h
          refine WpC.regionD ?_
          obtain ⟨y_15, hy_15, h⟩ := Sh.bind_some h
          refine WpOps.pn 3 rfl trivial ?_
          refine WpOps.consE (v := (.rop (cGEdit y_15))) rfl rfl (Exact.ixr cGEdit hy_15 rfl rfl rfl rfl (by kernel_rfl) (by decide)) ?_
          refine WpOps.consE (v := (AV.agg (cGEdit y_15))) rfl rfl (Exact.load_rop rfl rfl rfl) ?_
          refine WpOps.consE (v := (AV.rows 4 (List.map cGEdit ([y_15] : List GEdit)))) rfl rfl (Exact.litSlice rfl (by kernel_rfl)) ?_
          obtain ⟨c_15, h⟩ := Sh.chk_some h
          refine WpOps.consG rfl rfl (WpO.pushT cGEdit out_1 ([y_15] : List GEdit) (i := 0) rfl ek23 hH rfl rfl rfl (.rows _) (fun y _ => one_cGEdit y) (by simp) c_15 (by decide) fun p_2 H' hH => ?_)
          refine WpOps.pn 1 rfl trivial ?_
          refine WpOps.nil ?_
          refine ⟨_, Heap.le_refl _, ?_⟩
          refine WpC.regionD ?_
          obtain ⟨c_16, h⟩ := Sh.chk_some h
          refine WpOps.pn 3 rfl c_16 ?_
          refine WpOps.nil ?_
          obtain rfl := Sh.some_inj h
          exact ⟨_, (Heap.le_refl _), ((i_2 + (1 : Int)), (out_1 ++ ([y_15] : List GEdit))), p_2, rfl, ⟨rfl, rfl, rfl, rfl, trivial⟩, hH⟩
        ·
          replace h := Sh.ite_neg hb h
          refine WpC.skipD ?_
          refine ⟨_, Heap.le_refl _, ?_⟩
          refine WpC.regionD ?_
          obtain ⟨c_17, h⟩ := Sh.chk_some h
          refine WpOps.pn 3 rfl c_17 ?_
          refine WpOps.nil ?_
          obtain rfl := Sh.some_inj h
          exact ⟨_, (Heap.le_refl _), ((i_2 + (1 : Int)), out_1), p_1, rfl, ⟨rfl, rfl, rfl, rfl, trivial⟩, hH⟩
      ·
        replace h := Sh.ite_neg hb h
        obtain rfl := Sh.some_inj h
        have e := hd_2 _ rfl
        subst e
        refine WpC.exit ?_
        exact ⟨(out_1, p_1), ⟨rfl, trivial⟩, hk_2, hH⟩
    ·
      rintro ⟨out_2, p_3⟩ env H' ⟨h, hH⟩
      try dsimp only at h
      refine ⟨_, Heap.le_refl _, ?_⟩
      refine WpC.seqR ?_
      refine WpOps.pn 2 rfl trivial ?_
      refine WpOps.nil ?_
      refine WpC.freeze (t := 4) (i := 0) hH rfl rfl (fun H' hH => ?_)
      obtain rfl := Sh.some_inj h
      refine WpC.ret ?_
      exact VEnds.ret1 rfl rfl ⟨rfl, hH⟩
theorem w_emendref20_joinN : ∀ (n : Nat) {H0 : Heap} {f : List GFile} {l r : List GEdit}, emendref20_joinN n f l = some r → TCall Try.prog 30 [(AV.rows 2 (List.map cGFile f)), (AV.rows 4 (List.map cGEdit l))] H0 (fun v H' => v = (AV.rows 4 (List.map cGEdit r)) ∧ H' = H0) noE
  | 0, _, _, _, _, h => by cases h
  | n + 1, _, _, _, _, h => w_emendref20_joinF (J := emendref20_joinN n) (fun h => w_emendref20_joinN n h) h
theorem w_emendref20_join {H0 : Heap} {f : List GFile} {l r : List GEdit} (h : emendref20_join f l = some r) : TCall Try.prog 30 [(AV.rows 2 (List.map cGFile f)), (AV.rows 4 (List.map cGEdit l))] H0 (fun v H' => v = (AV.rows 4 (List.map cGEdit r)) ∧ H' = H0) noE := w_emendref20_joinN _ h

theorem w_emendref20_Normal {H0 : Heap} {files_1 : List GFile} {l_1 : List GEdit} {r : List GEdit × Int} (h : emendref20_Normal files_1 l_1 = some r) : TCall Try.prog 13 [(AV.rows 2 (List.map cGFile files_1)), (AV.rows 4 (List.map cGEdit l_1))] H0 (fun v H' => v = (.tup [(AV.rows 4 (List.map cGEdit r.1)), (iA r.2)]) ∧ H' = H0) noE := by
  refine id (TCall.body Try.func13 rfl rfl ?_)
  have hH : Holds H0 [] H0 := rfl
  refine WpC.seqR ?_
  refine WpOps.pn 2 rfl trivial ?_
  refine WpOps.nil ?_
  refine WpC.seq ?_
  refine WpC.seqR ?_
  refine WpOps.pn 1 rfl trivial ?_
  refine WpOps.nil ?_
  refine WpC.blockK (fun x : (Unit) × (Unit) => [(0, (AV.rows 2 (List.map cGFile files_1))), (1, (AV.rows 4 (List.map cGEdit l_1)))]) (fun x H' => (emendref20_Normal_j1 files_1 l_1) x.1 = some r ∧ Holds H0 [] H') ?_ ?_
  ·
    obtain ⟨o_1, ho_1, hk_1⟩ := Sh.bind_some h
    refine WpC.loopS (emendref20_Normal_b2 files_1 l_1) (fun (s : Int) (a : Unit) => [(0, (AV.rows 2 (List.map cGFile files_1))), (1, (AV.rows 4 (List.map cGEdit l_1))), (6, (iA s))]) (fun (s : Int) (a : Unit) H' => Holds H0 [] H') o_1 (0 : Int) () ho_1 ⟨rfl, rfl, rfl, trivial⟩ hH ?_
    rintro i_1 _ st_1 env H' h hd_1 hH
    refine WpC.seq ?_
    refine WpC.seqR ?_
    refine WpOps.pn 3 rfl trivial ?_
    refine WpOps.at 19 (len_map _ _) ?_
    refine WpOps.pn 1 rfl trivial ?_
    refine WpOps.nil ?_
    refine WpC.condB rfl (fun hb => ?_) (fun hb => ?_)
    ·
      replace h := Sh.ite_pos hb h
      refine WpC.skipD ?_
      refine ⟨_, Heap.le_refl _, ?_⟩
      refine WpC.seq ?_
      refine WpC.block ?_
      refine WpC.seqR ?_
      obtain ⟨y_1, hy_1, h⟩ := Sh.bind_some h
      refine WpOps.pn 3 rfl trivial ?_
      refine WpOps.consE (v := (.rop (cGEdit y_1))) rfl rfl (Exact.ixr cGEdit hy_1 rfl rfl rfl rfl (by kernel_rfl) (by decide)) ?_
      refine WpOps.consE (v := (AV.agg (cGEdit y_1))) rfl rfl (Exact.load_rop rfl rfl rfl) ?_
      obtain ⟨r_1, hr_1, h⟩ := Sh.bind_some h
      refine WpOps.consE (v := (bA r_1)) rfl rfl (Exact.call rfl rfl rfl (w_emendref20_Right hr_1)) ?_
      refine WpOps.pn 1 rfl trivial ?_
      refine WpOps.nil ?_
      refine WpC.seqR ?_
      refine WpOps.pn 2 rfl trivial ?_
      refine WpOps.nil ?_
      refine WpC.condB rfl (fun hb => ?_) (fun hb => ?_)
      ·
        replace h := Sh.ite_pos hb h
        refine WpC.seqR ?_
        refine WpOps.pn 2 rfl trivial ?_
        refine WpOps.nil ?_
        refine WpC.sub (t := 4) (Sub.nil 4) ?_
        obtain rfl := Sh.some_inj h
        have e := hd_1 _ rfl
        subst e
        have h := hk_1
        obtain rfl := Sh.some_inj h
        refine WpC.ret ?_
        exact VEnds.ret2 rfl rfl rfl ⟨rfl, hH⟩
      ·
        replace h := Sh.ite_neg hb h
        refine WpC.skipD ?_
        refine ⟨_, Heap.le_refl _, ?_⟩
        refine WpC.regionD ?_
        obtain ⟨c_1, h⟩ := Sh.chk_some h
        refine WpOps.pn 3 rfl c_1 ?_
        refine WpOps.nil ?_
        obtain rfl := Sh.some_inj h
        exact ⟨_, (Heap.le_refl _), (i_1 + (1 : Int)), (), rfl, ⟨rfl, rfl, rfl, trivial⟩, hH⟩
    ·
      replace h := Sh.ite_neg hb h
      obtain rfl := Sh.some_inj h
      have e := hd_1 _ rfl
      subst e
      refine WpC.exit ?_
      exact ⟨((), ()), ⟨rfl, rfl, trivial⟩, hk_1, hH⟩
  ·
    rintro ⟨_, _⟩ env H' ⟨h, hH⟩
    try dsimp only at h
    refine ⟨_, Heap.le_refl _, ?_⟩
    refine WpC.seq ?_
    refine WpC.seqR ?_
    refine WpOps.pn 1 rfl trivial ?_
    refine WpOps.nil ?_
    refine WpC.blockK (fun x : (Unit) × (Unit) => [(0, (AV.rows 2 (List.map cGFile files_1))), (1, (AV.rows 4 (List.map cGEdit l_1)))]) (fun x H' => (emendref20_Normal_j3 files_1 l_1) x.1 = some r ∧ Holds H0 [] H') ?_ ?_
    ·
      obtain ⟨o_2, ho_2, hk_2⟩ := Sh.bind_some h
      refine WpC.loopS (emendref20_Normal_b4 l_1) (fun (s : Int) (a : Unit) => [(0, (AV.rows 2 (List.map cGFile files_1))), (1, (AV.rows 4 (List.map cGEdit l_1))), (8, (iA s))]) (fun (s : Int) (a : Unit) H' => Holds H0 [] H') o_2 (0 : Int) () ho_2 ⟨rfl, rfl, rfl, trivial⟩ hH ?_
      rintro i_2 _ st_2 env H' h hd_2 hH
      refine WpC.seq ?_
      refine WpC.seqR ?_
      refine WpOps.pn 3 rfl trivial ?_
      refine WpOps.at 33 (len_map _ _) ?_
      refine WpOps.pn 1 rfl trivial ?_
      refine WpOps.nil ?_
      refine WpC.condB rfl (fun hb => ?_) (fun hb => ?_)
      ·
        replace h := Sh.ite_pos hb h
        refine WpC.skipD ?_
        refine ⟨_, Heap.le_refl _, ?_⟩
        refine WpC.seq ?_
        refine WpC.block ?_
        refine WpC.seqR ?_
        refine WpOps.pn 1 rfl trivial ?_
        refine WpOps.nil ?_
        refine WpC.blockK (fun x : (Unit) × (Unit) => [(0, (AV.rows 2 (List.map cGFile files_1))), (1, (AV.rows 4 (List.map cGEdit l_1))), (8, (iA i_2))]) (fun x H' => (emendref20_Normal_j5 i_2) x.1 = some st_2 ∧ Holds H0 [] H') ?_ ?_
        ·
          obtain ⟨o_3, ho_3, hk_3⟩ := Sh.bind_some h
          refine WpC.loopS (emendref20_Normal_b6 l_1 i_2) (fun (s : Int) (a : Unit) => [(0, (AV.rows 2 (List.map cGFile files_1))), (1, (AV.rows 4 (List.map cGEdit l_1))), (8, (iA i_2)), (9, (iA s))]) (fun (s : Int) (a : Unit) H' => Holds H0 [] H') o_3 (0 : Int) () ho_3 ⟨rfl, rfl, rfl, rfl, trivial⟩ hH ?_
          rintro k_1 _ st_3 env H' h hd_3 hH
          refine WpC.seq ?_
          refine WpC.seqR ?_
          refine WpOps.pn 3 rfl trivial ?_
          refine WpOps.nil ?_
          refine WpC.condB rfl (fun hb => ?_) (fun hb => ?_)
          ·
            replace h := Sh.ite_pos hb h
            refine WpC.skipD ?_
            refine ⟨_, Heap.le_refl _, ?_⟩
            refine WpC.seq ?_
            refine WpC.block ?_
            refine WpC.seqD [] [0, 1, 2, 3, 4, 5, 6, 7, 8, 9] (by kernel_rfl) (by kernel_rfl) ?_
            obtain ⟨y_2, hy_2, h⟩ := Sh.bind_some h
            refine WpPi.pn 2 rfl trivial ?_
            refine WpPi.consI (v := (.rop (cGEdit y_2))) rfl rfl rfl rfl (fun _ => Exact.ixr cGEdit hy_2 rfl rfl rfl rfl (by kernel_rfl) (by decide)) ?_
            refine WpPi.consI (v := (AV.agg (cGEdit y_2))) rfl rfl rfl rfl (fun _ => Exact.load_rop rfl rfl rfl) ?_
            obtain ⟨y_3, hy_3, h⟩ := Sh.bind_some h
            refine WpPi.pn 2 rfl trivial ?_
            refine WpPi.consI (v := (.rop (cGEdit y_3))) rfl rfl rfl rfl (fun _ => Exact.ixr cGEdit hy_3 rfl rfl rfl rfl (by kernel_rfl) (by decide)) ?_
            refine WpPi.consI (v := (AV.agg (cGEdit y_3))) rfl rfl rfl rfl (fun _ => Exact.load_rop rfl rfl rfl) ?_
            obtain ⟨r_2, hr_2, h⟩ := Sh.bind_some h
            refine WpPi.consI (v := (bA r_2)) rfl rfl rfl rfl (fun _ => Exact.call rfl rfl rfl (w_emendref20_Over hr_2)) ?_
            refine WpPi.pn 1 rfl trivial ?_
            refine WpPi.nil ?_
            refine WpC.seqR ?_
            refine WpOps.pn 1 rfl trivial ?_
            refine WpOps.nil ?_
            refine WpC.condB rfl (fun hb => ?_) (fun hb => ?_)
            ·
              replace h := Sh.ite_pos hb h
              refine WpC.seqR ?_
              refine WpOps.pn 2 rfl trivial ?_
              refine WpOps.nil ?_
              refine WpC.sub (t := 4) (Sub.nil 4) ?_
              obtain rfl := Sh.some_inj h
              have e := hd_3 _ rfl
              subst e
              have h := hk_3
              obtain rfl := Sh.some_inj h
              have e := hd_2 _ rfl
              subst e
              have h := hk_2
              obtain rfl := Sh.some_inj h
              refine WpC.ret ?_
              exact VEnds.ret2 rfl rfl rfl ⟨rfl, hH⟩
            ·
              replace h := Sh.ite_neg hb h
              refine WpC.skipD ?_
              refine ⟨_, Heap.le_refl _, ?_⟩
              refine WpC.regionD ?_
              obtain ⟨c_2, h⟩ := Sh.chk_some h
              refine WpOps.pn 3 rfl c_2 ?_
              refine WpOps.nil ?_
              obtain rfl := Sh.some_inj h
              exact ⟨_, (Heap.le_refl _), (k_1 + (1 : Int)), (), rfl, ⟨rfl, rfl, rfl, rfl, trivial⟩, hH⟩
          ·
            replace h := Sh.ite_neg hb h
            obtain rfl := Sh.some_inj h
            have e := hd_3 _ rfl
            subst e
            refine WpC.exit ?_
            exact ⟨((), ()), ⟨rfl, rfl, rfl, trivial⟩, hk_3, hH⟩
        ·
          rintro ⟨_, _⟩ env H' ⟨h, hH⟩
          try dsimp only at h
          refine ⟨_, Heap.le_refl _, ?_⟩
          refine WpC.regionD ?_
          obtain ⟨c_3, h⟩ := Sh.chk_some h
          refine WpOps.pn 3 rfl c_3 ?_
          refine WpOps.nil ?_
          obtain rfl := Sh.some_inj h
          exact ⟨_, (Heap.le_refl _), (i_2 + (1 : Int)), (), rfl, ⟨rfl, rfl, rfl, trivial⟩, hH⟩
      ·
        replace h := Sh.ite_neg hb h
        obtain rfl := Sh.some_inj h
        have e := hd_2 _ rfl
        subst e
        refine WpC.exit ?_
        exact ⟨((), ()), ⟨rfl, rfl, trivial⟩, hk_2, hH⟩
    ·
      rintro ⟨_, _⟩ env H' ⟨h, hH⟩
      try dsimp only at h
      refine ⟨_, Heap.le_refl _, ?_⟩
      refine WpC.seqR ?_
      refine WpOps.pn 1 rfl trivial ?_
      have hH := hH.nil 34 4
      refine WpOps.nil ?_
      refine WpC.seq ?_
      refine WpC.seqR ?_
      refine WpOps.pn 1 rfl trivial ?_
      refine WpOps.nil ?_
      refine WpC.blockK (fun x : (List GEdit) × ((Option (Nat × Nat))) => [(0, (AV.rows 2 (List.map cGFile files_1))), (11, (.own (List.map cGEdit x.1).length x.2))]) (fun x H' => (emendref20_Normal_j7 files_1) x.1 = some r ∧ Holds H0 [.own 34 4 x.2 (List.map cGEdit x.1)] H') ?_ ?_
      ·
        obtain ⟨o_4, ho_4, hk_4⟩ := Sh.bind_some h
        refine WpC.loopS (emendref20_Normal_b8 files_1 l_1) (fun (s : Int × List GEdit) (a : (Option (Nat × Nat))) => [(0, (AV.rows 2 (List.map cGFile files_1))), (1, (AV.rows 4 (List.map cGEdit l_1))), (11, (.own (List.map cGEdit s.2).length a)), (12, (iA s.1))]) (fun (s : Int × List GEdit) (a : (Option (Nat × Nat))) H' => Holds H0 [.own 34 4 a (List.map cGEdit s.2)] H') o_4 ((0 : Int), ([] : List GEdit)) none ho_4 ⟨rfl, rfl, rfl, rfl, trivial⟩ hH ?_
        rintro ⟨n_1, out_1⟩ p_1 st_4 env H' h hd_4 hH
        refine WpC.seq ?_
        refine WpC.seqR ?_
        refine WpOps.pn 3 rfl trivial ?_
        refine WpOps.at 54 (len_map _ _) ?_
        refine WpOps.pn 1 rfl trivial ?_
        refine WpOps.nil ?_
        refine WpC.condB rfl (fun hb => ?_) (fun hb => ?_)
        ·
          replace h := Sh.ite_pos hb h
          refine WpC.skipD ?_
          refine ⟨_, Heap.le_refl _, ?_⟩
          refine WpC.seq ?_
          refine WpC.block ?_
          refine WpC.seqR ?_
          refine WpOps.pn 1 rfl trivial ?_
          refine WpOps.nil ?_
          refine WpC.blockK (fun x : (List GEdit) × ((Option (Nat × Nat))) => [(0, (AV.rows 2 (List.map cGFile files_1))), (1, (AV.rows 4 (List.map cGEdit l_1))), (11, (.own (List.map cGEdit x.1).length x.2)), (12, (iA n_1))]) (fun x H' => (emendref20_Normal_j9 n_1) x.1 = some st_4 ∧ Holds H0 [.own 34 4 x.2 (List.map cGEdit x.1)] H') ?_ ?_
          ·
            obtain ⟨o_5, ho_5, hk_5⟩ := Sh.bind_some h
            refine WpC.loopS (emendref20_Normal_b10 files_1 l_1 n_1) (fun (s : Int × List GEdit) (a : (Option (Nat × Nat))) => [(0, (AV.rows 2 (List.map cGFile files_1))), (1, (AV.rows 4 (List.map cGEdit l_1))), (11, (.own (List.map cGEdit s.2).length a)), (12, (iA n_1)), (13, (iA s.1))]) (fun (s : Int × List GEdit) (a : (Option (Nat × Nat))) H' => Holds H0 [.own 34 4 a (List.map cGEdit s.2)] H') o_5 ((0 : Int), out_1) p_1 ho_5 ⟨rfl, rfl, rfl, rfl, rfl, trivial⟩ hH ?_
            rintro ⟨i_3, out_2⟩ p_2 st_5 env H' h hd_5 hH
            refine WpC.seq ?_
            refine WpC.seqR ?_
            refine WpOps.pn 3 rfl trivial ?_
            refine WpOps.at 60 (len_map _ _) ?_
            refine WpOps.pn 1 rfl trivial ?_
            refine WpOps.nil ?_
            refine WpC.condB rfl (fun hb => ?_) (fun hb => ?_)
            ·
              replace h := Sh.ite_pos hb h
              refine WpC.skipD ?_
              refine ⟨_, Heap.le_refl _, ?_⟩
              refine WpC.seq ?_
              refine WpC.block ?_
              refine WpC.seqR ?_
              refine WpOps.pn 1 rfl trivial ?_
              refine WpOps.nil ?_
              refine WpC.seq ?_
              refine WpC.seqR ?_
              refine WpOps.pn 1 rfl trivial ?_
              refine WpOps.nil ?_
              refine WpC.blockK (fun x : (Int) × (Unit) => [(0, (AV.rows 2 (List.map cGFile files_1))), (1, (AV.rows 4 (List.map cGEdit l_1))), (11, (.own (List.map cGEdit out_2).length p_2)), (12, (iA n_1)), (13, (iA i_3)), (14, (iA x.1))]) (fun x H' => (emendref20_Normal_j11 files_1 l_1 n_1 i_3 out_2) x.1 = some st_5 ∧ Holds H0 [.own 34 4 p_2 (List.map cGEdit out_2)] H') ?_ ?_
              ·
                obtain ⟨o_6, ho_6, hk_6⟩ := Sh.bind_some h
                refine WpC.loopS (emendref20_Normal_b12 l_1 i_3) (fun (s : Int × Int) (a : Unit) => [(0, (AV.rows 2 (List.map cGFile files_1))), (1, (AV.rows 4 (List.map cGEdit l_1))), (11, (.own (List.map cGEdit out_2).length p_2)), (12, (iA n_1)), (13, (iA i_3)), (14, (iA s.1)), (15, (iA s.2))]) (fun (s : Int × Int) (a : Unit) H' => Holds H0 [.own 34 4 p_2 (List.map cGEdit out_2)] H') o_6 ((0 : Int), (0 : Int)) () ho_6 ⟨rfl, rfl, rfl, rfl, rfl, rfl, rfl, trivial⟩ hH ?_
                rintro ⟨ahead_1, k_2⟩ _ st_6 env H' h hd_6 hH
                refine WpC.seq ?_
                refine WpC.seqR ?_
                refine WpOps.pn 3 rfl trivial ?_
                refine WpOps.at 66 (len_map _ _) ?_
                refine WpOps.pn 1 rfl trivial ?_
                refine WpOps.nil ?_
                refine WpC.condB rfl (fun hb => ?_) (fun hb => ?_)
                ·
                  replace h := Sh.ite_pos hb h
                  refine WpC.skipD ?_
                  refine ⟨_, Heap.le_refl _, ?_⟩
                  refine WpC.seq ?_
                  refine WpC.block ?_
                  refine WpC.seqD [] [0, 1, 2, 3, 4, 5, 6, 7, 8, 9] (by kernel_rfl) (by kernel_rfl) ?_
                  obtain ⟨y_4, hy_4, h⟩ := Sh.bind_some h
                  refine WpPi.pn 2 rfl trivial ?_
                  refine WpPi.consI (v := (.rop (cGEdit y_4))) rfl rfl rfl rfl (fun _ => Exact.ixr cGEdit hy_4 rfl rfl rfl rfl (by kernel_rfl) (by decide)) ?_
                  refine WpPi.consI (v := (AV.agg (cGEdit y_4))) rfl rfl rfl rfl (fun _ => Exact.load_rop rfl rfl rfl) ?_
                  obtain ⟨y_5, hy_5, h⟩ := Sh.bind_some h
                  refine WpPi.pn 2 rfl trivial ?_
                  refine WpPi.consI (v := (.rop (cGEdit y_5))) rfl rfl rfl rfl (fun _ => Exact.ixr cGEdit hy_5 rfl rfl rfl rfl (by kernel_rfl) (by decide)) ?_
                  refine WpPi.consI (v := (AV.agg (cGEdit y_5))) rfl rfl rfl rfl (fun _ => Exact.load_rop rfl rfl rfl) ?_
                  obtain ⟨r_3, hr_3, h⟩ := Sh.bind_some h
                  refine WpPi.consI (v := (bA r_3)) rfl rfl rfl rfl (fun _ => Exact.call rfl rfl rfl (w_emendref20_before hr_3)) ?_
                  refine WpPi.pn 1 rfl trivial ?_
                  refine WpPi.nil ?_
                  refine WpC.seqR ?_
                  refine WpOps.pn 1 rfl trivial ?_
                  refine WpOps.nil ?_
                  refine WpC.condB rfl (fun hb => ?_) (fun hb => ?_)
                  ·
                    replace h := Sh.ite_pos hb h
                    refine WpC.regionD ?_
                    obtain ⟨c_4, h⟩ := Sh.chk_some h
                    refine WpOps.pn 3 rfl c_4 ?_
                    refine WpOps.nil ?_
                    refine ⟨_, Heap.le_refl _, ?_⟩
                    refine WpC.regionD ?_
                    obtain ⟨c_5, h⟩ := Sh.chk_some h
                    refine WpOps.pn 3 rfl c_5 ?_
                    refine WpOps.nil ?_
                    obtain rfl := Sh.some_inj h
                    exact ⟨_, (Heap.le_refl _), ((ahead_1 + (1 : Int)), (k_2 + (1 : Int))), (), rfl, ⟨rfl, rfl, rfl, rfl, rfl, rfl, rfl, trivial⟩, hH⟩
                  ·
                    replace h := Sh.ite_neg hb h
                    refine WpC.skipD ?_
                    refine ⟨_, Heap.le_refl _, ?_⟩
                    refine WpC.regionD ?_
                    obtain ⟨c_6, h⟩ := Sh.chk_some h
                    refine WpOps.pn 3 rfl c_6 ?_
                    refine WpOps.nil ?_
                    obtain rfl := Sh.some_inj h
                    exact ⟨_, (Heap.le_refl _), (ahead_1, (k_2 + (1 : Int))), (), rfl, ⟨rfl, rfl, rfl, rfl, rfl, rfl, rfl, trivial⟩, hH⟩
                ·
                  replace h := Sh.ite_neg hb h
                  obtain rfl := Sh.some_inj h
                  have e := hd_6 _ rfl
                  subst e
                  refine WpC.exit ?_
                  exact ⟨(ahead_1, ()), ⟨rfl, rfl, rfl, rfl, rfl, rfl, trivial⟩, hk_6, hH⟩
              ·
                rintro ⟨ahead_2, _⟩ env H' ⟨h, hH⟩
                try dsimp only at h
                refine ⟨_, Heap.le_refl _, ?_⟩
                refine WpC.seqD [] [0, 1, 2, 3, 4, 5, 6, 7, 8, 9, 10, 11, 12, 13, 14, 15, 16, 17, 18, 19, 20, 21, 22, 23, 24, 25, 26, 27, 28, 29, 30] (by kernel_rfl) (by kernel_rfl) ?_
                refine WpPi.pn 3 rfl trivial ?_
                obtain ⟨b_1, g_1, h⟩ := Sh.bind_some h
                refine WpPi.cutB 28 112 (bA b_1) rfl ?_ ?_
                ·
                  refine WpPi.pn 1 rfl trivial ?_
                  refine WpPi.split 85 rfl (fun hb => ?_) (fun hb => ?_)
                  ·
                    replace g_1 := Sh.ite_pos hb g_1
                    obtain ⟨y_6, hy_6, g_1⟩ := Sh.bind_some g_1
                    refine WpPi.pn 3 rfl trivial ?_
                    refine WpPi.consI (v := (.rop (cGEdit y_6))) rfl rfl rfl rfl (fun _ => Exact.ixr cGEdit hy_6 rfl rfl rfl rfl (by kernel_rfl) (by decide)) ?_
                    refine WpPi.pn 1 rfl trivial ?_
                    refine WpPi.consI (v := (iA y_6.file_)) rfl rfl rfl rfl (fun _ => Exact.load_rop rfl rfl rfl) ?_
                    obtain ⟨y_7, hy_7, g_1⟩ := Sh.bind_some g_1
                    refine WpPi.consI (v := (.rop (cGFile y_7))) rfl rfl rfl rfl (fun _ => Exact.ixr cGFile hy_7 rfl rfl rfl rfl (by kernel_rfl) (by decide)) ?_
                    refine WpPi.pn 1 rfl trivial ?_
                    refine WpPi.consI (v := (sA y_7.text)) rfl rfl rfl rfl (fun _ => Exact.load_rop rfl rfl rfl) ?_
                    obtain ⟨y_8, hy_8, g_1⟩ := Sh.bind_some g_1
                    refine WpPi.pn 2 rfl trivial ?_
                    refine WpPi.consI (v := (.rop (cGEdit y_8))) rfl rfl rfl rfl (fun _ => Exact.ixr cGEdit hy_8 rfl rfl rfl rfl (by kernel_rfl) (by decide)) ?_
                    refine WpPi.pn 1 rfl trivial ?_
                    refine WpPi.consI (v := (iA y_8.from_)) rfl rfl rfl rfl (fun _ => Exact.load_rop rfl rfl rfl) ?_
                    obtain ⟨y_9, hy_9, g_1⟩ := Sh.bind_some g_1
                    refine WpPi.pn 2 rfl trivial ?_
                    refine WpPi.consI (v := (.rop (cGEdit y_9))) rfl rfl rfl rfl (fun _ => Exact.ixr cGEdit hy_9 rfl rfl rfl rfl (by kernel_rfl) (by decide)) ?_
                    refine WpPi.pn 1 rfl trivial ?_
                    refine WpPi.consI (v := (iA y_9.to)) rfl rfl rfl rfl (fun _ => Exact.load_rop rfl rfl rfl) ?_
                    obtain ⟨c_7, g_1⟩ := Sh.chk_some g_1
                    refine WpPi.pn 1 rfl (show 0 ≤ y_8.from_ ∧ 0 ≤ y_9.to ∧ ((y_8.from_).toNat ≤ (y_9.to).toNat ∧ (y_9.to).toNat ≤ y_7.text.length) from ⟨(by omega), (by omega), (by omega)⟩) ?_
                    obtain ⟨y_10, hy_10, g_1⟩ := Sh.bind_some g_1
                    refine WpPi.pn 2 rfl trivial ?_
                    refine WpPi.consI (v := (.rop (cGEdit y_10))) rfl rfl rfl rfl (fun _ => Exact.ixr cGEdit hy_10 rfl rfl rfl rfl (by kernel_rfl) (by decide)) ?_
                    refine WpPi.pn 1 rfl trivial ?_
                    refine WpPi.consI (v := (sA y_10.text)) rfl rfl rfl rfl (fun _ => Exact.load_rop rfl rfl rfl) ?_
                    refine WpPi.pn 2 rfl trivial ?_
                    refine WpPi.nil ?_
                    obtain rfl := Sh.some_inj g_1
                    exact ⟨rfl, rfl⟩
                  ·
                    replace g_1 := Sh.ite_neg hb g_1
                    refine WpPi.pn 3 rfl trivial ?_
                    refine WpPi.skip rfl rfl rfl ?_
                    refine WpPi.pn 1 rfl trivial ?_
                    refine WpPi.skip rfl rfl rfl ?_
                    refine WpPi.skip rfl rfl rfl ?_
                    refine WpPi.pn 1 rfl trivial ?_
                    refine WpPi.skip rfl rfl rfl ?_
                    refine WpPi.pn 2 rfl trivial ?_
                    refine WpPi.skip rfl rfl rfl ?_
                    refine WpPi.pn 1 rfl trivial ?_
                    refine WpPi.skip rfl rfl rfl ?_
                    refine WpPi.pn 2 rfl trivial ?_
                    refine WpPi.skip rfl rfl rfl ?_
                    refine WpPi.pn 1 rfl trivial ?_
                    refine WpPi.skip rfl rfl rfl ?_
                    refine WpPi.pn 3 rfl trivial ?_
                    refine WpPi.skip rfl rfl rfl ?_
                    refine WpPi.pn 1 rfl trivial ?_
                    refine WpPi.skip rfl rfl rfl ?_
                    refine WpPi.pn 2 rfl trivial ?_
                    refine WpPi.nil ?_
                    obtain rfl := Sh.some_inj g_1
                    exact ⟨rfl, rfl⟩
                intro env
                refine WpPi.nil ?_
                refine WpC.condB rfl (fun hb => ?_) (fun hb => ?_)
                ·
                  replace h := Sh.ite_pos hb h
                  refine WpC.regionD ?_
                  obtain ⟨y_11, hy_11, h⟩ := Sh.bind_some h
                  refine WpOps.pn 3 rfl trivial ?_
                  refine WpOps.consE (v := (.rop (cGEdit y_11))) rfl rfl (Exact.ixr cGEdit hy_11 rfl rfl rfl rfl (by kernel_rfl) (by decide)) ?_
                  refine WpOps.consE (v := (AV.agg (cGEdit y_11))) rfl rfl (Exact.load_rop rfl rfl rfl) ?_
                  refine WpOps.consE (v := (AV.rows 4 (List.map cGEdit ([y_11] : List GEdit)))) rfl rfl (Exact.litSlice rfl (by kernel_rfl)) ?_
                  obtain ⟨c_8, h⟩ := Sh.chk_some h
                  refine WpOps.consG rfl rfl (WpO.pushT cGEdit out_2 ([y_11] : List GEdit) (i := 0) rfl ek23 hH rfl rfl rfl (.rows _) (fun y _ => one_cGEdit y) (by simp) c_8 (by decide) fun p_3 H' hH => ?_)
                  refine WpOps.pn 1 rfl trivial ?_
                  refine WpOps.nil ?_
                  refine ⟨_, Heap.le_refl _, ?_⟩
                  refine WpC.regionD ?_
                  obtain ⟨c_9, h⟩ := Sh.chk_some h
                  refine WpOps.pn 3 rfl c_9 ?_
                  refine WpOps.nil ?_
                  obtain rfl := Sh.some_inj h
                  exact ⟨_, (Heap.le_refl _), ((i_3 + (1 : Int)), (out_2 ++ ([y_11] : List GEdit))), p_3, rfl, ⟨rfl, rfl, rfl, rfl, rfl, trivial⟩, hH⟩
                ·
                  replace h := Sh.ite_neg hb h
                  refine WpC.skipD ?_
                  refine ⟨_, Heap.le_refl _, ?_⟩
                  refine WpC.regionD ?_
                  obtain ⟨c_10, h⟩ := Sh.chk_some h
                  refine WpOps.pn 3 rfl c_10 ?_
                  refine WpOps.nil ?_
                  obtain rfl := Sh.some_inj h
                  exact ⟨_, (Heap.le_refl _), ((i_3 + (1 : Int)), out_2), p_2, rfl, ⟨rfl, rfl, rfl, rfl, rfl, trivial⟩, hH⟩
            ·
              replace h := Sh.ite_neg hb h
              obtain rfl := Sh.some_inj h
              have e := hd_5 _ rfl
              subst e
              refine WpC.exit ?_
              exact ⟨(out_2, p_2), ⟨rfl, rfl, rfl, rfl, trivial⟩, hk_5, hH⟩
          ·
            rintro ⟨out_3, p_4⟩ env H' ⟨h, hH⟩
            try dsimp only at h
            refine ⟨_, Heap.le_refl _, ?_⟩
            refine WpC.regionD ?_
            obtain ⟨c_11, h⟩ := Sh.chk_some h
            refine WpOps.pn 3 rfl c_11 ?_
            refine WpOps.nil ?_
            obtain rfl := Sh.some_inj h
            exact ⟨_, (Heap.le_refl _), ((n_1 + (1 : Int)), out_3), p_4, rfl, ⟨rfl, rfl, rfl, rfl, trivial⟩, hH⟩
        ·
          replace h := Sh.ite_neg hb h
          obtain rfl := Sh.some_inj h
          have e := hd_4 _ rfl
          subst e
          refine WpC.exit ?_
          exact ⟨(out_1, p_1), ⟨rfl, rfl, trivial⟩, hk_4, hH⟩
      ·
        rintro ⟨out_4, p_5⟩ env H' ⟨h, hH⟩
        try dsimp only at h
        refine ⟨_, Heap.le_refl _, ?_⟩
        refine WpC.freeze (t := 11) (i := 0) hH rfl rfl (fun H' hH => ?_)
        refine WpC.seqR ?_
        obtain ⟨r_4, hr_4, h⟩ := Sh.bind_some h
        refine WpOps.pn 2 rfl trivial ?_
        refine WpOps.consE (v := (AV.rows 4 (List.map cGEdit r_4))) rfl rfl (Exact.call rfl rfl rfl (w_emendref20_join hr_4)) ?_
        refine WpOps.pn 2 rfl trivial ?_
        refine WpOps.nil ?_
        obtain rfl := Sh.some_inj h
        refine WpC.ret ?_
        exact VEnds.ret2 rfl rfl rfl ⟨rfl, hH⟩

theorem w_emendref20_Apply {H0 : Heap} {files_1 : List GFile} {l_1 : List GEdit} {r : List GFile × Int} (h : emendref20_Apply files_1 l_1 = some r) : TCall Try.prog 15 [(AV.rows 2 (List.map cGFile files_1)), (AV.rows 4 (List.map cGEdit l_1))] H0 (fun v H' => v = (.tup [(AV.rows 2 (List.map cGFile r.1)), (iA r.2)]) ∧ H' = H0) noE := by
  refine id (TCall.body Try.func15 rfl rfl ?_)
  have hH : Holds H0 [] H0 := rfl
  refine WpC.seqR ?_
  refine WpOps.pn 2 rfl trivial ?_
  refine WpOps.nil ?_
  refine WpC.seqR ?_
  obtain ⟨r_1, hr_1, h⟩ := Sh.bind_some h
  refine WpOps.pn 2 rfl trivial ?_
  refine WpOps.consE (v := (.tup [(AV.rows 4 (List.map cGEdit r_1.1)), (iA r_1.2)])) rfl rfl (Exact.call rfl rfl rfl (w_emendref20_Normal hr_1)) ?_
  refine WpOps.pn 5 rfl trivial ?_
  refine WpOps.nil ?_
  refine WpC.seq ?_
  refine WpC.seqR ?_
  refine WpOps.pn 2 rfl trivial ?_
  refine WpOps.nil ?_
  refine WpC.condB rfl (fun hb => ?_) (fun hb => ?_)
  ·
    replace h := Sh.ite_pos hb h
    refine WpC.seqR ?_
    refine WpOps.pn 3 rfl trivial ?_
    refine WpOps.nil ?_
    refine WpC.sub (t := 4) (Sub.nil 2) ?_
    obtain rfl := Sh.some_inj h
    refine WpC.ret ?_
    exact VEnds.ret2 rfl rfl rfl ⟨rfl, hH⟩
  ·
    replace h := Sh.ite_neg hb h
    refine WpC.skipD ?_
    refine ⟨_, Heap.le_refl _, ?_⟩
    refine WpC.seqR ?_
    refine WpOps.consG rfl rfl (WpO.litT (size := 2) cGFile ([] : List GFile) rfl rfl (by kernel_rfl) rfl hH fun g_1 H' hH => ?_)
    obtain ⟨c_1, h⟩ := Sh.chk_some h
    refine WpOps.pn 1 rfl trivial ?_
    refine WpOps.consG rfl rfl (WpO.pushS cGFile ([] : List GFile) files_1 (i := 0) rfl ek22 hH rfl rfl rfl (.rows _) (fun y _ => one_cGFile y) c_1 (by decide) fun g_2 cp_1 H' hH => ?_)
    refine WpOps.pn 1 rfl trivial ?_
    refine WpOps.nil ?_
    refine WpC.seq ?_
    refine WpC.seqR ?_
    refine WpOps.pn 2 rfl trivial ?_
    refine WpOps.at 24 (len_map _ _) ?_
    obtain ⟨c_2, h⟩ := Sh.chk_some h
    refine WpOps.pn 2 rfl c_2 ?_
    refine WpOps.nil ?_
    refine WpC.blockK (fun x : (List GFile) × ((Option (Nat × Nat))) => [(8, (.own (List.map cGFile x.1).length x.2))]) (fun x H' => emendref20_Apply_j1 x.1 = some r ∧ Holds H0 [.own 37 2 x.2 (List.map cGFile x.1)] H') ?_ ?_
    ·
      obtain ⟨o_1, ho_1, hk_1⟩ := Sh.bind_some h
      refine WpC.loopS (emendref20_Apply_b2 r_1) (fun (s : Int × List GFile) (a : (Option (Nat × Nat))) => [(6, (AV.rows 4 (List.map cGEdit r_1.1))), (8, (.own (List.map cGFile s.2).length a)), (9, (iA s.1))]) (fun (s : Int × List GFile) (a : (Option (Nat × Nat))) H' => Holds H0 [.own 37 2 a (List.map cGFile s.2)] H') o_1 (((r_1.1.length : Int) - (1 : Int)), (([] : List GFile) ++ files_1)) (some (g_2, cp_1)) ho_1 ⟨rfl, rfl, rfl, trivial⟩ hH ?_
      rintro ⟨i_1, out_1⟩ p_1 st_1 env H' h hd_1 hH
      refine WpC.seq ?_
      refine WpC.seqR ?_
      refine WpOps.pn 2 rfl trivial ?_
      refine WpOps.nil ?_
      refine WpC.condB rfl (fun hb => ?_) (fun hb => ?_)
      ·
        replace h := Sh.ite_pos hb h
        refine WpC.skipD ?_
        refine ⟨_, Heap.le_refl _, ?_⟩
        refine WpC.seq ?_
        refine WpC.block ?_
        refine WpC.seqR ?_
        obtain ⟨y_1, hy_1, h⟩ := Sh.bind_some h
        refine WpOps.pn 3 rfl trivial ?_
        refine WpOps.consE (v := (.rop (cGEdit y_1))) rfl rfl (Exact.ixr cGEdit hy_1 rfl rfl rfl rfl (by kernel_rfl) (by decide)) ?_
        refine WpOps.pn 1 rfl trivial ?_
        refine WpOps.consE (v := (iA y_1.file_)) rfl rfl (Exact.load_rop rfl rfl rfl) ?_
        obtain ⟨y_2, hy_2, h⟩ := Sh.bind_some h
        have hq_1 := h; have hq_2 := hH
        obtain ⟨g_3, cp_2, rfl⟩ := hq_2.grown (i := 0) rfl (ne_of_ix hy_2)
        have h := hq_1; have hH := hq_2
        refine WpOps.consE rfl rfl (Exact.ixo (size := 2) cGFile hy_2 rfl rfl rfl rfl (by kernel_rfl) (by decide)) ?_
        refine WpOps.pn 1 rfl trivial ?_
        refine WpOps.consE (v := (sA y_2.text)) rfl rfl (Exact.ldo (off := 1) (i := 0) cGFile hy_2 hH rfl rfl rfl (by decide) rfl) ?_
        refine WpOps.pn 1 rfl trivial ?_
        refine WpOps.nil ?_
        refine WpC.drawD [.I, .I, .I, .I, .I, .I, .I, .I, .I, .I, .I, .I, .I, .I, .I, .I, .I, .I, .I, .I, .I, .I, .I, .I, .I, .I, .I, .S, .I, .E] [0, 1, 2, 3, 4, 5, 6, 7, 8, 9, 10, 11, 12, 13, 14, 15, 16, 17, 18, 19, 20, 21, 22, 23, 24, 25, 26, 27, 28, 29] (by kernel_rfl) (by kernel_rfl) ?_
        obtain ⟨y_3, hy_3, h⟩ := Sh.bind_some h
        refine WpPi.pn 3 rfl trivial ?_
        refine WpPi.consI (v := (.rop (cGEdit y_3))) rfl rfl rfl rfl (fun _ => Exact.ixr cGEdit hy_3 rfl rfl rfl rfl (by kernel_rfl) (by decide)) ?_
        refine WpPi.pn 1 rfl trivial ?_
        refine WpPi.consI (v := (iA y_3.file_)) rfl rfl rfl rfl (fun _ => Exact.load_rop rfl rfl rfl) ?_
        obtain ⟨y_4, hy_4, h⟩ := Sh.bind_some h
        refine WpPi.pn 3 rfl trivial ?_
        refine WpPi.consI (v := (.rop (cGEdit y_4))) rfl rfl rfl rfl (fun _ => Exact.ixr cGEdit hy_4 rfl rfl rfl rfl (by kernel_rfl) (by decide)) ?_
        refine WpPi.pn 1 rfl trivial ?_
        refine WpPi.consI (v := (iA y_4.from_)) rfl rfl rfl rfl (fun _ => Exact.load_rop rfl rfl rfl) ?_
        obtain ⟨c_3, h⟩ := Sh.chk_some h
        refine WpPi.pn 1 rfl (show True ∧ 0 ≤ y_4.from_ ∧ (y_4.from_).toNat ≤ y_2.text.length from ⟨trivial, (by omega), (by omega)⟩) ?_
        obtain ⟨y_5, hy_5, h⟩ := Sh.bind_some h
        refine WpPi.pn 2 rfl trivial ?_
        refine WpPi.consI (v := (.rop (cGEdit y_5))) rfl rfl rfl rfl (fun _ => Exact.ixr cGEdit hy_5 rfl rfl rfl rfl (by kernel_rfl) (by decide)) ?_
        refine WpPi.pn 1 rfl trivial ?_
        refine WpPi.consI (v := (sA y_5.text)) rfl rfl rfl rfl (fun _ => Exact.load_rop rfl rfl rfl) ?_
        obtain ⟨c_4, h⟩ := Sh.chk_some h
        obtain ⟨y_6, hy_6, h⟩ := Sh.bind_some h
        refine WpPi.pn 4 rfl c_4 ?_
        refine WpPi.consI (v := (.rop (cGEdit y_6))) rfl rfl rfl rfl (fun _ => Exact.ixr cGEdit hy_6 rfl rfl rfl rfl (by kernel_rfl) (by decide)) ?_
        refine WpPi.pn 1 rfl trivial ?_
        refine WpPi.consI (v := (iA y_6.to)) rfl rfl rfl rfl (fun _ => Exact.load_rop rfl rfl rfl) ?_
        obtain ⟨c_5, h⟩ := Sh.chk_some h
        refine WpPi.pn 1 rfl (show 0 ≤ y_6.to ∧ True ∧ (y_6.to).toNat ≤ y_2.text.length from ⟨(by omega), trivial, (by omega)⟩) ?_
        obtain ⟨c_6, h⟩ := Sh.chk_some h
        obtain ⟨y_7, hy_7, h⟩ := Sh.bind_some h
        refine WpPi.pn 1 rfl c_6 ?_
        refine WpPi.consS rfl rfl rfl rfl (Exact.ixo (size := 2) cGFile hy_7 rfl rfl rfl rfl (by kernel_rfl) (by decide)) ?_
        refine WpPi.pn 1 rfl trivial ?_
        refine WpPi.consE rfl rfl rfl rfl (WpO.setT (off := 1) (i := 0) cGFile (y' := (GFile.mk y_7.path (((y_2.text.take (y_4.from_).toNat) ++ y_5.text) ++ (y_2.text.drop (y_6.to).toNat)))) (v := (sA (((y_2.text.take (y_4.from_).toNat) ++ y_5.text) ++ (y_2.text.drop (y_6.to).toNat)))) hy_7 hH rfl rfl rfl rfl rfl rfl rfl rfl rfl fun H' hH => ?_)
        refine WpPi.at 8 (own_set cGFile out_1 (y_3.file_).toNat (GFile.mk y_7.path (((y_2.text.take (y_4.from_).toNat) ++ y_5.text) ++ (y_2.text.drop (y_6.to).toNat))) _) ?_
        refine WpPi.at 30 (own_set cGFile out_1 (y_3.file_).toNat (GFile.mk y_7.path (((y_2.text.take (y_4.from_).toNat) ++ y_5.text) ++ (y_2.text.drop (y_6.to).toNat))) _) ?_
        refine WpPi.at 39 (own_set cGFile out_1 (y_3.file_).toNat (GFile.mk y_7.path (((y_2.text.take (y_4.from_).toNat) ++ y_5.text) ++ (y_2.text.drop (y_6.to).toNat))) _) ?_
        refine WpPi.nil ?_
        refine ⟨_, Heap.le_refl _, ?_⟩
        refine WpC.regionD ?_
        obtain ⟨c_7, h⟩ := Sh.chk_some h
        refine WpOps.pn 3 rfl c_7 ?_
        refine WpOps.nil ?_
        obtain rfl := Sh.some_inj h
        exact ⟨_, (Heap.le_refl _), ((i_1 - (1 : Int)), (out_1.set (y_3.file_).toNat (GFile.mk y_7.path (((y_2.text.take (y_4.from_).toNat) ++ y_5.text) ++ (y_2.text.drop (y_6.to).toNat))))), (some (g_3, cp_2)), rfl, ⟨rfl, rfl, rfl, trivial⟩, hH⟩
      ·
        replace h := Sh.ite_neg hb h
        obtain rfl := Sh.some_inj h
        have e := hd_1 _ rfl
        subst e
        refine WpC.exit ?_
        exact ⟨(out_1, p_1), ⟨rfl, trivial⟩, hk_1, hH⟩
    ·
      rintro ⟨out_2, p_2⟩ env H' ⟨h, hH⟩
      try dsimp only at h
      refine ⟨_, Heap.le_refl _, ?_⟩
      refine WpC.seqR ?_
      refine WpOps.pn 3 rfl trivial ?_
      refine WpOps.nil ?_
      refine WpC.freeze (t := 4) (i := 0) hH rfl rfl (fun H' hH => ?_)
      obtain rfl := Sh.some_inj h
      refine WpC.ret ?_
      exact VEnds.ret2 rfl rfl rfl ⟨rfl, hH⟩

theorem w_emendref20_Alike {H0 : Heap} {a_1 : List GEdit} {b_1 : List GEdit} {r : Bool} (h : emendref20_Alike a_1 b_1 = some r) : TCall Try.prog 16 [(AV.rows 4 (List.map cGEdit a_1)), (AV.rows 4 (List.map cGEdit b_1))] H0 (fun v H' => v = (bA r) ∧ H' = H0) noE := by
  refine id (TCall.body Try.func16 rfl rfl ?_)
  have hH : Holds H0 [] H0 := rfl
  refine WpC.seqR ?_
  refine WpOps.pn 1 rfl trivial ?_
  refine WpOps.nil ?_
  refine WpC.seq ?_
  refine WpC.seqR ?_
  refine WpOps.pn 2 rfl trivial ?_
  refine WpOps.at 7 (len_map _ _) ?_
  refine WpOps.pn 2 rfl trivial ?_
  refine WpOps.at 9 (len_map _ _) ?_
  refine WpOps.pn 1 rfl trivial ?_
  refine WpOps.nil ?_
  refine WpC.condB rfl (fun hb => ?_) (fun hb => ?_)
  ·
    replace h := Sh.ite_pos hb h
    refine WpC.seqR ?_
    refine WpOps.pn 1 rfl trivial ?_
    refine WpOps.nil ?_
    obtain rfl := Sh.some_inj h
    refine WpC.ret ?_
    exact VEnds.ret1 rfl rfl ⟨rfl, hH⟩
  ·
    replace h := Sh.ite_neg hb h
    refine WpC.skipD ?_
    refine ⟨_, Heap.le_refl _, ?_⟩
    refine WpC.seq ?_
    refine WpC.seqR ?_
    refine WpOps.pn 1 rfl trivial ?_
    refine WpOps.nil ?_
    refine WpC.blockK (fun x : (Unit) × (Unit) => []) (fun x H' => emendref20_Alike_j1 x.1 = some r ∧ Holds H0 [] H') ?_ ?_
    ·
      obtain ⟨o_1, ho_1, hk_1⟩ := Sh.bind_some h
      refine WpC.loopS (emendref20_Alike_b2 a_1 b_1) (fun (s : Int) (a : Unit) => [(0, (AV.rows 4 (List.map cGEdit a_1))), (1, (AV.rows 4 (List.map cGEdit b_1))), (5, (iA s))]) (fun (s : Int) (a : Unit) H' => Holds H0 [] H') o_1 (0 : Int) () ho_1 ⟨rfl, rfl, rfl, trivial⟩ hH ?_
      rintro i_1 _ st_1 env H' h hd_1 hH
      refine WpC.seq ?_
      refine WpC.seqR ?_
      refine WpOps.pn 3 rfl trivial ?_
      refine WpOps.at 13 (len_map _ _) ?_
      refine WpOps.pn 1 rfl trivial ?_
      refine WpOps.nil ?_
      refine WpC.condB rfl (fun hb => ?_) (fun hb => ?_)
      ·
        replace h := Sh.ite_pos hb h
        refine WpC.skipD ?_
        refine ⟨_, Heap.le_refl _, ?_⟩
        refine WpC.seq ?_
        refine WpC.block ?_
        refine WpC.seqD [] [0, 1, 2, 3, 4, 5, 6, 7, 8] (by kernel_rfl) (by kernel_rfl) ?_
        obtain ⟨y_1, hy_1, h⟩ := Sh.bind_some h
        refine WpPi.pn 2 rfl trivial ?_
        refine WpPi.consI (v := (.rop (cGEdit y_1))) rfl rfl rfl rfl (fun _ => Exact.ixr cGEdit hy_1 rfl rfl rfl rfl (by kernel_rfl) (by decide)) ?_
        refine WpPi.consI (v := (AV.agg (cGEdit y_1))) rfl rfl rfl rfl (fun _ => Exact.load_rop rfl rfl rfl) ?_
        obtain ⟨y_2, hy_2, h⟩ := Sh.bind_some h
        refine WpPi.pn 2 rfl trivial ?_
        refine WpPi.consI (v := (.rop (cGEdit y_2))) rfl rfl rfl rfl (fun _ => Exact.ixr cGEdit hy_2 rfl rfl rfl rfl (by kernel_rfl) (by decide)) ?_
        refine WpPi.consI (v := (AV.agg (cGEdit y_2))) rfl rfl rfl rfl (fun _ => Exact.load_rop rfl rfl rfl) ?_
        refine WpPi.consI (v := (bA (!decide (y_1 = y_2)))) rfl rfl rfl rfl (fun _ => Exact.neqStruct rfl rfl rfl (eqL_GEdit y_1 y_2) (by kernel_rfl) rfl (by kernel_rfl)) ?_
        refine WpPi.nil ?_
        refine WpC.condB rfl (fun hb => ?_) (fun hb => ?_)
        ·
          replace h := Sh.ite_pos hb h
          refine WpC.seqR ?_
          refine WpOps.pn 1 rfl trivial ?_
          refine WpOps.nil ?_
          obtain rfl := Sh.some_inj h
          have e := hd_1 _ rfl
          subst e
          have h := hk_1
          obtain rfl := Sh.some_inj h
          refine WpC.ret ?_
          exact VEnds.ret1 rfl rfl ⟨rfl, hH⟩
        ·
          replace h := Sh.ite_neg hb h
          refine WpC.skipD ?_
          refine ⟨_, Heap.le_refl _, ?_⟩
          refine WpC.regionD ?_
          obtain ⟨c_1, h⟩ := Sh.chk_some h
          refine WpOps.pn 3 rfl c_1 ?_
          refine WpOps.nil ?_
          obtain rfl := Sh.some_inj h
          exact ⟨_, (Heap.le_refl _), (i_1 + (1 : Int)), (), rfl, ⟨rfl, rfl, rfl, trivial⟩, hH⟩
      ·
        replace h := Sh.ite_neg hb h
        obtain rfl := Sh.some_inj h
        have e := hd_1 _ rfl
        subst e
        refine WpC.exit ?_
        exact ⟨((), ()), trivial, hk_1, hH⟩
    ·
      rintro ⟨_, _⟩ env H' ⟨h, hH⟩
      try dsimp only at h
      refine ⟨_, Heap.le_refl _, ?_⟩
      refine WpC.seqR ?_
      refine WpOps.pn 1 rfl trivial ?_
      refine WpOps.nil ?_
      obtain rfl := Sh.some_inj h
      refine WpC.ret ?_
      exact VEnds.ret1 rfl rfl ⟨rfl, hH⟩

theorem w_emendref20_Same {H0 : Heap} {a_1 : List GFile} {b_1 : List GFile} {r : Bool} (h : emendref20_Same a_1 b_1 = some r) : TCall Try.prog 17 [(AV.rows 2 (List.map cGFile a_1)), (AV.rows 2 (List.map cGFile b_1))] H0 (fun v H' => v = (bA r) ∧ H' = H0) noE := by
  refine id (TCall.body Try.func17 rfl rfl ?_)
  have hH : Holds H0 [] H0 := rfl
  refine WpC.seqR ?_
  refine WpOps.pn 1 rfl trivial ?_
  refine WpOps.nil ?_
  refine WpC.seq ?_
  refine WpC.seqR ?_
  refine WpOps.pn 2 rfl trivial ?_
  refine WpOps.at 7 (len_map _ _) ?_
  refine WpOps.pn 2 rfl trivial ?_
  refine WpOps.at 9 (len_map _ _) ?_
  refine WpOps.pn 1 rfl trivial ?_
  refine WpOps.nil ?_
  refine WpC.condB rfl (fun hb => ?_) (fun hb => ?_)
  ·
    replace h := Sh.ite_pos hb h
    refine WpC.seqR ?_
    refine WpOps.pn 1 rfl trivial ?_
    refine WpOps.nil ?_
    obtain rfl := Sh.some_inj h
    refine WpC.ret ?_
    exact VEnds.ret1 rfl rfl ⟨rfl, hH⟩
  ·
    replace h := Sh.ite_neg hb h
    refine WpC.skipD ?_
    refine ⟨_, Heap.le_refl _, ?_⟩
    refine WpC.seq ?_
    refine WpC.seqR ?_
    refine WpOps.pn 1 rfl trivial ?_
    refine WpOps.nil ?_
    refine WpC.blockK (fun x : (Unit) × (Unit) => []) (fun x H' => emendref20_Same_j1 x.1 = some r ∧ Holds H0 [] H') ?_ ?_
    ·
      obtain ⟨o_1, ho_1, hk_1⟩ := Sh.bind_some h
      refine WpC.loopS (emendref20_Same_b2 a_1 b_1) (fun (s : Int) (a : Unit) => [(0, (AV.rows 2 (List.map cGFile a_1))), (1, (AV.rows 2 (List.map cGFile b_1))), (5, (iA s))]) (fun (s : Int) (a : Unit) H' => Holds H0 [] H') o_1 (0 : Int) () ho_1 ⟨rfl, rfl, rfl, trivial⟩ hH ?_
      rintro i_1 _ st_1 env H' h hd_1 hH
      refine WpC.seq ?_
      refine WpC.seqR ?_
      refine WpOps.pn 3 rfl trivial ?_
      refine WpOps.at 13 (len_map _ _) ?_
      refine WpOps.pn 1 rfl trivial ?_
      refine WpOps.nil ?_
      refine WpC.condB rfl (fun hb => ?_) (fun hb => ?_)
      ·
        replace h := Sh.ite_pos hb h
        refine WpC.skipD ?_
        refine ⟨_, Heap.le_refl _, ?_⟩
        refine WpC.seq ?_
        refine WpC.block ?_
        refine WpC.seqD [] [0, 1, 2, 3, 4, 5, 6, 7, 8] (by kernel_rfl) (by kernel_rfl) ?_
        obtain ⟨y_1, hy_1, h⟩ := Sh.bind_some h
        refine WpPi.pn 2 rfl trivial ?_
        refine WpPi.consI (v := (.rop (cGFile y_1))) rfl rfl rfl rfl (fun _ => Exact.ixr cGFile hy_1 rfl rfl rfl rfl (by kernel_rfl) (by decide)) ?_
        refine WpPi.consI (v := (AV.agg (cGFile y_1))) rfl rfl rfl rfl (fun _ => Exact.load_rop rfl rfl rfl) ?_
        obtain ⟨y_2, hy_2, h⟩ := Sh.bind_some h
        refine WpPi.pn 2 rfl trivial ?_
        refine WpPi.consI (v := (.rop (cGFile y_2))) rfl rfl rfl rfl (fun _ => Exact.ixr cGFile hy_2 rfl rfl rfl rfl (by kernel_rfl) (by decide)) ?_
        refine WpPi.consI (v := (AV.agg (cGFile y_2))) rfl rfl rfl rfl (fun _ => Exact.load_rop rfl rfl rfl) ?_
        refine WpPi.consI (v := (bA (!decide (y_1 = y_2)))) rfl rfl rfl rfl (fun _ => Exact.neqStruct rfl rfl rfl (eqL_GFile y_1 y_2) (by kernel_rfl) rfl (by kernel_rfl)) ?_
        refine WpPi.nil ?_
        refine WpC.condB rfl (fun hb => ?_) (fun hb => ?_)
        ·
          replace h := Sh.ite_pos hb h
          refine WpC.seqR ?_
          refine WpOps.pn 1 rfl trivial ?_
          refine WpOps.nil ?_
          obtain rfl := Sh.some_inj h
          have e := hd_1 _ rfl
          subst e
          have h := hk_1
          obtain rfl := Sh.some_inj h
          refine WpC.ret ?_
          exact VEnds.ret1 rfl rfl ⟨rfl, hH⟩
        ·
          replace h := Sh.ite_neg hb h
          refine WpC.skipD ?_
          refine ⟨_, Heap.le_refl _, ?_⟩
          refine WpC.regionD ?_
          obtain ⟨c_1, h⟩ := Sh.chk_some h
          refine WpOps.pn 3 rfl c_1 ?_
          refine WpOps.nil ?_
          obtain rfl := Sh.some_inj h
          exact ⟨_, (Heap.le_refl _), (i_1 + (1 : Int)), (), rfl, ⟨rfl, rfl, rfl, trivial⟩, hH⟩
      ·
        replace h := Sh.ite_neg hb h
        obtain rfl := Sh.some_inj h
        have e := hd_1 _ rfl
        subst e
        refine WpC.exit ?_
        exact ⟨((), ()), trivial, hk_1, hH⟩
    ·
      rintro ⟨_, _⟩ env H' ⟨h, hH⟩
      try dsimp only at h
      refine ⟨_, Heap.le_refl _, ?_⟩
      refine WpC.seqR ?_
      refine WpOps.pn 1 rfl trivial ?_
      refine WpOps.nil ?_
      obtain rfl := Sh.some_inj h
      refine WpC.ret ?_
      exact VEnds.ret1 rfl rfl ⟨rfl, hH⟩

theorem w_emendlaw20_EditsPlay {H0 : Heap} {files_1 : List GFile} {l_1 : List GEdit} {r : Bool} (h : emendlaw20_EditsPlay files_1 l_1 = some r) : TCall Try.prog 3 [(AV.rows 2 (List.map cGFile files_1)), (AV.rows 4 (List.map cGEdit l_1))] H0 (fun v H' => v = (bA r) ∧ H' = H0) noE := by
  refine id (TCall.body Try.func3 rfl rfl ?_)
  have hH : Holds H0 [] H0 := rfl
  refine WpC.seqR ?_
  refine WpOps.pn 1 rfl trivial ?_
  refine WpOps.nil ?_
  refine WpC.seqR ?_
  obtain ⟨r_1, hr_1, h⟩ := Sh.bind_some h
  refine WpOps.consE (v := (bA r_1)) rfl rfl (Exact.call rfl rfl rfl (w_emendlaw20_awake hr_1)) ?_
  refine WpOps.pn 1 rfl trivial ?_
  refine WpOps.nil ?_
  refine WpC.seqR ?_
  obtain ⟨r_2, hr_2, h⟩ := Sh.bind_some h
  refine WpOps.pn 2 rfl trivial ?_
  refine WpOps.consE (v := (bA r_2)) rfl rfl (Exact.call rfl rfl rfl (w_emendlaw20_short hr_2)) ?_
  refine WpOps.pn 1 rfl trivial ?_
  refine WpOps.nil ?_
  refine WpC.seq ?_
  refine WpC.seqR ?_
  refine WpOps.pn 2 rfl trivial ?_
  refine WpOps.nil ?_
  refine WpC.condB rfl (fun hb => ?_) (fun hb => ?_)
  ·
    replace h := Sh.ite_pos hb h
    refine WpC.seqR ?_
    refine WpOps.pn 2 rfl trivial ?_
    refine WpOps.nil ?_
    obtain rfl := Sh.some_inj h
    refine WpC.ret ?_
    exact VEnds.ret1 rfl rfl ⟨rfl, hH⟩
  ·
    replace h := Sh.ite_neg hb h
    refine WpC.skipD ?_
    refine ⟨_, Heap.le_refl _, ?_⟩
    refine WpC.seqR ?_
    obtain ⟨r_3, hr_3, h⟩ := Sh.bind_some h
    refine WpOps.pn 2 rfl trivial ?_
    refine WpOps.consE (v := (.tup [(AV.rows 4 (List.map cGEdit r_3.1)), (iA r_3.2)])) rfl rfl (Exact.call rfl rfl rfl (w_edits_Normal hr_3)) ?_
    refine WpOps.pn 5 rfl trivial ?_
    refine WpOps.nil ?_
    refine WpC.seqR ?_
    obtain ⟨r_4, hr_4, h⟩ := Sh.bind_some h
    refine WpOps.pn 2 rfl trivial ?_
    refine WpOps.consE (v := (.tup [(AV.rows 4 (List.map cGEdit r_4.1)), (iA r_4.2)])) rfl rfl (Exact.call rfl rfl rfl (w_emendref20_Normal hr_4)) ?_
    refine WpOps.pn 5 rfl trivial ?_
    refine WpOps.nil ?_
    refine WpC.seqR ?_
    obtain ⟨r_5, hr_5, h⟩ := Sh.bind_some h
    refine WpOps.pn 2 rfl trivial ?_
    refine WpOps.consE (v := (.tup [(AV.rows 2 (List.map cGFile r_5.1)), (iA r_5.2)])) rfl rfl (Exact.call rfl rfl rfl (w_edits_Apply hr_5)) ?_
    refine WpOps.pn 5 rfl trivial ?_
    refine WpOps.nil ?_
    refine WpC.seqR ?_
    obtain ⟨r_6, hr_6, h⟩ := Sh.bind_some h
    refine WpOps.pn 2 rfl trivial ?_
    refine WpOps.consE (v := (.tup [(AV.rows 2 (List.map cGFile r_6.1)), (iA r_6.2)])) rfl rfl (Exact.call rfl rfl rfl (w_emendref20_Apply hr_6)) ?_
    refine WpOps.pn 5 rfl trivial ?_
    refine WpOps.nil ?_
    refine WpC.seqR ?_
    refine WpOps.pn 1 rfl trivial ?_
    obtain ⟨b_1, g_1, h⟩ := Sh.bind_some h
    refine WpOps.cutB 5 51 (bA b_1) rfl ?_ ?_
    ·
      refine WpOps.pn 1 rfl trivial ?_
      refine WpOps.split 47 rfl (fun hb => ?_) (fun hb => ?_)
      ·
        replace g_1 := Sh.ite_pos hb g_1
        refine WpOps.pn 4 rfl trivial ?_
        refine WpOps.nil ?_
        obtain rfl := Sh.some_inj g_1
        exact ⟨rfl, rfl⟩
      ·
        replace g_1 := Sh.ite_neg hb g_1
        refine WpOps.pn 4 rfl trivial ?_
        refine WpOps.nil ?_
        obtain rfl := Sh.some_inj g_1
        exact ⟨rfl, rfl⟩
    intro env
    obtain ⟨b_2, g_2, h⟩ := Sh.bind_some h
    refine WpOps.cutB 5 56 (bA b_2) rfl ?_ ?_
    ·
      refine WpOps.pn 1 rfl trivial ?_
      refine WpOps.split 52 rfl (fun hb => ?_) (fun hb => ?_)
      ·
        replace g_2 := Sh.ite_pos hb g_2
        obtain ⟨r_7, hr_7, g_2⟩ := Sh.bind_some g_2
        refine WpOps.pn 2 rfl trivial ?_
        refine WpOps.consE (v := (bA r_7)) rfl rfl (Exact.call rfl rfl rfl (w_emendref20_Alike hr_7)) ?_
        refine WpOps.pn 1 rfl trivial ?_
        refine WpOps.nil ?_
        obtain rfl := Sh.some_inj g_2
        exact ⟨rfl, rfl⟩
      ·
        replace g_2 := Sh.ite_neg hb g_2
        refine WpOps.pn 4 rfl trivial ?_
        refine WpOps.nil ?_
        obtain rfl := Sh.some_inj g_2
        exact ⟨rfl, rfl⟩
    intro env
    obtain ⟨b_3, g_3, h⟩ := Sh.bind_some h
    refine WpOps.cutB 5 61 (bA b_3) rfl ?_ ?_
    ·
      refine WpOps.pn 1 rfl trivial ?_
      refine WpOps.split 57 rfl (fun hb => ?_) (fun hb => ?_)
      ·
        replace g_3 := Sh.ite_pos hb g_3
        refine WpOps.pn 4 rfl trivial ?_
        refine WpOps.nil ?_
        obtain rfl := Sh.some_inj g_3
        exact ⟨rfl, rfl⟩
      ·
        replace g_3 := Sh.ite_neg hb g_3
        refine WpOps.pn 4 rfl trivial ?_
        refine WpOps.nil ?_
        obtain rfl := Sh.some_inj g_3
        exact ⟨rfl, rfl⟩
    intro env
    obtain ⟨b_4, g_4, h⟩ := Sh.bind_some h
    refine WpOps.cutB 5 66 (bA b_4) rfl ?_ ?_
    ·
      refine WpOps.pn 1 rfl trivial ?_
      refine WpOps.split 62 rfl (fun hb => ?_) (fun hb => ?_)
      ·
        replace g_4 := Sh.ite_pos hb g_4
        obtain ⟨r_8, hr_8, g_4⟩ := Sh.bind_some g_4
        refine WpOps.pn 2 rfl trivial ?_
        refine WpOps.consE (v := (bA r_8)) rfl rfl (Exact.call rfl rfl rfl (w_emendref20_Same hr_8)) ?_
        refine WpOps.pn 1 rfl trivial ?_
        refine WpOps.nil ?_
        obtain rfl := Sh.some_inj g_4
        exact ⟨rfl, rfl⟩
      ·
        replace g_4 := Sh.ite_neg hb g_4
        refine WpOps.pn 4 rfl trivial ?_
        refine WpOps.nil ?_
        obtain rfl := Sh.some_inj g_4
        exact ⟨rfl, rfl⟩
    intro env
    refine WpOps.pn 1 rfl trivial ?_
    refine WpOps.nil ?_
    obtain rfl := Sh.some_inj h
    refine WpC.ret ?_
    exact VEnds.ret1 rfl rfl ⟨rfl, hH⟩
end Go.Proofs.Ytdflfbolaicliaa
