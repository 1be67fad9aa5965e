/-
  The code computes what the plain functions say. Printed by a tool.
-/
import Derived.Test.YtdflfbolaicliaaW
set_option linter.unusedVariables false
set_option linter.unusedSimpArgs false
set_option maxRecDepth 20000
set_option maxHeartbeats 8000000
namespace Go.Proofs.Ytdflfbolaicliaa
open Go Go.Vc Go.Sh
attribute [local irreducible] WpC WpOps WpPi WpO Exact TCall VEnds Sh.loopS DEnds

theorem w_emendlaw20_EditsOrder {H0 : Heap} {files_1 : List GFile} {l_1 : List GEdit} {r : Bool} (h : emendlaw20_EditsOrder files_1 l_1 = some r) : TCall Try.prog 4 [(AV.rows 2 (List.map cGFile files_1)), (AV.rows 4 (List.map cGEdit l_1))] H0 (fun v H' => v = (bA r) ∧ H' = H0) noE := by
  refine id (TCall.body Try.func4 rfl rfl ?_)
  have hH : Holds H0 [] H0 := rfl
  refine WpC.seqR ?_
  refine WpOps.pn 1 rfl trivial ?_
  refine WpOps.nil ?_
  refine WpC.seqR ?_
  obtain ⟨r_1, hr_1, h⟩ := Sh.bind_some h
  refine WpOps.consE (v := (bA r_1)) rfl rfl (Exact.call rfl rfl rfl (w_emendlaw20_awake hr_1)) ?_
  refine WpOps.pn 1 rfl trivial ?_
  refine WpOps.nil ?_
  refine WpC.seqR ?_
  obtain ⟨r_2, hr_2, h⟩ := Sh.bind_some h
  refine WpOps.pn 2 rfl trivial ?_
  refine WpOps.consE (v := (bA r_2)) rfl rfl (Exact.call rfl rfl rfl (w_emendlaw20_short hr_2)) ?_
  refine WpOps.pn 1 rfl trivial ?_
  refine WpOps.nil ?_
  refine WpC.seq ?_
  refine WpC.seqR ?_
  refine WpOps.pn 2 rfl trivial ?_
  refine WpOps.nil ?_
  refine WpC.condB rfl (fun hb => ?_) (fun hb => ?_)
  ·
    replace h := Sh.ite_pos hb h
    refine WpC.seqR ?_
    refine WpOps.pn 2 rfl trivial ?_
    refine WpOps.nil ?_
    obtain rfl := Sh.some_inj h
    refine WpC.ret ?_
    exact VEnds.ret1 rfl rfl ⟨rfl, hH⟩
  ·
    replace h := Sh.ite_neg hb h
    refine WpC.skipD ?_
    refine ⟨_, Heap.le_refl _, ?_⟩
    refine WpC.seqR ?_
    refine WpOps.pn 1 rfl trivial ?_
    have hH := hH.nil 34 4
    refine WpOps.nil ?_
    refine WpC.seq ?_
    refine WpC.seqR ?_
    refine WpOps.pn 2 rfl trivial ?_
    refine WpOps.at 27 (len_map _ _) ?_
    obtain ⟨c_1, h⟩ := Sh.chk_some h
    refine WpOps.pn 2 rfl c_1 ?_
    refine WpOps.nil ?_
    refine WpC.blockK (fun x : (List GEdit) × ((Option (Nat × Nat))) => [(0, (AV.rows 2 (List.map cGFile files_1))), (1, (AV.rows 4 (List.map cGEdit l_1))), (5, (bA r_1)), (7, (.own (List.map cGEdit x.1).length x.2))]) (fun x H' => (emendlaw20_EditsOrder_j1 files_1 l_1 r_1) x.1 = some r ∧ Holds H0 [.own 34 4 x.2 (List.map cGEdit x.1)] H') ?_ ?_
    ·
      obtain ⟨o_1, ho_1, hk_1⟩ := Sh.bind_some h
      refine WpC.loopS (emendlaw20_EditsOrder_b2 l_1) (fun (s : Int × List GEdit) (a : (Option (Nat × Nat))) => [(0, (AV.rows 2 (List.map cGFile files_1))), (1, (AV.rows 4 (List.map cGEdit l_1))), (5, (bA r_1)), (7, (.own (List.map cGEdit s.2).length a)), (8, (iA s.1))]) (fun (s : Int × List GEdit) (a : (Option (Nat × Nat))) H' => Holds H0 [.own 34 4 a (List.map cGEdit s.2)] H') o_1 (((l_1.length : Int) - (1 : Int)), ([] : List GEdit)) none ho_1 ⟨rfl, rfl, rfl, rfl, rfl, trivial⟩ hH ?_
      rintro ⟨i_1, back_1⟩ p_1 st_1 env H' h hd_1 hH
      refine WpC.seq ?_
      refine WpC.seqR ?_
      refine WpOps.pn 2 rfl trivial ?_
      refine WpOps.nil ?_
      refine WpC.condB rfl (fun hb => ?_) (fun hb => ?_)
      ·
        replace h := Sh.ite_pos hb h
        refine WpC.skipD ?_
        refine ⟨_, Heap.le_refl _, ?_⟩
        refine WpC.seq ?_
        refine WpC.block ?_
        refine WpC.regionD ?_
        obtain ⟨y_1, hy_1, h⟩ := Sh.bind_some h
        refine WpOps.pn 3 rfl trivial ?_
        refine WpOps.consE (v := (.rop (cGEdit y_1))) rfl rfl (Exact.ixr cGEdit hy_1 rfl rfl rfl rfl (by kernel_rfl) (by decide)) ?_
        refine WpOps.consE (v := (AV.agg (cGEdit y_1))) rfl rfl (Exact.load_rop rfl rfl rfl) ?_
        refine WpOps.consE (v := (AV.rows 4 (List.map cGEdit ([y_1] : List GEdit)))) rfl rfl (Exact.litSlice rfl (by kernel_rfl)) ?_
        obtain ⟨c_2, h⟩ := Sh.chk_some h
        refine WpOps.consG rfl rfl (WpO.pushT cGEdit back_1 ([y_1] : List GEdit) (i := 0) rfl ek23 hH rfl rfl rfl (.rows _) (fun y _ => one_cGEdit y) (by simp) c_2 (by decide) fun p_2 H' hH => ?_)
        refine WpOps.pn 1 rfl trivial ?_
        refine WpOps.nil ?_
        refine ⟨_, Heap.le_refl _, ?_⟩
        refine WpC.regionD ?_
        obtain ⟨c_3, h⟩ := Sh.chk_some h
        refine WpOps.pn 3 rfl c_3 ?_
        refine WpOps.nil ?_
        obtain rfl := Sh.some_inj h
        exact ⟨_, (Heap.le_refl _), ((i_1 - (1 : Int)), (back_1 ++ ([y_1] : List GEdit))), p_2, rfl, ⟨rfl, rfl, rfl, rfl, rfl, trivial⟩, hH⟩
      ·
        replace h := Sh.ite_neg hb h
        obtain rfl := Sh.some_inj h
        have e := hd_1 _ rfl
        subst e
        refine WpC.exit ?_
        exact ⟨(back_1, p_1), ⟨rfl, rfl, rfl, rfl, trivial⟩, hk_1, hH⟩
    ·
      rintro ⟨back_2, p_3⟩ env H' ⟨h, hH⟩
      try dsimp only at h
      refine ⟨_, Heap.le_refl _, ?_⟩
      refine WpC.seqR ?_
      obtain ⟨r_3, hr_3, h⟩ := Sh.bind_some h
      refine WpOps.pn 2 rfl trivial ?_
      refine WpOps.consE (v := (.tup [(AV.rows 2 (List.map cGFile r_3.1)), (iA r_3.2)])) rfl rfl (Exact.call rfl rfl rfl (w_edits_Apply hr_3)) ?_
      refine WpOps.pn 5 rfl trivial ?_
      refine WpOps.nil ?_
      refine WpC.freeze (t := 7) (i := 0) hH rfl rfl (fun H' hH => ?_)
      refine WpC.seqR ?_
      obtain ⟨r_4, hr_4, h⟩ := Sh.bind_some h
      refine WpOps.pn 2 rfl trivial ?_
      refine WpOps.consE (v := (.tup [(AV.rows 2 (List.map cGFile r_4.1)), (iA r_4.2)])) rfl rfl (Exact.call rfl rfl rfl (w_edits_Apply hr_4)) ?_
      refine WpOps.pn 5 rfl trivial ?_
      refine WpOps.nil ?_
      refine WpC.seqR ?_
      obtain ⟨r_5, hr_5, h⟩ := Sh.bind_some h
      refine WpOps.pn 2 rfl trivial ?_
      refine WpOps.consE (v := (.tup [(AV.rows 4 (List.map cGEdit r_5.1)), (iA r_5.2)])) rfl rfl (Exact.call rfl rfl rfl (w_edits_Normal hr_5)) ?_
      refine WpOps.pn 5 rfl trivial ?_
      refine WpOps.nil ?_
      refine WpC.seqR ?_
      obtain ⟨r_6, hr_6, h⟩ := Sh.bind_some h
      refine WpOps.pn 2 rfl trivial ?_
      refine WpOps.consE (v := (.tup [(AV.rows 4 (List.map cGEdit r_6.1)), (iA r_6.2)])) rfl rfl (Exact.call rfl rfl rfl (w_edits_Normal hr_6)) ?_
      refine WpOps.pn 5 rfl trivial ?_
      refine WpOps.nil ?_
      refine WpC.seqR ?_
      obtain ⟨r_7, hr_7, h⟩ := Sh.bind_some h
      refine WpOps.pn 2 rfl trivial ?_
      refine WpOps.consE (v := (.tup [(AV.rows 2 (List.map cGFile r_7.1)), (iA r_7.2)])) rfl rfl (Exact.call rfl rfl rfl (w_edits_Apply hr_7)) ?_
      refine WpOps.pn 5 rfl trivial ?_
      refine WpOps.nil ?_
      refine WpC.seq ?_
      refine WpC.seqR ?_
      refine WpOps.pn 3 rfl trivial ?_
      obtain ⟨b_1, g_1, h⟩ := Sh.bind_some h
      refine WpOps.cutB 6 78 (bA b_1) rfl ?_ ?_
      ·
        refine WpOps.pn 1 rfl trivial ?_
        refine WpOps.split 73 rfl (fun hb => ?_) (fun hb => ?_)
        ·
          replace g_1 := Sh.ite_pos hb g_1
          refine WpOps.pn 5 rfl trivial ?_
          refine WpOps.nil ?_
          obtain rfl := Sh.some_inj g_1
          exact ⟨rfl, rfl⟩
        ·
          replace g_1 := Sh.ite_neg hb g_1
          obtain ⟨r_8, hr_8, g_1⟩ := Sh.bind_some g_1
          refine WpOps.pn 2 rfl trivial ?_
          refine WpOps.consE (v := (bA r_8)) rfl rfl (Exact.call rfl rfl rfl (w_emendref20_Same hr_8)) ?_
          refine WpOps.pn 2 rfl trivial ?_
          refine WpOps.nil ?_
          obtain rfl := Sh.some_inj g_1
          exact ⟨rfl, rfl⟩
      intro env
      obtain ⟨b_2, g_2, h⟩ := Sh.bind_some h
      refine WpOps.cutB 6 84 (bA b_2) rfl ?_ ?_
      ·
        refine WpOps.pn 1 rfl trivial ?_
        refine WpOps.split 79 rfl (fun hb => ?_) (fun hb => ?_)
        ·
          replace g_2 := Sh.ite_pos hb g_2
          refine WpOps.pn 5 rfl trivial ?_
          refine WpOps.nil ?_
          obtain rfl := Sh.some_inj g_2
          exact ⟨rfl, rfl⟩
        ·
          replace g_2 := Sh.ite_neg hb g_2
          obtain ⟨r_9, hr_9, g_2⟩ := Sh.bind_some g_2
          refine WpOps.pn 2 rfl trivial ?_
          refine WpOps.consE (v := (bA r_9)) rfl rfl (Exact.call rfl rfl rfl (w_emendref20_Alike hr_9)) ?_
          refine WpOps.pn 2 rfl trivial ?_
          refine WpOps.nil ?_
          obtain rfl := Sh.some_inj g_2
          exact ⟨rfl, rfl⟩
      intro env
      refine WpOps.nil ?_
      refine WpC.condB rfl (fun hb => ?_) (fun hb => ?_)
      ·
        replace h := Sh.ite_pos hb h
        refine WpC.seqR ?_
        refine WpOps.pn 1 rfl trivial ?_
        refine WpOps.nil ?_
        obtain rfl := Sh.some_inj h
        refine WpC.ret ?_
        exact VEnds.ret1 rfl rfl ⟨rfl, hH⟩
      ·
        replace h := Sh.ite_neg hb h
        refine WpC.skipD ?_
        refine ⟨_, Heap.le_refl _, ?_⟩
        refine WpC.seqR ?_
        refine WpOps.pn 1 rfl trivial ?_
        obtain ⟨b_3, g_3, h⟩ := Sh.bind_some h
        refine WpOps.cutB 13 98 (bA b_3) rfl ?_ ?_
        ·
          refine WpOps.pn 1 rfl trivial ?_
          refine WpOps.split 86 rfl (fun hb => ?_) (fun hb => ?_)
          ·
            replace g_3 := Sh.ite_pos hb g_3
            refine WpOps.pn 2 rfl trivial ?_
            obtain ⟨b_4, g_4, g_3⟩ := Sh.bind_some g_3
            refine WpOps.cutB 9 97 (bA b_4) rfl ?_ ?_
            ·
              refine WpOps.pn 1 rfl trivial ?_
              refine WpOps.split 89 rfl (fun hb => ?_) (fun hb => ?_)
              ·
                replace g_4 := Sh.ite_pos hb g_4
                refine WpOps.pn 8 rfl trivial ?_
                refine WpOps.nil ?_
                obtain rfl := Sh.some_inj g_4
                exact ⟨rfl, rfl⟩
              ·
                replace g_4 := Sh.ite_neg hb g_4
                refine WpOps.pn 2 rfl trivial ?_
                obtain ⟨b_5, g_5, g_4⟩ := Sh.bind_some g_4
                refine WpOps.cutB 5 96 (bA b_5) rfl ?_ ?_
                ·
                  refine WpOps.pn 1 rfl trivial ?_
                  refine WpOps.split 92 rfl (fun hb => ?_) (fun hb => ?_)
                  ·
                    replace g_5 := Sh.ite_pos hb g_5
                    obtain ⟨r_10, hr_10, g_5⟩ := Sh.bind_some g_5
                    refine WpOps.pn 2 rfl trivial ?_
                    refine WpOps.consE (v := (bA r_10)) rfl rfl (Exact.call rfl rfl rfl (w_emendref20_Same hr_10)) ?_
                    refine WpOps.pn 1 rfl trivial ?_
                    refine WpOps.nil ?_
                    obtain rfl := Sh.some_inj g_5
                    exact ⟨rfl, rfl⟩
                  ·
                    replace g_5 := Sh.ite_neg hb g_5
                    refine WpOps.pn 4 rfl trivial ?_
                    refine WpOps.nil ?_
                    obtain rfl := Sh.some_inj g_5
                    exact ⟨rfl, rfl⟩
                intro env
                refine WpOps.pn 1 rfl trivial ?_
                refine WpOps.nil ?_
                obtain rfl := Sh.some_inj g_4
                exact ⟨rfl, rfl⟩
            intro env
            refine WpOps.pn 1 rfl trivial ?_
            refine WpOps.nil ?_
            obtain rfl := Sh.some_inj g_3
            exact ⟨rfl, rfl⟩
          ·
            replace g_3 := Sh.ite_neg hb g_3
            refine WpOps.pn 12 rfl trivial ?_
            refine WpOps.nil ?_
            obtain rfl := Sh.some_inj g_3
            exact ⟨rfl, rfl⟩
        intro env
        refine WpOps.pn 1 rfl trivial ?_
        refine WpOps.nil ?_
        obtain rfl := Sh.some_inj h
        refine WpC.ret ?_
        exact VEnds.ret1 rfl rfl ⟨rfl, hH⟩

theorem w_emendlaw20_EditsAgain {H0 : Heap} {files_1 : List GFile} {l_1 : List GEdit} {r : Bool} (h : emendlaw20_EditsAgain files_1 l_1 = some r) : TCall Try.prog 5 [(AV.rows 2 (List.map cGFile files_1)), (AV.rows 4 (List.map cGEdit l_1))] H0 (fun v H' => v = (bA r) ∧ H' = H0) noE := by
  refine id (TCall.body Try.func5 rfl rfl ?_)
  have hH : Holds H0 [] H0 := rfl
  refine WpC.seqR ?_
  refine WpOps.pn 1 rfl trivial ?_
  refine WpOps.nil ?_
  refine WpC.seqR ?_
  obtain ⟨r_1, hr_1, h⟩ := Sh.bind_some h
  refine WpOps.consE (v := (bA r_1)) rfl rfl (Exact.call rfl rfl rfl (w_emendlaw20_awake hr_1)) ?_
  refine WpOps.pn 1 rfl trivial ?_
  refine WpOps.nil ?_
  refine WpC.seqR ?_
  obtain ⟨r_2, hr_2, h⟩ := Sh.bind_some h
  refine WpOps.pn 2 rfl trivial ?_
  refine WpOps.consE (v := (bA r_2)) rfl rfl (Exact.call rfl rfl rfl (w_emendlaw20_short hr_2)) ?_
  refine WpOps.pn 1 rfl trivial ?_
  refine WpOps.nil ?_
  refine WpC.seq ?_
  refine WpC.seqR ?_
  refine WpOps.pn 2 rfl trivial ?_
  refine WpOps.nil ?_
  refine WpC.condB rfl (fun hb => ?_) (fun hb => ?_)
  ·
    replace h := Sh.ite_pos hb h
    refine WpC.seqR ?_
    refine WpOps.pn 2 rfl trivial ?_
    refine WpOps.nil ?_
    obtain rfl := Sh.some_inj h
    refine WpC.ret ?_
    exact VEnds.ret1 rfl rfl ⟨rfl, hH⟩
  ·
    replace h := Sh.ite_neg hb h
    refine WpC.skipD ?_
    refine ⟨_, Heap.le_refl _, ?_⟩
    refine WpC.seqR ?_
    obtain ⟨r_3, hr_3, h⟩ := Sh.bind_some h
    refine WpOps.pn 2 rfl trivial ?_
    refine WpOps.consE (v := (.tup [(AV.rows 4 (List.map cGEdit r_3.1)), (iA r_3.2)])) rfl rfl (Exact.call rfl rfl rfl (w_edits_Normal hr_3)) ?_
    refine WpOps.pn 5 rfl trivial ?_
    refine WpOps.nil ?_
    refine WpC.seq ?_
    refine WpC.seqR ?_
    refine WpOps.pn 2 rfl trivial ?_
    refine WpOps.nil ?_
    refine WpC.condB rfl (fun hb => ?_) (fun hb => ?_)
    ·
      replace h := Sh.ite_pos hb h
      refine WpC.seqR ?_
      refine WpOps.pn 1 rfl trivial ?_
      obtain ⟨b_1, g_1, h⟩ := Sh.bind_some h
      refine WpOps.cutB 5 33 (bA b_1) rfl ?_ ?_
      ·
        refine WpOps.pn 1 rfl trivial ?_
        refine WpOps.split 29 rfl (fun hb => ?_) (fun hb => ?_)
        ·
          replace g_1 := Sh.ite_pos hb g_1
          refine WpOps.pn 2 rfl trivial ?_
          refine WpOps.at 31 (len_map _ _) ?_
          refine WpOps.pn 2 rfl trivial ?_
          refine WpOps.nil ?_
          obtain rfl := Sh.some_inj g_1
          exact ⟨rfl, rfl⟩
        ·
          replace g_1 := Sh.ite_neg hb g_1
          refine WpOps.pn 4 rfl trivial ?_
          refine WpOps.nil ?_
          obtain rfl := Sh.some_inj g_1
          exact ⟨rfl, rfl⟩
      intro env
      refine WpOps.pn 1 rfl trivial ?_
      refine WpOps.nil ?_
      obtain rfl := Sh.some_inj h
      refine WpC.ret ?_
      exact VEnds.ret1 rfl rfl ⟨rfl, hH⟩
    ·
      replace h := Sh.ite_neg hb h
      refine WpC.skipD ?_
      refine ⟨_, Heap.le_refl _, ?_⟩
      refine WpC.seqR ?_
      obtain ⟨r_4, hr_4, h⟩ := Sh.bind_some h
      refine WpOps.pn 2 rfl trivial ?_
      refine WpOps.consE (v := (.tup [(AV.rows 4 (List.map cGEdit r_4.1)), (iA r_4.2)])) rfl rfl (Exact.call rfl rfl rfl (w_edits_Normal hr_4)) ?_
      refine WpOps.pn 5 rfl trivial ?_
      refine WpOps.nil ?_
      refine WpC.seq ?_
      refine WpC.seqR ?_
      refine WpOps.pn 1 rfl trivial ?_
      refine WpOps.nil ?_
      refine WpC.blockK (fun x : (Unit) × (Unit) => [(5, (bA r_1)), (7, (AV.rows 4 (List.map cGEdit r_3.1))), (9, (AV.rows 4 (List.map cGEdit r_4.1))), (10, (iA r_4.2))]) (fun x H' => (emendlaw20_EditsAgain_j1 r_1 r_3 r_4) x.1 = some r ∧ Holds H0 [] H') ?_ ?_
      ·
        obtain ⟨o_1, ho_1, hk_1⟩ := Sh.bind_some h
        refine WpC.loopS (emendlaw20_EditsAgain_b2 files_1 r_3) (fun (s : Int) (a : Unit) => [(0, (AV.rows 2 (List.map cGFile files_1))), (5, (bA r_1)), (7, (AV.rows 4 (List.map cGEdit r_3.1))), (9, (AV.rows 4 (List.map cGEdit r_4.1))), (10, (iA r_4.2)), (11, (iA s))]) (fun (s : Int) (a : Unit) H' => Holds H0 [] H') o_1 (0 : Int) () ho_1 ⟨rfl, rfl, rfl, rfl, rfl, rfl, trivial⟩ hH ?_
        rintro i_1 _ st_1 env H' h hd_1 hH
        refine WpC.seq ?_
        refine WpC.seqR ?_
        refine WpOps.pn 3 rfl trivial ?_
        refine WpOps.at 42 (len_map _ _) ?_
        refine WpOps.pn 1 rfl trivial ?_
        refine WpOps.nil ?_
        refine WpC.condB rfl (fun hb => ?_) (fun hb => ?_)
        ·
          replace h := Sh.ite_pos hb h
          refine WpC.skipD ?_
          refine ⟨_, Heap.le_refl _, ?_⟩
          refine WpC.seq ?_
          refine WpC.block ?_
          refine WpC.seqR ?_
          obtain ⟨y_1, hy_1, h⟩ := Sh.bind_some h
          refine WpOps.pn 3 rfl trivial ?_
          refine WpOps.consE (v := (.rop (cGEdit y_1))) rfl rfl (Exact.ixr cGEdit hy_1 rfl rfl rfl rfl (by kernel_rfl) (by decide)) ?_
          refine WpOps.consE (v := (AV.agg (cGEdit y_1))) rfl rfl (Exact.load_rop rfl rfl rfl) ?_
          obtain ⟨r_5, hr_5, h⟩ := Sh.bind_some h
          refine WpOps.consE (v := (bA r_5)) rfl rfl (Exact.call rfl rfl rfl (w_emendref20_Right hr_5)) ?_
          refine WpOps.pn 1 rfl trivial ?_
          refine WpOps.nil ?_
          refine WpC.seqD [] [0, 1, 2, 3, 4, 5, 6, 7, 8, 9, 10, 11, 12, 13, 14, 15, 16, 17, 18, 19, 20, 21, 22, 23, 24, 25, 26, 27, 28, 29, 30, 31, 32, 33, 34, 35, 36, 37, 38, 39, 40, 41, 42, 43, 44, 45, 46, 47, 48, 49, 50, 51, 52, 53, 54, 55, 56, 57, 58, 59, 60, 61, 62, 63, 64, 65, 66, 67, 68, 69, 70, 71, 72, 73, 74, 75] (by kernel_rfl) (by kernel_rfl) ?_
          refine WpPi.pn 2 rfl trivial ?_
          obtain ⟨b_2, g_2, h⟩ := Sh.bind_some h
          refine WpPi.cutB 28 81 (bA b_2) rfl ?_ ?_
          ·
            refine WpPi.pn 1 rfl trivial ?_
            refine WpPi.split 54 rfl (fun hb => ?_) (fun hb => ?_)
            ·
              replace g_2 := Sh.ite_pos hb g_2
              refine WpPi.pn 3 rfl trivial ?_
              refine WpPi.skip rfl rfl rfl ?_
              refine WpPi.pn 1 rfl trivial ?_
              refine WpPi.skip rfl rfl rfl ?_
              refine WpPi.skip rfl rfl rfl ?_
              refine WpPi.pn 1 rfl trivial ?_
              refine WpPi.skip rfl rfl rfl ?_
              refine WpPi.pn 2 rfl trivial ?_
              refine WpPi.skip rfl rfl rfl ?_
              refine WpPi.pn 1 rfl trivial ?_
              refine WpPi.skip rfl rfl rfl ?_
              refine WpPi.pn 2 rfl trivial ?_
              refine WpPi.skip rfl rfl rfl ?_
              refine WpPi.pn 1 rfl trivial ?_
              refine WpPi.skip rfl rfl rfl ?_
              refine WpPi.pn 3 rfl trivial ?_
              refine WpPi.skip rfl rfl rfl ?_
              refine WpPi.pn 1 rfl trivial ?_
              refine WpPi.skip rfl rfl rfl ?_
              refine WpPi.pn 2 rfl trivial ?_
              refine WpPi.nil ?_
              obtain rfl := Sh.some_inj g_2
              exact ⟨rfl, rfl⟩
            ·
              replace g_2 := Sh.ite_neg hb g_2
              obtain ⟨y_2, hy_2, g_2⟩ := Sh.bind_some g_2
              refine WpPi.pn 3 rfl trivial ?_
              refine WpPi.consI (v := (.rop (cGEdit y_2))) rfl rfl rfl rfl (fun _ => Exact.ixr cGEdit hy_2 rfl rfl rfl rfl (by kernel_rfl) (by decide)) ?_
              refine WpPi.pn 1 rfl trivial ?_
              refine WpPi.consI (v := (iA y_2.file_)) rfl rfl rfl rfl (fun _ => Exact.load_rop rfl rfl rfl) ?_
              obtain ⟨y_3, hy_3, g_2⟩ := Sh.bind_some g_2
              refine WpPi.consI (v := (.rop (cGFile y_3))) rfl rfl rfl rfl (fun _ => Exact.ixr cGFile hy_3 rfl rfl rfl rfl (by kernel_rfl) (by decide)) ?_
              refine WpPi.pn 1 rfl trivial ?_
              refine WpPi.consI (v := (sA y_3.text)) rfl rfl rfl rfl (fun _ => Exact.load_rop rfl rfl rfl) ?_
              obtain ⟨y_4, hy_4, g_2⟩ := Sh.bind_some g_2
              refine WpPi.pn 2 rfl trivial ?_
              refine WpPi.consI (v := (.rop (cGEdit y_4))) rfl rfl rfl rfl (fun _ => Exact.ixr cGEdit hy_4 rfl rfl rfl rfl (by kernel_rfl) (by decide)) ?_
              refine WpPi.pn 1 rfl trivial ?_
              refine WpPi.consI (v := (iA y_4.from_)) rfl rfl rfl rfl (fun _ => Exact.load_rop rfl rfl rfl) ?_
              obtain ⟨y_5, hy_5, g_2⟩ := Sh.bind_some g_2
              refine WpPi.pn 2 rfl trivial ?_
              refine WpPi.consI (v := (.rop (cGEdit y_5))) rfl rfl rfl rfl (fun _ => Exact.ixr cGEdit hy_5 rfl rfl rfl rfl (by kernel_rfl) (by decide)) ?_
              refine WpPi.pn 1 rfl trivial ?_
              refine WpPi.consI (v := (iA y_5.to)) rfl rfl rfl rfl (fun _ => Exact.load_rop rfl rfl rfl) ?_
              obtain ⟨c_1, g_2⟩ := Sh.chk_some g_2
              refine WpPi.pn 1 rfl (show 0 ≤ y_4.from_ ∧ 0 ≤ y_5.to ∧ ((y_4.from_).toNat ≤ (y_5.to).toNat ∧ (y_5.to).toNat ≤ y_3.text.length) from ⟨(by omega), (by omega), (by omega)⟩) ?_
              obtain ⟨y_6, hy_6, g_2⟩ := Sh.bind_some g_2
              refine WpPi.pn 2 rfl trivial ?_
              refine WpPi.consI (v := (.rop (cGEdit y_6))) rfl rfl rfl rfl (fun _ => Exact.ixr cGEdit hy_6 rfl rfl rfl rfl (by kernel_rfl) (by decide)) ?_
              refine WpPi.pn 1 rfl trivial ?_
              refine WpPi.consI (v := (sA y_6.text)) rfl rfl rfl rfl (fun _ => Exact.load_rop rfl rfl rfl) ?_
              refine WpPi.pn 2 rfl trivial ?_
              refine WpPi.nil ?_
              obtain rfl := Sh.some_inj g_2
              exact ⟨rfl, rfl⟩
          intro env
          obtain ⟨b_3, g_3, h⟩ := Sh.bind_some h
          refine WpPi.cutB 46 127 (bA b_3) rfl ?_ ?_
          ·
            refine WpPi.pn 1 rfl trivial ?_
            refine WpPi.split 82 rfl (fun hb => ?_) (fun hb => ?_)
            ·
              replace g_3 := Sh.ite_pos hb g_3
              refine WpPi.pn 5 rfl trivial ?_
              refine WpPi.skip rfl rfl rfl ?_
              refine WpPi.pn 1 rfl trivial ?_
              refine WpPi.skip rfl rfl rfl ?_
              refine WpPi.pn 3 rfl trivial ?_
              refine WpPi.skip rfl rfl rfl ?_
              refine WpPi.pn 1 rfl trivial ?_
              refine WpPi.skip rfl rfl rfl ?_
              refine WpPi.pn 4 rfl trivial ?_
              refine WpPi.skip rfl rfl rfl ?_
              refine WpPi.pn 1 rfl trivial ?_
              refine WpPi.skip rfl rfl rfl ?_
              refine WpPi.pn 3 rfl trivial ?_
              refine WpPi.skip rfl rfl rfl ?_
              refine WpPi.pn 1 rfl trivial ?_
              refine WpPi.skip rfl rfl rfl ?_
              refine WpPi.pn 4 rfl trivial ?_
              refine WpPi.skip rfl rfl rfl ?_
              refine WpPi.pn 1 rfl trivial ?_
              refine WpPi.skip rfl rfl rfl ?_
              refine WpPi.pn 3 rfl trivial ?_
              refine WpPi.skip rfl rfl rfl ?_
              refine WpPi.pn 1 rfl trivial ?_
              refine WpPi.skip rfl rfl rfl ?_
              refine WpPi.pn 5 rfl trivial ?_
              refine WpPi.nil ?_
              obtain rfl := Sh.some_inj g_3
              exact ⟨rfl, rfl⟩
            ·
              replace g_3 := Sh.ite_neg hb g_3
              refine WpPi.pn 2 rfl trivial ?_
              obtain ⟨b_4, g_4, g_3⟩ := Sh.bind_some g_3
              refine WpPi.cutB 42 126 (bA b_4) rfl ?_ ?_
              ·
                refine WpPi.pn 1 rfl trivial ?_
                refine WpPi.split 85 rfl (fun hb => ?_) (fun hb => ?_)
                ·
                  replace g_4 := Sh.ite_pos hb g_4
                  obtain ⟨y_7, hy_7, g_4⟩ := Sh.bind_some g_4
                  refine WpPi.pn 2 rfl trivial ?_
                  refine WpPi.consI (v := (.rop (cGEdit y_7))) rfl rfl rfl rfl (fun _ => Exact.ixr cGEdit hy_7 rfl rfl rfl rfl (by kernel_rfl) (by decide)) ?_
                  refine WpPi.pn 1 rfl trivial ?_
                  refine WpPi.consI (v := (iA y_7.file_)) rfl rfl rfl rfl (fun _ => Exact.load_rop rfl rfl rfl) ?_
                  obtain ⟨c_2, g_4⟩ := Sh.chk_some g_4
                  obtain ⟨y_8, hy_8, g_4⟩ := Sh.bind_some g_4
                  refine WpPi.pn 3 rfl c_2 ?_
                  refine WpPi.consI (v := (.rop (cGEdit y_8))) rfl rfl rfl rfl (fun _ => Exact.ixr cGEdit hy_8 rfl rfl rfl rfl (by kernel_rfl) (by decide)) ?_
                  refine WpPi.pn 1 rfl trivial ?_
                  refine WpPi.consI (v := (iA y_8.file_)) rfl rfl rfl rfl (fun _ => Exact.load_rop rfl rfl rfl) ?_
                  refine WpPi.pn 1 rfl trivial ?_
                  obtain ⟨b_5, g_5, g_4⟩ := Sh.bind_some g_4
                  refine WpPi.cutB 28 125 (bA b_5) rfl ?_ ?_
                  ·
                    refine WpPi.pn 1 rfl trivial ?_
                    refine WpPi.split 98 rfl (fun hb => ?_) (fun hb => ?_)
                    ·
                      replace g_5 := Sh.ite_pos hb g_5
                      refine WpPi.pn 2 rfl trivial ?_
                      refine WpPi.skip rfl rfl rfl ?_
                      refine WpPi.pn 1 rfl trivial ?_
                      refine WpPi.skip rfl rfl rfl ?_
                      refine WpPi.pn 3 rfl trivial ?_
                      refine WpPi.skip rfl rfl rfl ?_
                      refine WpPi.pn 1 rfl trivial ?_
                      refine WpPi.skip rfl rfl rfl ?_
                      refine WpPi.pn 4 rfl trivial ?_
                      refine WpPi.skip rfl rfl rfl ?_
                      refine WpPi.pn 1 rfl trivial ?_
                      refine WpPi.skip rfl rfl rfl ?_
                      refine WpPi.pn 3 rfl trivial ?_
                      refine WpPi.skip rfl rfl rfl ?_
                      refine WpPi.pn 1 rfl trivial ?_
                      refine WpPi.skip rfl rfl rfl ?_
                      refine WpPi.pn 3 rfl trivial ?_
                      refine WpPi.nil ?_
                      obtain rfl := Sh.some_inj g_5
                      exact ⟨rfl, rfl⟩
                    ·
                      replace g_5 := Sh.ite_neg hb g_5
                      obtain ⟨y_9, hy_9, g_5⟩ := Sh.bind_some g_5
                      refine WpPi.pn 2 rfl trivial ?_
                      refine WpPi.consI (v := (.rop (cGEdit y_9))) rfl rfl rfl rfl (fun _ => Exact.ixr cGEdit hy_9 rfl rfl rfl rfl (by kernel_rfl) (by decide)) ?_
                      refine WpPi.pn 1 rfl trivial ?_
                      refine WpPi.consI (v := (iA y_9.file_)) rfl rfl rfl rfl (fun _ => Exact.load_rop rfl rfl rfl) ?_
                      obtain ⟨c_3, g_5⟩ := Sh.chk_some g_5
                      obtain ⟨y_10, hy_10, g_5⟩ := Sh.bind_some g_5
                      refine WpPi.pn 3 rfl c_3 ?_
                      refine WpPi.consI (v := (.rop (cGEdit y_10))) rfl rfl rfl rfl (fun _ => Exact.ixr cGEdit hy_10 rfl rfl rfl rfl (by kernel_rfl) (by decide)) ?_
                      refine WpPi.pn 1 rfl trivial ?_
                      refine WpPi.consI (v := (iA y_10.file_)) rfl rfl rfl rfl (fun _ => Exact.load_rop rfl rfl rfl) ?_
                      refine WpPi.pn 1 rfl trivial ?_
                      obtain ⟨b_6, g_6, g_5⟩ := Sh.bind_some g_5
                      refine WpPi.cutB 14 124 (bA b_6) rfl ?_ ?_
                      ·
                        refine WpPi.pn 1 rfl trivial ?_
                        refine WpPi.split 111 rfl (fun hb => ?_) (fun hb => ?_)
                        ·
                          replace g_6 := Sh.ite_pos hb g_6
                          obtain ⟨y_11, hy_11, g_6⟩ := Sh.bind_some g_6
                          refine WpPi.pn 2 rfl trivial ?_
                          refine WpPi.consI (v := (.rop (cGEdit y_11))) rfl rfl rfl rfl (fun _ => Exact.ixr cGEdit hy_11 rfl rfl rfl rfl (by kernel_rfl) (by decide)) ?_
                          refine WpPi.pn 1 rfl trivial ?_
                          refine WpPi.consI (v := (iA y_11.from_)) rfl rfl rfl rfl (fun _ => Exact.load_rop rfl rfl rfl) ?_
                          obtain ⟨c_4, g_6⟩ := Sh.chk_some g_6
                          obtain ⟨y_12, hy_12, g_6⟩ := Sh.bind_some g_6
                          refine WpPi.pn 3 rfl c_4 ?_
                          refine WpPi.consI (v := (.rop (cGEdit y_12))) rfl rfl rfl rfl (fun _ => Exact.ixr cGEdit hy_12 rfl rfl rfl rfl (by kernel_rfl) (by decide)) ?_
                          refine WpPi.pn 1 rfl trivial ?_
                          refine WpPi.consI (v := (iA y_12.to)) rfl rfl rfl rfl (fun _ => Exact.load_rop rfl rfl rfl) ?_
                          refine WpPi.pn 2 rfl trivial ?_
                          refine WpPi.nil ?_
                          obtain rfl := Sh.some_inj g_6
                          exact ⟨rfl, rfl⟩
                        ·
                          replace g_6 := Sh.ite_neg hb g_6
                          refine WpPi.pn 2 rfl trivial ?_
                          refine WpPi.skip rfl rfl rfl ?_
                          refine WpPi.pn 1 rfl trivial ?_
                          refine WpPi.skip rfl rfl rfl ?_
                          refine WpPi.pn 3 rfl trivial ?_
                          refine WpPi.skip rfl rfl rfl ?_
                          refine WpPi.pn 1 rfl trivial ?_
                          refine WpPi.skip rfl rfl rfl ?_
                          refine WpPi.pn 2 rfl trivial ?_
                          refine WpPi.nil ?_
                          obtain rfl := Sh.some_inj g_6
                          exact ⟨rfl, rfl⟩
                      intro env
                      refine WpPi.pn 1 rfl trivial ?_
                      refine WpPi.nil ?_
                      obtain rfl := Sh.some_inj g_5
                      exact ⟨rfl, rfl⟩
                  intro env
                  refine WpPi.pn 1 rfl trivial ?_
                  refine WpPi.nil ?_
                  obtain rfl := Sh.some_inj g_4
                  exact ⟨rfl, rfl⟩
                ·
                  replace g_4 := Sh.ite_neg hb g_4
                  refine WpPi.pn 2 rfl trivial ?_
                  refine WpPi.skip rfl rfl rfl ?_
                  refine WpPi.pn 1 rfl trivial ?_
                  refine WpPi.skip rfl rfl rfl ?_
                  refine WpPi.pn 3 rfl trivial ?_
                  refine WpPi.skip rfl rfl rfl ?_
                  refine WpPi.pn 1 rfl trivial ?_
                  refine WpPi.skip rfl rfl rfl ?_
                  refine WpPi.pn 4 rfl trivial ?_
                  refine WpPi.skip rfl rfl rfl ?_
                  refine WpPi.pn 1 rfl trivial ?_
                  refine WpPi.skip rfl rfl rfl ?_
                  refine WpPi.pn 3 rfl trivial ?_
                  refine WpPi.skip rfl rfl rfl ?_
                  refine WpPi.pn 1 rfl trivial ?_
                  refine WpPi.skip rfl rfl rfl ?_
                  refine WpPi.pn 4 rfl trivial ?_
                  refine WpPi.skip rfl rfl rfl ?_
                  refine WpPi.pn 1 rfl trivial ?_
                  refine WpPi.skip rfl rfl rfl ?_
                  refine WpPi.pn 3 rfl trivial ?_
                  refine WpPi.skip rfl rfl rfl ?_
                  refine WpPi.pn 1 rfl trivial ?_
                  refine WpPi.skip rfl rfl rfl ?_
                  refine WpPi.pn 4 rfl trivial ?_
                  refine WpPi.nil ?_
                  obtain rfl := Sh.some_inj g_4
                  exact ⟨rfl, rfl⟩
              intro env
              refine WpPi.pn 1 rfl trivial ?_
              refine WpPi.nil ?_
              obtain rfl := Sh.some_inj g_3
              exact ⟨rfl, rfl⟩
          intro env
          refine WpPi.nil ?_
          refine WpC.condB rfl (fun hb => ?_) (fun hb => ?_)
          ·
            replace h := Sh.ite_pos hb h
            refine WpC.seqR ?_
            refine WpOps.pn 1 rfl trivial ?_
            refine WpOps.nil ?_
            obtain rfl := Sh.some_inj h
            have e := hd_1 _ rfl
            subst e
            have h := hk_1
            obtain rfl := Sh.some_inj h
            refine WpC.ret ?_
            exact VEnds.ret1 rfl rfl ⟨rfl, hH⟩
          ·
            replace h := Sh.ite_neg hb h
            refine WpC.skipD ?_
            refine ⟨_, Heap.le_refl _, ?_⟩
            refine WpC.regionD ?_
            obtain ⟨c_5, h⟩ := Sh.chk_some h
            refine WpOps.pn 3 rfl c_5 ?_
            refine WpOps.nil ?_
            obtain rfl := Sh.some_inj h
            exact ⟨_, (Heap.le_refl _), (i_1 + (1 : Int)), (), rfl, ⟨rfl, rfl, rfl, rfl, rfl, rfl, trivial⟩, hH⟩
        ·
          replace h := Sh.ite_neg hb h
          obtain rfl := Sh.some_inj h
          have e := hd_1 _ rfl
          subst e
          refine WpC.exit ?_
          exact ⟨((), ()), ⟨rfl, rfl, rfl, rfl, trivial⟩, hk_1, hH⟩
      ·
        rintro ⟨_, _⟩ env H' ⟨h, hH⟩
        try dsimp only at h
        refine ⟨_, Heap.le_refl _, ?_⟩
        refine WpC.seqR ?_
        refine WpOps.pn 1 rfl trivial ?_
        obtain ⟨b_7, g_7, h⟩ := Sh.bind_some h
        refine WpOps.cutB 4 132 (bA b_7) rfl ?_ ?_
        ·
          refine WpOps.pn 1 rfl trivial ?_
          refine WpOps.split 129 rfl (fun hb => ?_) (fun hb => ?_)
          ·
            replace g_7 := Sh.ite_pos hb g_7
            refine WpOps.pn 3 rfl trivial ?_
            refine WpOps.nil ?_
            obtain rfl := Sh.some_inj g_7
            exact ⟨rfl, rfl⟩
          ·
            replace g_7 := Sh.ite_neg hb g_7
            refine WpOps.pn 3 rfl trivial ?_
            refine WpOps.nil ?_
            obtain rfl := Sh.some_inj g_7
            exact ⟨rfl, rfl⟩
        intro env
        obtain ⟨b_8, g_8, h⟩ := Sh.bind_some h
        refine WpOps.cutB 5 137 (bA b_8) rfl ?_ ?_
        ·
          refine WpOps.pn 1 rfl trivial ?_
          refine WpOps.split 133 rfl (fun hb => ?_) (fun hb => ?_)
          ·
            replace g_8 := Sh.ite_pos hb g_8
            obtain ⟨r_6, hr_6, g_8⟩ := Sh.bind_some g_8
            refine WpOps.pn 2 rfl trivial ?_
            refine WpOps.consE (v := (bA r_6)) rfl rfl (Exact.call rfl rfl rfl (w_emendref20_Alike hr_6)) ?_
            refine WpOps.pn 1 rfl trivial ?_
            refine WpOps.nil ?_
            obtain rfl := Sh.some_inj g_8
            exact ⟨rfl, rfl⟩
          ·
            replace g_8 := Sh.ite_neg hb g_8
            refine WpOps.pn 4 rfl trivial ?_
            refine WpOps.nil ?_
            obtain rfl := Sh.some_inj g_8
            exact ⟨rfl, rfl⟩
        intro env
        refine WpOps.pn 1 rfl trivial ?_
        refine WpOps.nil ?_
        obtain rfl := Sh.some_inj h
        refine WpC.ret ?_
        exact VEnds.ret1 rfl rfl ⟨rfl, hH⟩

theorem w_edits_Undo {H0 : Heap} {files_1 : List GFile} {l_1 : List GEdit} {r : List GEdit × Int} (h : edits_Undo files_1 l_1 = some r) : TCall Try.prog 19 [(AV.rows 2 (List.map cGFile files_1)), (AV.rows 4 (List.map cGEdit l_1))] H0 (fun v H' => v = (.tup [(AV.rows 4 (List.map cGEdit r.1)), (iA r.2)]) ∧ H' = H0) noE := by
  refine id (TCall.body Try.func19 rfl rfl ?_)
  have hH : Holds H0 [] H0 := rfl
  refine WpC.seqR ?_
  refine WpOps.pn 2 rfl trivial ?_
  refine WpOps.nil ?_
  refine WpC.seqR ?_
  obtain ⟨r_1, hr_1, h⟩ := Sh.bind_some h
  refine WpOps.pn 2 rfl trivial ?_
  refine WpOps.consE (v := (.tup [(AV.rows 4 (List.map cGEdit r_1.1)), (iA r_1.2)])) rfl rfl (Exact.call rfl rfl rfl (w_edits_Normal hr_1)) ?_
  refine WpOps.pn 5 rfl trivial ?_
  refine WpOps.nil ?_
  refine WpC.seq ?_
  refine WpC.seqR ?_
  refine WpOps.pn 2 rfl trivial ?_
  refine WpOps.nil ?_
  refine WpC.condB rfl (fun hb => ?_) (fun hb => ?_)
  ·
    replace h := Sh.ite_pos hb h
    refine WpC.seqR ?_
    refine WpOps.pn 3 rfl trivial ?_
    refine WpOps.nil ?_
    refine WpC.sub (t := 4) (Sub.nil 4) ?_
    obtain rfl := Sh.some_inj h
    refine WpC.ret ?_
    exact VEnds.ret2 rfl rfl rfl ⟨rfl, hH⟩
  ·
    replace h := Sh.ite_neg hb h
    refine WpC.skipD ?_
    refine ⟨_, Heap.le_refl _, ?_⟩
    refine WpC.seqR ?_
    refine WpOps.pn 2 rfl trivial ?_
    refine WpOps.at 22 (len_map _ _) ?_
    obtain ⟨c_1, h⟩ := Sh.chk_some h
    refine WpOps.consG rfl rfl (WpO.makeT cI (z := (0 : Int)) (n := (files_1.length : Int)) c_1 rfl rfl rfl hH rfl rfl rfl rfl (by decide) fun g_1 cp_1 H' hH => ?_)
    refine WpOps.pn 1 rfl trivial ?_
    refine WpOps.nil ?_
    refine WpC.seqR ?_
    refine WpOps.pn 1 rfl trivial ?_
    have hH := hH.nil 34 4
    refine WpOps.nil ?_
    refine WpC.seq ?_
    refine WpC.seqR ?_
    refine WpOps.pn 2 rfl trivial ?_
    refine WpOps.at 25 (len_map _ _) ?_
    refine WpOps.pn 1 rfl trivial ?_
    refine WpOps.nil ?_
    refine WpC.blockK (fun x : (List GEdit) × ((Option (Nat × Nat))) => [(8, (.own (List.map cGEdit x.1).length x.2))]) (fun x H' => edits_Undo_j1 x.1 = some r ∧ Holds H0 [.own 34 4 x.2 (List.map cGEdit x.1)] H') ?_ ?_
    ·
      obtain ⟨o_1, ho_1, hk_1⟩ := Sh.bind_some h
      refine WpC.loopS (edits_Undo_b2 files_1 r_1) (fun (s : Int × List GEdit × List Int) (a : (Option (Nat × Nat)) × (Option (Nat × Nat))) => [(0, (AV.rows 2 (List.map cGFile files_1))), (7, (.own (List.map cI s.2.2).length a.2)), (8, (.own (List.map cGEdit s.2.1).length a.1)), (24, (AV.rows 4 (List.map cGEdit r_1.1))), (25, (iA (r_1.1.length : Int))), (26, (iA s.1))]) (fun (s : Int × List GEdit × List Int) (a : (Option (Nat × Nat)) × (Option (Nat × Nat))) H' => Holds H0 [.own 34 4 a.1 (List.map cGEdit s.2.1), .own 3 1 a.2 (List.map cI s.2.2)] H') o_1 ((0 : Int), ([] : List GEdit), (List.replicate ((files_1.length : Int)).toNat (0 : Int))) (none, (some (g_1, cp_1))) ho_1 ⟨rfl, rfl, rfl, rfl, rfl, rfl, trivial⟩ hH ?_
      rintro ⟨t26_1, out_1, moved_1⟩ ⟨p_1, p_2⟩ st_1 env H' h hd_1 hH
      refine WpC.seqR ?_
      refine WpOps.pn 1 rfl trivial ?_
      refine WpOps.nil ?_
      refine WpC.seq ?_
      refine WpC.condB rfl (fun hb => ?_) (fun hb => ?_)
      ·
        replace h := Sh.ite_pos hb h
        refine WpC.skipD ?_
        refine ⟨_, Heap.le_refl _, ?_⟩
        refine WpC.seq ?_
        refine WpC.block ?_
        refine WpC.seqR ?_
        obtain ⟨y_1, hy_1, h⟩ := Sh.bind_some h
        refine WpOps.consE (v := (.rop (cGEdit y_1))) rfl rfl (Exact.ixr cGEdit hy_1 rfl rfl rfl rfl (by kernel_rfl) (by decide)) ?_
        refine WpOps.consE (v := (AV.agg (cGEdit y_1))) rfl rfl (Exact.load_rop rfl rfl rfl) ?_
        refine WpOps.consG rfl rfl (WpO.allocT (z := cGEdit (GEdit.mk (0 : Int) (0 : Int) (0 : Int) ([] : List UInt8))) rfl rfl hH fun g_2 H' hH => ?_)
        refine WpOps.consG rfl rfl (WpO.putT (cs' := (cGEdit y_1)) (v := (AV.agg (cGEdit y_1))) rfl rfl hH (i := 0) rfl rfl rfl rfl rfl rfl rfl fun H' hH => ?_)
        refine WpOps.nil ?_
        refine WpC.seqD [.I, .S, .I, .I, .S, .S, .S] [0, 1, 2, 3, 4, 5, 6, 7, 8] (by kernel_rfl) (by kernel_rfl) ?_
        refine WpPi.pn 1 rfl trivial ?_
        refine WpPi.consS (v := (iA y_1.from_)) rfl rfl rfl rfl (Exact.load rfl rfl (hH.cell (i := 0) rfl) rfl rfl) ?_
        refine WpPi.pn 2 rfl trivial ?_
        refine WpPi.consS (v := (iA y_1.file_)) rfl rfl rfl rfl (Exact.load rfl rfl (hH.cell (i := 0) rfl) rfl rfl) ?_
        obtain ⟨y_2, hy_2, h⟩ := Sh.bind_some h
        have hq_1 := h; have hq_2 := hH
        obtain ⟨g_3, cp_2, rfl⟩ := hq_2.grown (i := 2) rfl (ne_of_ix hy_2)
        have h := hq_1; have hH := hq_2
        refine WpPi.consS rfl rfl rfl rfl (Exact.ixo (size := 1) cI hy_2 rfl rfl rfl rfl (by kernel_rfl) (by decide)) ?_
        refine WpPi.consS (v := (iA y_2)) rfl rfl rfl rfl (Exact.ldo (off := 0) (i := 2) cI hy_2 hH rfl rfl rfl (by decide) rfl) ?_
        obtain ⟨c_2, h⟩ := Sh.chk_some h
        refine WpPi.pn 2 rfl c_2 ?_
        refine WpPi.nil ?_
        refine WpC.seqD [.I, .I, .S, .I, .I, .I, .S, .I, .I, .I, .I, .S, .I, .I, .I, .I, .S, .I, .S, .I, .I, .I, .E] [0, 1, 2, 3, 4, 5, 6, 7, 8, 9, 10, 11, 12, 13, 14, 15, 16, 17, 18, 19, 20, 21, 22, 23] (by kernel_rfl) (by kernel_rfl) ?_
        refine WpPi.pn 2 rfl trivial ?_
        refine WpPi.consS (v := (iA y_1.file_)) rfl rfl rfl rfl (Exact.load rfl rfl (hH.cell (i := 0) rfl) rfl rfl) ?_
        refine WpPi.pn 3 rfl trivial ?_
        refine WpPi.consS (v := (sA y_1.text)) rfl rfl rfl rfl (Exact.load rfl rfl (hH.cell (i := 0) rfl) rfl rfl) ?_
        obtain ⟨c_3, h⟩ := Sh.chk_some h
        refine WpPi.pn 4 rfl c_3 ?_
        refine WpPi.consS (v := (iA y_1.file_)) rfl rfl rfl rfl (Exact.load rfl rfl (hH.cell (i := 0) rfl) rfl rfl) ?_
        obtain ⟨y_3, hy_3, h⟩ := Sh.bind_some h
        refine WpPi.consI (v := (.rop (cGFile y_3))) rfl rfl rfl rfl (fun _ => Exact.ixr cGFile hy_3 rfl rfl rfl rfl (by kernel_rfl) (by decide)) ?_
        refine WpPi.pn 1 rfl trivial ?_
        refine WpPi.consI (v := (sA y_3.text)) rfl rfl rfl rfl (fun _ => Exact.load_rop rfl rfl rfl) ?_
        refine WpPi.pn 1 rfl trivial ?_
        refine WpPi.consS (v := (iA y_1.from_)) rfl rfl rfl rfl (Exact.load rfl rfl (hH.cell (i := 0) rfl) rfl rfl) ?_
        refine WpPi.pn 1 rfl trivial ?_
        refine WpPi.consS (v := (iA y_1.to)) rfl rfl rfl rfl (Exact.load rfl rfl (hH.cell (i := 0) rfl) rfl rfl) ?_
        obtain ⟨c_4, h⟩ := Sh.chk_some h
        refine WpPi.pn 1 rfl (show 0 ≤ y_1.from_ ∧ 0 ≤ y_1.to ∧ ((y_1.from_).toNat ≤ (y_1.to).toNat ∧ (y_1.to).toNat ≤ y_3.text.length) from ⟨(by omega), (by omega), (by omega)⟩) ?_
        refine WpPi.pn 1 rfl trivial ?_
        refine WpPi.consI (v := (AV.rows 4 (List.map cGEdit ([(GEdit.mk y_1.file_ (y_1.from_ + y_2) ((y_1.from_ + y_2) + (y_1.text.length : Int)) ((y_3.text.drop (y_1.from_).toNat).take ((y_1.to).toNat - (y_1.from_).toNat)))] : List GEdit)))) rfl rfl rfl rfl (fun _ => Exact.litSlice rfl (by kernel_rfl)) ?_
        obtain ⟨c_5, h⟩ := Sh.chk_some h
        refine WpPi.consE rfl rfl rfl rfl (WpO.pushT cGEdit out_1 ([(GEdit.mk y_1.file_ (y_1.from_ + y_2) ((y_1.from_ + y_2) + (y_1.text.length : Int)) ((y_3.text.drop (y_1.from_).toNat).take ((y_1.to).toNat - (y_1.from_).toNat)))] : List GEdit) (i := 1) rfl ek23 hH rfl rfl rfl (.rows _) (fun y _ => one_cGEdit y) (by simp) c_5 (by decide) fun p_3 H' hH => ?_)
        refine WpPi.pn 1 rfl trivial ?_
        refine WpPi.nil ?_
        refine WpC.drawD [.I, .I, .S, .S, .S, .I, .S, .I, .I, .S, .I, .S, .I, .I, .I, .S, .E] [0, 1, 2, 3, 4, 5, 6, 7, 8, 9, 10, 11, 12, 13, 14, 15, 16] (by kernel_rfl) (by kernel_rfl) ?_
        refine WpPi.pn 2 rfl trivial ?_
        refine WpPi.consS (v := (iA y_1.file_)) rfl rfl rfl rfl (Exact.load rfl rfl (hH.cell (i := 0) rfl) rfl rfl) ?_
        obtain ⟨y_4, hy_4, h⟩ := Sh.bind_some h
        refine WpPi.consS rfl rfl rfl rfl (Exact.ixo (size := 1) cI hy_4 rfl rfl rfl rfl (by kernel_rfl) (by decide)) ?_
        refine WpPi.consS (v := (iA y_4)) rfl rfl rfl rfl (Exact.ldo (off := 0) (i := 2) cI hy_4 hH rfl rfl rfl (by decide) rfl) ?_
        refine WpPi.pn 1 rfl trivial ?_
        refine WpPi.consS (v := (sA y_1.text)) rfl rfl rfl rfl (Exact.load rfl rfl (hH.cell (i := 0) rfl) rfl rfl) ?_
        refine WpPi.pn 2 rfl trivial ?_
        refine WpPi.consS (v := (iA y_1.to)) rfl rfl rfl rfl (Exact.load rfl rfl (hH.cell (i := 0) rfl) rfl rfl) ?_
        refine WpPi.pn 1 rfl trivial ?_
        refine WpPi.consS (v := (iA y_1.from_)) rfl rfl rfl rfl (Exact.load rfl rfl (hH.cell (i := 0) rfl) rfl rfl) ?_
        obtain ⟨c_6, h⟩ := Sh.chk_some h
        obtain ⟨c_7, h⟩ := Sh.chk_some h
        obtain ⟨c_8, h⟩ := Sh.chk_some h
        obtain ⟨y_5, hy_5, h⟩ := Sh.bind_some h
        refine WpPi.pn 3 rfl ⟨c_8, c_7, c_6⟩ ?_
        refine WpPi.consS rfl rfl rfl rfl (Exact.ixo (size := 1) cI hy_5 rfl rfl rfl rfl (by kernel_rfl) (by decide)) ?_
        refine WpPi.consE rfl rfl rfl rfl (WpO.setT (off := 0) (i := 2) cI (y' := (y_4 + ((y_1.text.length : Int) - (y_1.to - y_1.from_)))) (v := (iA (y_4 + ((y_1.text.length : Int) - (y_1.to - y_1.from_))))) hy_5 hH rfl rfl rfl rfl rfl rfl rfl rfl rfl fun H' hH => ?_)
        refine WpPi.at 7 (own_set cI moved_1 (y_1.file_).toNat (y_4 + ((y_1.text.length : Int) - (y_1.to - y_1.from_))) _) ?_
        refine WpPi.at 32 (own_set cI moved_1 (y_1.file_).toNat (y_4 + ((y_1.text.length : Int) - (y_1.to - y_1.from_))) _) ?_
        refine WpPi.at 61 (own_set cI moved_1 (y_1.file_).toNat (y_4 + ((y_1.text.length : Int) - (y_1.to - y_1.from_))) _) ?_
        refine WpPi.nil ?_
        refine ⟨_, Heap.le_refl _, ?_⟩
        refine WpC.regionD ?_
        obtain ⟨c_9, h⟩ := Sh.chk_some h
        refine WpOps.pn 2 rfl c_9 ?_
        refine WpOps.nil ?_
        obtain ⟨_, hle_1, hH⟩ := hH.lose_ (i := 0) rfl
        obtain rfl := Sh.some_inj h
        exact ⟨_, hle_1, ((t26_1 + (1 : Int)), (out_1 ++ ([(GEdit.mk y_1.file_ (y_1.from_ + y_2) ((y_1.from_ + y_2) + (y_1.text.length : Int)) ((y_3.text.drop (y_1.from_).toNat).take ((y_1.to).toNat - (y_1.from_).toNat)))] : List GEdit)), (moved_1.set (y_1.file_).toNat (y_4 + ((y_1.text.length : Int) - (y_1.to - y_1.from_))))), (p_3, (some (g_3, cp_2))), rfl, ⟨rfl, rfl, rfl, rfl, rfl, rfl, trivial⟩, hH⟩
      ·
        replace h := Sh.ite_neg hb h
        refine WpC.lose (i := 1) hH rfl (fun H' hH => ?_)
        obtain rfl := Sh.some_inj h
        have e := hd_1 _ rfl
        subst e
        refine WpC.exit ?_
        exact ⟨(out_1, p_1), ⟨rfl, trivial⟩, hk_1, hH⟩
    ·
      rintro ⟨out_2, p_4⟩ env H' ⟨h, hH⟩
      try dsimp only at h
      refine ⟨_, Heap.le_refl _, ?_⟩
      refine WpC.seqR ?_
      refine WpOps.pn 3 rfl trivial ?_
      refine WpOps.nil ?_
      refine WpC.freeze (t := 4) (i := 0) hH rfl rfl (fun H' hH => ?_)
      obtain rfl := Sh.some_inj h
      refine WpC.ret ?_
      exact VEnds.ret2 rfl rfl rfl ⟨rfl, hH⟩

theorem w_emendlaw20_EditsUndone {H0 : Heap} {files_1 : List GFile} {l_1 : List GEdit} {r : Bool} (h : emendlaw20_EditsUndone files_1 l_1 = some r) : TCall Try.prog 6 [(AV.rows 2 (List.map cGFile files_1)), (AV.rows 4 (List.map cGEdit l_1))] H0 (fun v H' => v = (bA r) ∧ H' = H0) noE := by
  refine id (TCall.body Try.func6 rfl rfl ?_)
  have hH : Holds H0 [] H0 := rfl
  refine WpC.seqR ?_
  refine WpOps.pn 1 rfl trivial ?_
  refine WpOps.nil ?_
  refine WpC.seqR ?_
  obtain ⟨r_1, hr_1, h⟩ := Sh.bind_some h
  refine WpOps.consE (v := (bA r_1)) rfl rfl (Exact.call rfl rfl rfl (w_emendlaw20_awake hr_1)) ?_
  refine WpOps.pn 1 rfl trivial ?_
  refine WpOps.nil ?_
  refine WpC.seqR ?_
  obtain ⟨r_2, hr_2, h⟩ := Sh.bind_some h
  refine WpOps.pn 2 rfl trivial ?_
  refine WpOps.consE (v := (bA r_2)) rfl rfl (Exact.call rfl rfl rfl (w_emendlaw20_short hr_2)) ?_
  refine WpOps.pn 1 rfl trivial ?_
  refine WpOps.nil ?_
  refine WpC.seq ?_
  refine WpC.seqR ?_
  refine WpOps.pn 2 rfl trivial ?_
  refine WpOps.nil ?_
  refine WpC.condB rfl (fun hb => ?_) (fun hb => ?_)
  ·
    replace h := Sh.ite_pos hb h
    refine WpC.seqR ?_
    refine WpOps.pn 2 rfl trivial ?_
    refine WpOps.nil ?_
    obtain rfl := Sh.some_inj h
    refine WpC.ret ?_
    exact VEnds.ret1 rfl rfl ⟨rfl, hH⟩
  ·
    replace h := Sh.ite_neg hb h
    refine WpC.skipD ?_
    refine ⟨_, Heap.le_refl _, ?_⟩
    refine WpC.seqR ?_
    obtain ⟨r_3, hr_3, h⟩ := Sh.bind_some h
    refine WpOps.pn 2 rfl trivial ?_
    refine WpOps.consE (v := (.tup [(AV.rows 2 (List.map cGFile r_3.1)), (iA r_3.2)])) rfl rfl (Exact.call rfl rfl rfl (w_edits_Apply hr_3)) ?_
    refine WpOps.pn 5 rfl trivial ?_
    refine WpOps.nil ?_
    refine WpC.seqR ?_
    obtain ⟨r_4, hr_4, h⟩ := Sh.bind_some h
    refine WpOps.pn 2 rfl trivial ?_
    refine WpOps.consE (v := (.tup [(AV.rows 4 (List.map cGEdit r_4.1)), (iA r_4.2)])) rfl rfl (Exact.call rfl rfl rfl (w_edits_Undo hr_4)) ?_
    refine WpOps.pn 5 rfl trivial ?_
    refine WpOps.nil ?_
    refine WpC.seq ?_
    refine WpC.seqR ?_
    refine WpOps.pn 3 rfl trivial ?_
    refine WpOps.nil ?_
    refine WpC.condB rfl (fun hb => ?_) (fun hb => ?_)
    ·
      replace h := Sh.ite_pos hb h
      refine WpC.seqR ?_
      refine WpOps.pn 1 rfl trivial ?_
      refine WpOps.nil ?_
      obtain rfl := Sh.some_inj h
      refine WpC.ret ?_
      exact VEnds.ret1 rfl rfl ⟨rfl, hH⟩
    ·
      replace h := Sh.ite_neg hb h
      refine WpC.skipD ?_
      refine ⟨_, Heap.le_refl _, ?_⟩
      refine WpC.seq ?_
      refine WpC.seqR ?_
      refine WpOps.pn 2 rfl trivial ?_
      refine WpOps.nil ?_
      refine WpC.condB rfl (fun hb => ?_) (fun hb => ?_)
      ·
        replace h := Sh.ite_pos hb h
        refine WpC.seqR ?_
        refine WpOps.pn 1 rfl trivial ?_
        obtain ⟨b_1, g_1, h⟩ := Sh.bind_some h
        refine WpOps.cutB 5 48 (bA b_1) rfl ?_ ?_
        ·
          refine WpOps.pn 1 rfl trivial ?_
          refine WpOps.split 44 rfl (fun hb => ?_) (fun hb => ?_)
          ·
            replace g_1 := Sh.ite_pos hb g_1
            refine WpOps.pn 2 rfl trivial ?_
            refine WpOps.at 46 (len_map _ _) ?_
            refine WpOps.pn 2 rfl trivial ?_
            refine WpOps.nil ?_
            obtain rfl := Sh.some_inj g_1
            exact ⟨rfl, rfl⟩
          ·
            replace g_1 := Sh.ite_neg hb g_1
            refine WpOps.pn 4 rfl trivial ?_
            refine WpOps.nil ?_
            obtain rfl := Sh.some_inj g_1
            exact ⟨rfl, rfl⟩
        intro env
        obtain ⟨b_2, g_2, h⟩ := Sh.bind_some h
        refine WpOps.cutB 5 53 (bA b_2) rfl ?_ ?_
        ·
          refine WpOps.pn 1 rfl trivial ?_
          refine WpOps.split 49 rfl (fun hb => ?_) (fun hb => ?_)
          ·
            replace g_2 := Sh.ite_pos hb g_2
            refine WpOps.pn 2 rfl trivial ?_
            refine WpOps.at 51 (len_map _ _) ?_
            refine WpOps.pn 2 rfl trivial ?_
            refine WpOps.nil ?_
            obtain rfl := Sh.some_inj g_2
            exact ⟨rfl, rfl⟩
          ·
            replace g_2 := Sh.ite_neg hb g_2
            refine WpOps.pn 4 rfl trivial ?_
            refine WpOps.nil ?_
            obtain rfl := Sh.some_inj g_2
            exact ⟨rfl, rfl⟩
        intro env
        refine WpOps.pn 1 rfl trivial ?_
        refine WpOps.nil ?_
        obtain rfl := Sh.some_inj h
        refine WpC.ret ?_
        exact VEnds.ret1 rfl rfl ⟨rfl, hH⟩
      ·
        replace h := Sh.ite_neg hb h
        refine WpC.skipD ?_
        refine ⟨_, Heap.le_refl _, ?_⟩
        refine WpC.seqR ?_
        obtain ⟨r_5, hr_5, h⟩ := Sh.bind_some h
        refine WpOps.pn 2 rfl trivial ?_
        refine WpOps.consE (v := (.tup [(AV.rows 2 (List.map cGFile r_5.1)), (iA r_5.2)])) rfl rfl (Exact.call rfl rfl rfl (w_edits_Apply hr_5)) ?_
        refine WpOps.pn 5 rfl trivial ?_
        refine WpOps.nil ?_
        refine WpC.seqR ?_
        obtain ⟨r_6, hr_6, h⟩ := Sh.bind_some h
        refine WpOps.pn 2 rfl trivial ?_
        refine WpOps.consE (v := (.tup [(AV.rows 4 (List.map cGEdit r_6.1)), (iA r_6.2)])) rfl rfl (Exact.call rfl rfl rfl (w_edits_Undo hr_6)) ?_
        refine WpOps.pn 5 rfl trivial ?_
        refine WpOps.nil ?_
        refine WpC.seqR ?_
        obtain ⟨r_7, hr_7, h⟩ := Sh.bind_some h
        refine WpOps.pn 2 rfl trivial ?_
        refine WpOps.consE (v := (.tup [(AV.rows 2 (List.map cGFile r_7.1)), (iA r_7.2)])) rfl rfl (Exact.call rfl rfl rfl (w_edits_Apply hr_7)) ?_
        refine WpOps.pn 5 rfl trivial ?_
        refine WpOps.nil ?_
        refine WpC.seqR ?_
        obtain ⟨r_8, hr_8, h⟩ := Sh.bind_some h
        refine WpOps.pn 2 rfl trivial ?_
        refine WpOps.consE (v := (.tup [(AV.rows 4 (List.map cGEdit r_8.1)), (iA r_8.2)])) rfl rfl (Exact.call rfl rfl rfl (w_edits_Normal hr_8)) ?_
        refine WpOps.pn 5 rfl trivial ?_
        refine WpOps.nil ?_
        refine WpC.seqR ?_
        refine WpOps.pn 1 rfl trivial ?_
        obtain ⟨b_3, g_3, h⟩ := Sh.bind_some h
        refine WpOps.cutB 4 82 (bA b_3) rfl ?_ ?_
        ·
          refine WpOps.pn 1 rfl trivial ?_
          refine WpOps.split 79 rfl (fun hb => ?_) (fun hb => ?_)
          ·
            replace g_3 := Sh.ite_pos hb g_3
            refine WpOps.pn 3 rfl trivial ?_
            refine WpOps.nil ?_
            obtain rfl := Sh.some_inj g_3
            exact ⟨rfl, rfl⟩
          ·
            replace g_3 := Sh.ite_neg hb g_3
            refine WpOps.pn 3 rfl trivial ?_
            refine WpOps.nil ?_
            obtain rfl := Sh.some_inj g_3
            exact ⟨rfl, rfl⟩
        intro env
        obtain ⟨b_4, g_4, h⟩ := Sh.bind_some h
        refine WpOps.cutB 5 87 (bA b_4) rfl ?_ ?_
        ·
          refine WpOps.pn 1 rfl trivial ?_
          refine WpOps.split 83 rfl (fun hb => ?_) (fun hb => ?_)
          ·
            replace g_4 := Sh.ite_pos hb g_4
            obtain ⟨r_9, hr_9, g_4⟩ := Sh.bind_some g_4
            refine WpOps.pn 2 rfl trivial ?_
            refine WpOps.consE (v := (bA r_9)) rfl rfl (Exact.call rfl rfl rfl (w_emendref20_Same hr_9)) ?_
            refine WpOps.pn 1 rfl trivial ?_
            refine WpOps.nil ?_
            obtain rfl := Sh.some_inj g_4
            exact ⟨rfl, rfl⟩
          ·
            replace g_4 := Sh.ite_neg hb g_4
            refine WpOps.pn 4 rfl trivial ?_
            refine WpOps.nil ?_
            obtain rfl := Sh.some_inj g_4
            exact ⟨rfl, rfl⟩
        intro env
        obtain ⟨b_5, g_5, h⟩ := Sh.bind_some h
        refine WpOps.cutB 4 91 (bA b_5) rfl ?_ ?_
        ·
          refine WpOps.pn 1 rfl trivial ?_
          refine WpOps.split 88 rfl (fun hb => ?_) (fun hb => ?_)
          ·
            replace g_5 := Sh.ite_pos hb g_5
            refine WpOps.pn 3 rfl trivial ?_
            refine WpOps.nil ?_
            obtain rfl := Sh.some_inj g_5
            exact ⟨rfl, rfl⟩
          ·
            replace g_5 := Sh.ite_neg hb g_5
            refine WpOps.pn 3 rfl trivial ?_
            refine WpOps.nil ?_
            obtain rfl := Sh.some_inj g_5
            exact ⟨rfl, rfl⟩
        intro env
        obtain ⟨b_6, g_6, h⟩ := Sh.bind_some h
        refine WpOps.cutB 4 95 (bA b_6) rfl ?_ ?_
        ·
          refine WpOps.pn 1 rfl trivial ?_
          refine WpOps.split 92 rfl (fun hb => ?_) (fun hb => ?_)
          ·
            replace g_6 := Sh.ite_pos hb g_6
            refine WpOps.pn 3 rfl trivial ?_
            refine WpOps.nil ?_
            obtain rfl := Sh.some_inj g_6
            exact ⟨rfl, rfl⟩
          ·
            replace g_6 := Sh.ite_neg hb g_6
            refine WpOps.pn 3 rfl trivial ?_
            refine WpOps.nil ?_
            obtain rfl := Sh.some_inj g_6
            exact ⟨rfl, rfl⟩
        intro env
        obtain ⟨b_7, g_7, h⟩ := Sh.bind_some h
        refine WpOps.cutB 5 100 (bA b_7) rfl ?_ ?_
        ·
          refine WpOps.pn 1 rfl trivial ?_
          refine WpOps.split 96 rfl (fun hb => ?_) (fun hb => ?_)
          ·
            replace g_7 := Sh.ite_pos hb g_7
            obtain ⟨r_10, hr_10, g_7⟩ := Sh.bind_some g_7
            refine WpOps.pn 2 rfl trivial ?_
            refine WpOps.consE (v := (bA r_10)) rfl rfl (Exact.call rfl rfl rfl (w_emendref20_Same hr_10)) ?_
            refine WpOps.pn 1 rfl trivial ?_
            refine WpOps.nil ?_
            obtain rfl := Sh.some_inj g_7
            exact ⟨rfl, rfl⟩
          ·
            replace g_7 := Sh.ite_neg hb g_7
            refine WpOps.pn 4 rfl trivial ?_
            refine WpOps.nil ?_
            obtain rfl := Sh.some_inj g_7
            exact ⟨rfl, rfl⟩
        intro env
        obtain ⟨b_8, g_8, h⟩ := Sh.bind_some h
        refine WpOps.cutB 5 105 (bA b_8) rfl ?_ ?_
        ·
          refine WpOps.pn 1 rfl trivial ?_
          refine WpOps.split 101 rfl (fun hb => ?_) (fun hb => ?_)
          ·
            replace g_8 := Sh.ite_pos hb g_8
            obtain ⟨r_11, hr_11, g_8⟩ := Sh.bind_some g_8
            refine WpOps.pn 2 rfl trivial ?_
            refine WpOps.consE (v := (bA r_11)) rfl rfl (Exact.call rfl rfl rfl (w_emendref20_Alike hr_11)) ?_
            refine WpOps.pn 1 rfl trivial ?_
            refine WpOps.nil ?_
            obtain rfl := Sh.some_inj g_8
            exact ⟨rfl, rfl⟩
          ·
            replace g_8 := Sh.ite_neg hb g_8
            refine WpOps.pn 4 rfl trivial ?_
            refine WpOps.nil ?_
            obtain rfl := Sh.some_inj g_8
            exact ⟨rfl, rfl⟩
        intro env
        refine WpOps.pn 1 rfl trivial ?_
        refine WpOps.nil ?_
        obtain rfl := Sh.some_inj h
        refine WpC.ret ?_
        exact VEnds.ret1 rfl rfl ⟨rfl, hH⟩

theorem w_cmp_Less_int {H0 : Heap} {x_1 : Int} {y_1 : Int} {r : Bool} (h : cmp_Less_int x_1 y_1 = some r) : TCall Try.prog 56 [(iA x_1), (iA y_1)] H0 (fun v H' => v = (bA r) ∧ H' = H0) noE := by
  refine id (TCall.body Try.func56 rfl rfl ?_)
  have hH : Holds H0 [] H0 := rfl
  refine WpC.seqR ?_
  refine WpOps.pn 1 rfl trivial ?_
  refine WpOps.nil ?_
  refine WpC.seqR ?_
  obtain ⟨r_1, hr_1, h⟩ := Sh.bind_some h
  refine WpOps.pn 1 rfl trivial ?_
  refine WpOps.consE (v := (bA r_1)) rfl rfl (Exact.call rfl rfl rfl (w_cmp_isNaN_int hr_1)) ?_
  obtain ⟨b_1, g_1, h⟩ := Sh.bind_some h
  refine WpOps.cutB 5 11 (bA b_1) rfl ?_ ?_
  ·
    refine WpOps.pn 1 rfl trivial ?_
    refine WpOps.split 7 rfl (fun hb => ?_) (fun hb => ?_)
    ·
      replace g_1 := Sh.ite_pos hb g_1
      obtain ⟨r_2, hr_2, g_1⟩ := Sh.bind_some g_1
      refine WpOps.pn 1 rfl trivial ?_
      refine WpOps.consE (v := (bA r_2)) rfl rfl (Exact.call rfl rfl rfl (w_cmp_isNaN_int hr_2)) ?_
      refine WpOps.pn 2 rfl trivial ?_
      refine WpOps.nil ?_
      obtain rfl := Sh.some_inj g_1
      exact ⟨rfl, rfl⟩
    ·
      replace g_1 := Sh.ite_neg hb g_1
      refine WpOps.pn 4 rfl trivial ?_
      refine WpOps.nil ?_
      obtain rfl := Sh.some_inj g_1
      exact ⟨rfl, rfl⟩
  intro env
  obtain ⟨b_2, g_2, h⟩ := Sh.bind_some h
  refine WpOps.cutB 5 16 (bA b_2) rfl ?_ ?_
  ·
    refine WpOps.pn 1 rfl trivial ?_
    refine WpOps.split 12 rfl (fun hb => ?_) (fun hb => ?_)
    ·
      replace g_2 := Sh.ite_pos hb g_2
      refine WpOps.pn 4 rfl trivial ?_
      refine WpOps.nil ?_
      obtain rfl := Sh.some_inj g_2
      exact ⟨rfl, rfl⟩
    ·
      replace g_2 := Sh.ite_neg hb g_2
      refine WpOps.pn 4 rfl trivial ?_
      refine WpOps.nil ?_
      obtain rfl := Sh.some_inj g_2
      exact ⟨rfl, rfl⟩
  intro env
  refine WpOps.pn 1 rfl trivial ?_
  refine WpOps.nil ?_
  obtain rfl := Sh.some_inj h
  refine WpC.ret ?_
  exact VEnds.ret1 rfl rfl ⟨rfl, hH⟩

theorem w_edits_Touched {H0 : Heap} {l_1 : List GEdit} {r : List Int} (h : edits_Touched l_1 = some r) : TCall Try.prog 20 [(AV.rows 4 (List.map cGEdit l_1))] H0 (fun v H' => v = (AV.rows 1 (List.map cI r)) ∧ H' = H0) noE := by
  refine id (TCall.body Try.func20 rfl rfl ?_)
  have hH : Holds H0 [] H0 := rfl
  refine WpC.seqR ?_
  refine WpOps.pn 1 rfl trivial ?_
  refine WpOps.nil ?_
  refine WpC.seqR ?_
  refine WpOps.pn 1 rfl trivial ?_
  have hH := hH.nil 3 1
  refine WpOps.nil ?_
  refine WpC.seq ?_
  refine WpC.seqR ?_
  refine WpOps.pn 2 rfl trivial ?_
  refine WpOps.at 7 (len_map _ _) ?_
  refine WpOps.pn 1 rfl trivial ?_
  refine WpOps.nil ?_
  refine WpC.blockK (fun x : (List Int) × ((Option (Nat × Nat))) => [(3, (.own (List.map cI x.1).length x.2))]) (fun x H' => edits_Touched_j1 x.1 = some r ∧ Holds H0 [.own 3 1 x.2 (List.map cI x.1)] H') ?_ ?_
  ·
    obtain ⟨o_1, ho_1, hk_1⟩ := Sh.bind_some h
    refine WpC.loopS (edits_Touched_b2 l_1) (fun (s : Int × List Int) (a : (Option (Nat × Nat))) => [(3, (.own (List.map cI s.2).length a)), (6, (AV.rows 4 (List.map cGEdit l_1))), (7, (iA (l_1.length : Int))), (8, (iA s.1))]) (fun (s : Int × List Int) (a : (Option (Nat × Nat))) H' => Holds H0 [.own 3 1 a (List.map cI s.2)] H') o_1 ((0 : Int), ([] : List Int)) none ho_1 ⟨rfl, rfl, rfl, rfl, trivial⟩ hH ?_
    rintro ⟨t8_1, out_1⟩ p_1 st_1 env H' h hd_1 hH
    refine WpC.seqR ?_
    refine WpOps.pn 1 rfl trivial ?_
    refine WpOps.nil ?_
    refine WpC.seq ?_
    refine WpC.condB rfl (fun hb => ?_) (fun hb => ?_)
    ·
      replace h := Sh.ite_pos hb h
      refine WpC.skipD ?_
      refine ⟨_, Heap.le_refl _, ?_⟩
      refine WpC.seq ?_
      refine WpC.block ?_
      refine WpC.seqR ?_
      obtain ⟨y_1, hy_1, h⟩ := Sh.bind_some h
      refine WpOps.consE (v := (.rop (cGEdit y_1))) rfl rfl (Exact.ixr cGEdit hy_1 rfl rfl rfl rfl (by kernel_rfl) (by decide)) ?_
      refine WpOps.consE (v := (AV.agg (cGEdit y_1))) rfl rfl (Exact.load_rop rfl rfl rfl) ?_
      refine WpOps.consG rfl rfl (WpO.allocT (z := cGEdit (GEdit.mk (0 : Int) (0 : Int) (0 : Int) ([] : List UInt8))) rfl rfl hH fun g_1 H' hH => ?_)
      refine WpOps.consG rfl rfl (WpO.putT (cs' := (cGEdit y_1)) (v := (AV.agg (cGEdit y_1))) rfl rfl hH (i := 0) rfl rfl rfl rfl rfl rfl rfl fun H' hH => ?_)
      refine WpOps.nil ?_
      refine WpC.regionD ?_
      refine WpOps.pn 2 rfl trivial ?_
      refine WpOps.consE (v := (iA y_1.file_)) rfl rfl (Exact.load rfl rfl (hH.cell (i := 0) rfl) rfl rfl) ?_
      refine WpOps.consE (v := (AV.rows 1 (List.map cI ([y_1.file_] : List Int)))) rfl rfl (Exact.litSlice rfl (by kernel_rfl)) ?_
      obtain ⟨c_1, h⟩ := Sh.chk_some h
      refine WpOps.consG rfl rfl (WpO.pushT cI out_1 ([y_1.file_] : List Int) (i := 1) rfl ek38 hH rfl rfl rfl (.rows _) (fun y _ => one_cI y) (by simp) c_1 (by decide) fun p_2 H' hH => ?_)
      refine WpOps.pn 1 rfl trivial ?_
      refine WpOps.nil ?_
      refine ⟨_, Heap.le_refl _, ?_⟩
      refine WpC.regionD ?_
      obtain ⟨c_2, h⟩ := Sh.chk_some h
      refine WpOps.pn 2 rfl c_2 ?_
      refine WpOps.nil ?_
      obtain ⟨_, hle_1, hH⟩ := hH.lose_ (i := 0) rfl
      obtain rfl := Sh.some_inj h
      exact ⟨_, hle_1, ((t8_1 + (1 : Int)), (out_1 ++ ([y_1.file_] : List Int))), p_2, rfl, ⟨rfl, rfl, rfl, rfl, trivial⟩, hH⟩
    ·
      replace h := Sh.ite_neg hb h
      obtain rfl := Sh.some_inj h
      have e := hd_1 _ rfl
      subst e
      refine WpC.exit ?_
      exact ⟨(out_1, p_1), ⟨rfl, trivial⟩, hk_1, hH⟩
  ·
    rintro ⟨out_2, p_3⟩ env H' ⟨h, hH⟩
    try dsimp only at h
    refine ⟨_, Heap.le_refl _, ?_⟩
    refine WpC.seqR ?_
    obtain ⟨c_3, h⟩ := Sh.chk_some h
    refine WpOps.pn 1 rfl trivial ?_
    refine WpOps.consG rfl rfl (WpO.callT (v := (.tup [])) rfl rfl rfl hH (i := 0) rfl (fun H1 hl hh => w_sortI c_3 hh) fun H' hH => ?_)
    refine WpOps.at 3 (own_sortI _ _) ?_
    refine WpOps.at 18 (own_sortI _ _) ?_
    refine WpOps.nil ?_
    refine WpC.seqR ?_
    obtain ⟨c_4, h⟩ := Sh.chk_some h
    refine WpOps.pn 1 rfl trivial ?_
    refine WpOps.consG rfl rfl (WpO.callT (v := (.own (List.map cI (compI (sortI out_2))).length p_3)) rfl rfl rfl hH (i := 0) rfl (fun H1 hl hh => w_compI (Nat.le_trans (Nat.le_of_lt c_4) (by decide)) hh) fun H' hH => ?_)
    refine WpOps.pn 1 rfl trivial ?_
    refine WpOps.nil ?_
    refine WpC.freeze (t := 2) (i := 0) hH rfl rfl (fun H' hH => ?_)
    obtain rfl := Sh.some_inj h
    refine WpC.ret ?_
    exact VEnds.ret1 rfl rfl ⟨rfl, hH⟩

theorem w_emendlaw20_EditsUntouched {H0 : Heap} {files_1 : List GFile} {l_1 : List GEdit} {r : Bool} (h : emendlaw20_EditsUntouched files_1 l_1 = some r) : TCall Try.prog 7 [(AV.rows 2 (List.map cGFile files_1)), (AV.rows 4 (List.map cGEdit l_1))] H0 (fun v H' => v = (bA r) ∧ H' = H0) noE := by
  refine id (TCall.body Try.func7 rfl rfl ?_)
  have hH : Holds H0 [] H0 := rfl
  refine WpC.seqR ?_
  refine WpOps.pn 1 rfl trivial ?_
  refine WpOps.nil ?_
  refine WpC.seqR ?_
  obtain ⟨r_1, hr_1, h⟩ := Sh.bind_some h
  refine WpOps.consE (v := (bA r_1)) rfl rfl (Exact.call rfl rfl rfl (w_emendlaw20_awake hr_1)) ?_
  refine WpOps.pn 1 rfl trivial ?_
  refine WpOps.nil ?_
  refine WpC.seqR ?_
  obtain ⟨r_2, hr_2, h⟩ := Sh.bind_some h
  refine WpOps.pn 2 rfl trivial ?_
  refine WpOps.consE (v := (bA r_2)) rfl rfl (Exact.call rfl rfl rfl (w_emendlaw20_short hr_2)) ?_
  refine WpOps.pn 1 rfl trivial ?_
  refine WpOps.nil ?_
  refine WpC.seq ?_
  refine WpC.seqR ?_
  refine WpOps.pn 2 rfl trivial ?_
  refine WpOps.nil ?_
  refine WpC.condB rfl (fun hb => ?_) (fun hb => ?_)
  ·
    replace h := Sh.ite_pos hb h
    refine WpC.seqR ?_
    refine WpOps.pn 2 rfl trivial ?_
    refine WpOps.nil ?_
    obtain rfl := Sh.some_inj h
    refine WpC.ret ?_
    exact VEnds.ret1 rfl rfl ⟨rfl, hH⟩
  ·
    replace h := Sh.ite_neg hb h
    refine WpC.skipD ?_
    refine ⟨_, Heap.le_refl _, ?_⟩
    refine WpC.seqR ?_
    obtain ⟨r_3, hr_3, h⟩ := Sh.bind_some h
    refine WpOps.pn 2 rfl trivial ?_
    refine WpOps.consE (v := (.tup [(AV.rows 2 (List.map cGFile r_3.1)), (iA r_3.2)])) rfl rfl (Exact.call rfl rfl rfl (w_edits_Apply hr_3)) ?_
    refine WpOps.pn 5 rfl trivial ?_
    refine WpOps.nil ?_
    refine WpC.seq ?_
    refine WpC.seqR ?_
    refine WpOps.pn 2 rfl trivial ?_
    obtain ⟨b_1, g_1, h⟩ := Sh.bind_some h
    refine WpOps.cutB 7 41 (bA b_1) rfl ?_ ?_
    ·
      refine WpOps.pn 1 rfl trivial ?_
      refine WpOps.split 35 rfl (fun hb => ?_) (fun hb => ?_)
      ·
        replace g_1 := Sh.ite_pos hb g_1
        refine WpOps.pn 6 rfl trivial ?_
        refine WpOps.nil ?_
        obtain rfl := Sh.some_inj g_1
        exact ⟨rfl, rfl⟩
      ·
        replace g_1 := Sh.ite_neg hb g_1
        refine WpOps.pn 2 rfl trivial ?_
        refine WpOps.at 37 (len_map _ _) ?_
        refine WpOps.pn 2 rfl trivial ?_
        refine WpOps.at 39 (len_map _ _) ?_
        refine WpOps.pn 2 rfl trivial ?_
        refine WpOps.nil ?_
        obtain rfl := Sh.some_inj g_1
        exact ⟨rfl, rfl⟩
    intro env
    refine WpOps.nil ?_
    refine WpC.condB rfl (fun hb => ?_) (fun hb => ?_)
    ·
      replace h := Sh.ite_pos hb h
      refine WpC.seqR ?_
      refine WpOps.pn 1 rfl trivial ?_
      obtain ⟨b_2, g_2, h⟩ := Sh.bind_some h
      refine WpOps.cutB 4 46 (bA b_2) rfl ?_ ?_
      ·
        refine WpOps.pn 1 rfl trivial ?_
        refine WpOps.split 43 rfl (fun hb => ?_) (fun hb => ?_)
        ·
          replace g_2 := Sh.ite_pos hb g_2
          refine WpOps.pn 3 rfl trivial ?_
          refine WpOps.nil ?_
          obtain rfl := Sh.some_inj g_2
          exact ⟨rfl, rfl⟩
        ·
          replace g_2 := Sh.ite_neg hb g_2
          refine WpOps.pn 3 rfl trivial ?_
          refine WpOps.nil ?_
          obtain rfl := Sh.some_inj g_2
          exact ⟨rfl, rfl⟩
      intro env
      refine WpOps.pn 1 rfl trivial ?_
      refine WpOps.nil ?_
      obtain rfl := Sh.some_inj h
      refine WpC.ret ?_
      exact VEnds.ret1 rfl rfl ⟨rfl, hH⟩
    ·
      replace h := Sh.ite_neg hb h
      refine WpC.skipD ?_
      refine ⟨_, Heap.le_refl _, ?_⟩
      refine WpC.seqR ?_
      obtain ⟨r_4, hr_4, h⟩ := Sh.bind_some h
      refine WpOps.pn 2 rfl trivial ?_
      refine WpOps.consE (v := (.tup [(AV.rows 4 (List.map cGEdit r_4.1)), (iA r_4.2)])) rfl rfl (Exact.call rfl rfl rfl (w_edits_Normal hr_4)) ?_
      refine WpOps.pn 5 rfl trivial ?_
      refine WpOps.nil ?_
      refine WpC.seqR ?_
      obtain ⟨r_5, hr_5, h⟩ := Sh.bind_some h
      refine WpOps.pn 1 rfl trivial ?_
      refine WpOps.consE (v := (AV.rows 1 (List.map cI r_5))) rfl rfl (Exact.call rfl rfl rfl (w_edits_Touched hr_5)) ?_
      refine WpOps.pn 1 rfl trivial ?_
      refine WpOps.nil ?_
      refine WpC.seq ?_
      refine WpC.seqR ?_
      refine WpOps.pn 1 rfl trivial ?_
      refine WpOps.nil ?_
      refine WpC.blockK (fun x : (Unit) × (Unit) => [(5, (bA r_1))]) (fun x H' => (emendlaw20_EditsUntouched_j1 r_1) x.1 = some r ∧ Holds H0 [] H') ?_ ?_
      ·
        obtain ⟨o_1, ho_1, hk_1⟩ := Sh.bind_some h
        refine WpC.loopS (emendlaw20_EditsUntouched_b2 files_1 r_3 r_4 r_5) (fun (s : Int) (a : Unit) => [(0, (AV.rows 2 (List.map cGFile files_1))), (5, (bA r_1)), (7, (AV.rows 2 (List.map cGFile r_3.1))), (9, (AV.rows 4 (List.map cGEdit r_4.1))), (11, (AV.rows 1 (List.map cI r_5))), (12, (iA s))]) (fun (s : Int) (a : Unit) H' => Holds H0 [] H') o_1 (0 : Int) () ho_1 ⟨rfl, rfl, rfl, rfl, rfl, rfl, trivial⟩ hH ?_
        rintro i_1 _ st_1 env H' h hd_1 hH
        refine WpC.seq ?_
        refine WpC.seqR ?_
        refine WpOps.pn 3 rfl trivial ?_
        refine WpOps.at 57 (len_map _ _) ?_
        refine WpOps.pn 1 rfl trivial ?_
        refine WpOps.nil ?_
        refine WpC.condB rfl (fun hb => ?_) (fun hb => ?_)
        ·
          replace h := Sh.ite_pos hb h
          refine WpC.skipD ?_
          refine ⟨_, Heap.le_refl _, ?_⟩
          refine WpC.seq ?_
          refine WpC.block ?_
          refine WpC.seqR ?_
          obtain ⟨y_1, hy_1, h⟩ := Sh.bind_some h
          refine WpOps.pn 2 rfl trivial ?_
          refine WpOps.consE (v := (.rop (cGFile y_1))) rfl rfl (Exact.ixr cGFile hy_1 rfl rfl rfl rfl (by kernel_rfl) (by decide)) ?_
          refine WpOps.pn 1 rfl trivial ?_
          refine WpOps.consE (v := (sA y_1.text)) rfl rfl (Exact.load_rop rfl rfl rfl) ?_
          refine WpOps.pn 2 rfl trivial ?_
          refine WpOps.nil ?_
          refine WpC.seqR ?_
          obtain ⟨y_2, hy_2, h⟩ := Sh.bind_some h
          refine WpOps.pn 2 rfl trivial ?_
          refine WpOps.consE (v := (.rop (cGFile y_2))) rfl rfl (Exact.ixr cGFile hy_2 rfl rfl rfl rfl (by kernel_rfl) (by decide)) ?_
          refine WpOps.pn 1 rfl trivial ?_
          refine WpOps.consE (v := (sA y_2.text)) rfl rfl (Exact.load_rop rfl rfl rfl) ?_
          refine WpOps.pn 2 rfl trivial ?_
          refine WpOps.nil ?_
          refine WpC.seqR ?_
          refine WpOps.pn 1 rfl trivial ?_
          refine WpOps.nil ?_
          refine WpC.seq ?_
          refine WpC.seqR ?_
          refine WpOps.pn 1 rfl trivial ?_
          refine WpOps.nil ?_
          refine WpC.blockK (fun x : (Int × Int × Bool) × (Unit) => [(0, (AV.rows 2 (List.map cGFile files_1))), (5, (bA r_1)), (7, (AV.rows 2 (List.map cGFile r_3.1))), (9, (AV.rows 4 (List.map cGEdit r_4.1))), (11, (AV.rows 1 (List.map cI r_5))), (12, (iA i_1)), (13, (iA x.1.1)), (14, (iA x.1.2.1)), (15, (bA x.1.2.2))]) (fun x H' => (emendlaw20_EditsUntouched_j3 files_1 r_3 r_5 i_1) x.1 = some st_1 ∧ Holds H0 [] H') ?_ ?_
          ·
            obtain ⟨o_2, ho_2, hk_2⟩ := Sh.bind_some h
            refine WpC.loopS (emendlaw20_EditsUntouched_b4 files_1 r_4 i_1) (fun (s : Int × Int × Bool × Int) (a : Unit) => [(0, (AV.rows 2 (List.map cGFile files_1))), (5, (bA r_1)), (7, (AV.rows 2 (List.map cGFile r_3.1))), (9, (AV.rows 4 (List.map cGEdit r_4.1))), (11, (AV.rows 1 (List.map cI r_5))), (12, (iA i_1)), (13, (iA s.1)), (14, (iA s.2.1)), (15, (bA s.2.2.1)), (16, (iA s.2.2.2))]) (fun (s : Int × Int × Bool × Int) (a : Unit) H' => Holds H0 [] H') o_2 ((y_1.text.length : Int), (y_2.text.length : Int), false, (0 : Int)) () ho_2 ⟨rfl, rfl, rfl, rfl, rfl, rfl, rfl, rfl, rfl, rfl, trivial⟩ hH ?_
            rintro ⟨from_1, last_1, some_1, k_1⟩ _ st_2 env H' h hd_2 hH
            refine WpC.seq ?_
            refine WpC.seqR ?_
            refine WpOps.pn 3 rfl trivial ?_
            refine WpOps.at 75 (len_map _ _) ?_
            refine WpOps.pn 1 rfl trivial ?_
            refine WpOps.nil ?_
            refine WpC.condB rfl (fun hb => ?_) (fun hb => ?_)
            ·
              replace h := Sh.ite_pos hb h
              refine WpC.skipD ?_
              refine ⟨_, Heap.le_refl _, ?_⟩
              refine WpC.seq ?_
              refine WpC.block ?_
              refine WpC.seqR ?_
              obtain ⟨y_3, hy_3, h⟩ := Sh.bind_some h
              refine WpOps.pn 2 rfl trivial ?_
              refine WpOps.consE (v := (.rop (cGEdit y_3))) rfl rfl (Exact.ixr cGEdit hy_3 rfl rfl rfl rfl (by kernel_rfl) (by decide)) ?_
              refine WpOps.pn 1 rfl trivial ?_
              refine WpOps.consE (v := (iA y_3.file_)) rfl rfl (Exact.load_rop rfl rfl rfl) ?_
              refine WpOps.pn 2 rfl trivial ?_
              refine WpOps.nil ?_
              refine WpC.condB rfl (fun hb => ?_) (fun hb => ?_)
              ·
                replace h := Sh.ite_pos hb h
                refine WpC.seqR ?_
                obtain ⟨y_4, hy_4, h⟩ := Sh.bind_some h
                refine WpOps.pn 3 rfl trivial ?_
                refine WpOps.consE (v := (.rop (cGEdit y_4))) rfl rfl (Exact.ixr cGEdit hy_4 rfl rfl rfl rfl (by kernel_rfl) (by decide)) ?_
                refine WpOps.pn 1 rfl trivial ?_
                refine WpOps.consE (v := (iA y_4.from_)) rfl rfl (Exact.load_rop rfl rfl rfl) ?_
                refine WpOps.pn 2 rfl trivial ?_
                refine WpOps.nil ?_
                refine WpC.seqD [] [0, 1, 2, 3, 4, 5, 6, 7, 8, 9, 10, 11, 12, 13, 14] (by kernel_rfl) (by kernel_rfl) ?_
                obtain ⟨y_5, hy_5, h⟩ := Sh.bind_some h
                refine WpPi.pn 3 rfl trivial ?_
                refine WpPi.consI (v := (.rop (cGFile y_5))) rfl rfl rfl rfl (fun _ => Exact.ixr cGFile hy_5 rfl rfl rfl rfl (by kernel_rfl) (by decide)) ?_
                refine WpPi.pn 1 rfl trivial ?_
                refine WpPi.consI (v := (sA y_5.text)) rfl rfl rfl rfl (fun _ => Exact.load_rop rfl rfl rfl) ?_
                obtain ⟨y_6, hy_6, h⟩ := Sh.bind_some h
                refine WpPi.pn 3 rfl trivial ?_
                refine WpPi.consI (v := (.rop (cGEdit y_6))) rfl rfl rfl rfl (fun _ => Exact.ixr cGEdit hy_6 rfl rfl rfl rfl (by kernel_rfl) (by decide)) ?_
                refine WpPi.pn 1 rfl trivial ?_
                refine WpPi.consI (v := (iA y_6.to)) rfl rfl rfl rfl (fun _ => Exact.load_rop rfl rfl rfl) ?_
                obtain ⟨c_1, h⟩ := Sh.chk_some h
                refine WpPi.pn 3 rfl c_1 ?_
                refine WpPi.nil ?_
                refine WpC.regionD ?_
                refine WpOps.pn 1 rfl trivial ?_
                refine WpOps.nil ?_
                refine ⟨_, Heap.le_refl _, ?_⟩
                refine WpC.regionD ?_
                obtain ⟨c_2, h⟩ := Sh.chk_some h
                refine WpOps.pn 3 rfl c_2 ?_
                refine WpOps.nil ?_
                obtain rfl := Sh.some_inj h
                exact ⟨_, (Heap.le_refl _), ((if y_4.from_ < from_1 then y_4.from_ else from_1), (if ((y_5.text.length : Int) - y_6.to) < last_1 then ((y_5.text.length : Int) - y_6.to) else last_1), true, (k_1 + (1 : Int))), (), rfl, ⟨rfl, rfl, rfl, rfl, rfl, rfl, rfl, rfl, rfl, rfl, trivial⟩, hH⟩
              ·
                replace h := Sh.ite_neg hb h
                refine WpC.skipD ?_
                refine ⟨_, Heap.le_refl _, ?_⟩
                refine WpC.regionD ?_
                obtain ⟨c_3, h⟩ := Sh.chk_some h
                refine WpOps.pn 3 rfl c_3 ?_
                refine WpOps.nil ?_
                obtain rfl := Sh.some_inj h
                exact ⟨_, (Heap.le_refl _), (from_1, last_1, some_1, (k_1 + (1 : Int))), (), rfl, ⟨rfl, rfl, rfl, rfl, rfl, rfl, rfl, rfl, rfl, rfl, trivial⟩, hH⟩
            ·
              replace h := Sh.ite_neg hb h
              obtain rfl := Sh.some_inj h
              have e := hd_2 _ rfl
              subst e
              refine WpC.exit ?_
              exact ⟨((from_1, last_1, some_1), ()), ⟨rfl, rfl, rfl, rfl, rfl, rfl, rfl, rfl, rfl, trivial⟩, hk_2, hH⟩
          ·
            rintro ⟨⟨from_2, last_2, some_2⟩, _⟩ env H' ⟨h, hH⟩
            try dsimp only at h
            refine ⟨_, Heap.le_refl _, ?_⟩
            refine WpC.seqR ?_
            refine WpOps.pn 1 rfl trivial ?_
            refine WpOps.nil ?_
            refine WpC.seq ?_
            refine WpC.seqR ?_
            refine WpOps.pn 1 rfl trivial ?_
            refine WpOps.nil ?_
            refine WpC.blockK (fun x : (Bool) × (Unit) => [(0, (AV.rows 2 (List.map cGFile files_1))), (5, (bA r_1)), (7, (AV.rows 2 (List.map cGFile r_3.1))), (9, (AV.rows 4 (List.map cGEdit r_4.1))), (11, (AV.rows 1 (List.map cI r_5))), (12, (iA i_1)), (13, (iA from_2)), (14, (iA last_2)), (15, (bA some_2)), (17, (bA x.1))]) (fun x H' => (emendlaw20_EditsUntouched_j5 files_1 r_3 i_1 from_2 last_2 some_2) x.1 = some st_1 ∧ Holds H0 [] H') ?_ ?_
            ·
              obtain ⟨o_3, ho_3, hk_3⟩ := Sh.bind_some h
              refine WpC.loopS (emendlaw20_EditsUntouched_b6 r_5 i_1) (fun (s : Bool × Int) (a : Unit) => [(0, (AV.rows 2 (List.map cGFile files_1))), (5, (bA r_1)), (7, (AV.rows 2 (List.map cGFile r_3.1))), (9, (AV.rows 4 (List.map cGEdit r_4.1))), (11, (AV.rows 1 (List.map cI r_5))), (12, (iA i_1)), (13, (iA from_2)), (14, (iA last_2)), (15, (bA some_2)), (17, (bA s.1)), (18, (iA s.2))]) (fun (s : Bool × Int) (a : Unit) H' => Holds H0 [] H') o_3 (false, (0 : Int)) () ho_3 ⟨rfl, rfl, rfl, rfl, rfl, rfl, rfl, rfl, rfl, rfl, rfl, trivial⟩ hH ?_
              rintro ⟨in_1, k_2⟩ _ st_3 env H' h hd_3 hH
              refine WpC.seq ?_
              refine WpC.seqR ?_
              refine WpOps.pn 3 rfl trivial ?_
              refine WpOps.at 109 (len_map _ _) ?_
              refine WpOps.pn 1 rfl trivial ?_
              refine WpOps.nil ?_
              refine WpC.condB rfl (fun hb => ?_) (fun hb => ?_)
              ·
                replace h := Sh.ite_pos hb h
                refine WpC.skipD ?_
                refine ⟨_, Heap.le_refl _, ?_⟩
                refine WpC.seq ?_
                refine WpC.block ?_
                refine WpC.regionD ?_
                refine WpOps.pn 1 rfl trivial ?_
                obtain ⟨b_3, g_3, h⟩ := Sh.bind_some h
                refine WpOps.cutB 8 121 (bA b_3) rfl ?_ ?_
                ·
                  refine WpOps.pn 1 rfl trivial ?_
                  refine WpOps.split 114 rfl (fun hb => ?_) (fun hb => ?_)
                  ·
                    replace g_3 := Sh.ite_pos hb g_3
                    refine WpOps.pn 7 rfl trivial ?_
                    refine WpOps.nil ?_
                    obtain rfl := Sh.some_inj g_3
                    exact ⟨rfl, rfl⟩
                  ·
                    replace g_3 := Sh.ite_neg hb g_3
                    obtain ⟨y_7, hy_7, g_3⟩ := Sh.bind_some g_3
                    refine WpOps.pn 2 rfl trivial ?_
                    refine WpOps.consE (v := (.rop (cI y_7))) rfl rfl (Exact.ixr cI hy_7 rfl rfl rfl rfl (by kernel_rfl) (by decide)) ?_
                    refine WpOps.consE (v := (iA y_7)) rfl rfl (Exact.load_rop rfl rfl rfl) ?_
                    refine WpOps.pn 3 rfl trivial ?_
                    refine WpOps.nil ?_
                    obtain rfl := Sh.some_inj g_3
                    exact ⟨rfl, rfl⟩
                intro env
                refine WpOps.pn 1 rfl trivial ?_
                refine WpOps.nil ?_
                refine ⟨_, Heap.le_refl _, ?_⟩
                refine WpC.regionD ?_
                obtain ⟨c_4, h⟩ := Sh.chk_some h
                refine WpOps.pn 3 rfl c_4 ?_
                refine WpOps.nil ?_
                obtain rfl := Sh.some_inj h
                exact ⟨_, (Heap.le_refl _), (b_3, (k_2 + (1 : Int))), (), rfl, ⟨rfl, rfl, rfl, rfl, rfl, rfl, rfl, rfl, rfl, rfl, rfl, trivial⟩, hH⟩
              ·
                replace h := Sh.ite_neg hb h
                obtain rfl := Sh.some_inj h
                have e := hd_3 _ rfl
                subst e
                refine WpC.exit ?_
                exact ⟨(in_1, ()), ⟨rfl, rfl, rfl, rfl, rfl, rfl, rfl, rfl, rfl, rfl, trivial⟩, hk_3, hH⟩
            ·
              rintro ⟨in_2, _⟩ env H' ⟨h, hH⟩
              try dsimp only at h
              refine ⟨_, Heap.le_refl _, ?_⟩
              refine WpC.seq ?_
              refine WpC.seqD [] [0, 1, 2, 3, 4, 5, 6, 7, 8, 9, 10, 11, 12, 13, 14, 15, 16, 17, 18, 19, 20, 21, 22, 23, 24, 25, 26, 27, 28, 29, 30, 31, 32] (by kernel_rfl) (by kernel_rfl) ?_
              refine WpPi.pn 3 rfl trivial ?_
              obtain ⟨b_4, g_4, h⟩ := Sh.bind_some h
              refine WpPi.cutB 13 137 (bA b_4) rfl ?_ ?_
              ·
                refine WpPi.pn 1 rfl trivial ?_
                refine WpPi.split 125 rfl (fun hb => ?_) (fun hb => ?_)
                ·
                  replace g_4 := Sh.ite_pos hb g_4
                  refine WpPi.pn 2 rfl trivial ?_
                  refine WpPi.skip rfl rfl rfl ?_
                  refine WpPi.pn 1 rfl trivial ?_
                  refine WpPi.skip rfl rfl rfl ?_
                  refine WpPi.pn 2 rfl trivial ?_
                  refine WpPi.skip rfl rfl rfl ?_
                  refine WpPi.pn 1 rfl trivial ?_
                  refine WpPi.skip rfl rfl rfl ?_
                  refine WpPi.pn 2 rfl trivial ?_
                  refine WpPi.nil ?_
                  obtain rfl := Sh.some_inj g_4
                  exact ⟨rfl, rfl⟩
                ·
                  replace g_4 := Sh.ite_neg hb g_4
                  obtain ⟨y_8, hy_8, g_4⟩ := Sh.bind_some g_4
                  refine WpPi.pn 2 rfl trivial ?_
                  refine WpPi.consI (v := (.rop (cGFile y_8))) rfl rfl rfl rfl (fun _ => Exact.ixr cGFile hy_8 rfl rfl rfl rfl (by kernel_rfl) (by decide)) ?_
                  refine WpPi.pn 1 rfl trivial ?_
                  refine WpPi.consI (v := (sA y_8.path)) rfl rfl rfl rfl (fun _ => Exact.load_rop rfl rfl rfl) ?_
                  obtain ⟨y_9, hy_9, g_4⟩ := Sh.bind_some g_4
                  refine WpPi.pn 2 rfl trivial ?_
                  refine WpPi.consI (v := (.rop (cGFile y_9))) rfl rfl rfl rfl (fun _ => Exact.ixr cGFile hy_9 rfl rfl rfl rfl (by kernel_rfl) (by decide)) ?_
                  refine WpPi.pn 1 rfl trivial ?_
                  refine WpPi.consI (v := (sA y_9.path)) rfl rfl rfl rfl (fun _ => Exact.load_rop rfl rfl rfl) ?_
                  refine WpPi.pn 2 rfl trivial ?_
                  refine WpPi.nil ?_
                  obtain rfl := Sh.some_inj g_4
                  exact ⟨rfl, rfl⟩
              intro env
              obtain ⟨b_5, g_5, h⟩ := Sh.bind_some h
              refine WpPi.cutB 17 154 (bA b_5) rfl ?_ ?_
              ·
                refine WpPi.pn 1 rfl trivial ?_
                refine WpPi.split 138 rfl (fun hb => ?_) (fun hb => ?_)
                ·
                  replace g_5 := Sh.ite_pos hb g_5
                  refine WpPi.pn 5 rfl trivial ?_
                  refine WpPi.skip rfl rfl rfl ?_
                  refine WpPi.pn 1 rfl trivial ?_
                  refine WpPi.skip rfl rfl rfl ?_
                  refine WpPi.pn 2 rfl trivial ?_
                  refine WpPi.skip rfl rfl rfl ?_
                  refine WpPi.pn 1 rfl trivial ?_
                  refine WpPi.skip rfl rfl rfl ?_
                  refine WpPi.pn 3 rfl trivial ?_
                  refine WpPi.nil ?_
                  obtain rfl := Sh.some_inj g_5
                  exact ⟨rfl, rfl⟩
                ·
                  replace g_5 := Sh.ite_neg hb g_5
                  refine WpPi.pn 2 rfl trivial ?_
                  obtain ⟨b_6, g_6, g_5⟩ := Sh.bind_some g_5
                  refine WpPi.cutB 13 153 (bA b_6) rfl ?_ ?_
                  ·
                    refine WpPi.pn 1 rfl trivial ?_
                    refine WpPi.split 141 rfl (fun hb => ?_) (fun hb => ?_)
                    ·
                      replace g_6 := Sh.ite_pos hb g_6
                      obtain ⟨y_10, hy_10, g_6⟩ := Sh.bind_some g_6
                      refine WpPi.pn 2 rfl trivial ?_
                      refine WpPi.consI (v := (.rop (cGFile y_10))) rfl rfl rfl rfl (fun _ => Exact.ixr cGFile hy_10 rfl rfl rfl rfl (by kernel_rfl) (by decide)) ?_
                      refine WpPi.pn 1 rfl trivial ?_
                      refine WpPi.consI (v := (sA y_10.text)) rfl rfl rfl rfl (fun _ => Exact.load_rop rfl rfl rfl) ?_
                      obtain ⟨y_11, hy_11, g_6⟩ := Sh.bind_some g_6
                      refine WpPi.pn 2 rfl trivial ?_
                      refine WpPi.consI (v := (.rop (cGFile y_11))) rfl rfl rfl rfl (fun _ => Exact.ixr cGFile hy_11 rfl rfl rfl rfl (by kernel_rfl) (by decide)) ?_
                      refine WpPi.pn 1 rfl trivial ?_
                      refine WpPi.consI (v := (sA y_11.text)) rfl rfl rfl rfl (fun _ => Exact.load_rop rfl rfl rfl) ?_
                      refine WpPi.pn 2 rfl trivial ?_
                      refine WpPi.nil ?_
                      obtain rfl := Sh.some_inj g_6
                      exact ⟨rfl, rfl⟩
                    ·
                      replace g_6 := Sh.ite_neg hb g_6
                      refine WpPi.pn 2 rfl trivial ?_
                      refine WpPi.skip rfl rfl rfl ?_
                      refine WpPi.pn 1 rfl trivial ?_
                      refine WpPi.skip rfl rfl rfl ?_
                      refine WpPi.pn 2 rfl trivial ?_
                      refine WpPi.skip rfl rfl rfl ?_
                      refine WpPi.pn 1 rfl trivial ?_
                      refine WpPi.skip rfl rfl rfl ?_
                      refine WpPi.pn 2 rfl trivial ?_
                      refine WpPi.nil ?_
                      obtain rfl := Sh.some_inj g_6
                      exact ⟨rfl, rfl⟩
                  intro env
                  refine WpPi.pn 1 rfl trivial ?_
                  refine WpPi.nil ?_
                  obtain rfl := Sh.some_inj g_5
                  exact ⟨rfl, rfl⟩
              intro env
              refine WpPi.nil ?_
              refine WpC.condB rfl (fun hb => ?_) (fun hb => ?_)
              ·
                replace h := Sh.ite_pos hb h
                refine WpC.seqR ?_
                refine WpOps.pn 1 rfl trivial ?_
                refine WpOps.nil ?_
                obtain rfl := Sh.some_inj h
                have e := hd_1 _ rfl
                subst e
                have h := hk_1
                obtain rfl := Sh.some_inj h
                refine WpC.ret ?_
                exact VEnds.ret1 rfl rfl ⟨rfl, hH⟩
              ·
                replace h := Sh.ite_neg hb h
                refine WpC.skipD ?_
                refine ⟨_, Heap.le_refl _, ?_⟩
                refine WpC.seq ?_
                refine WpC.seqR ?_
                refine WpOps.pn 2 rfl trivial ?_
                refine WpOps.nil ?_
                refine WpC.condB rfl (fun hb => ?_) (fun hb => ?_)
                ·
                  replace h := Sh.ite_pos hb h
                  refine WpC.exitD ?_
                  refine ⟨_, Heap.le_refl _, ?_⟩
                  refine WpC.regionD ?_
                  obtain ⟨c_5, h⟩ := Sh.chk_some h
                  refine WpOps.pn 3 rfl c_5 ?_
                  refine WpOps.nil ?_
                  obtain rfl := Sh.some_inj h
                  exact ⟨_, (Heap.le_refl _), (i_1 + (1 : Int)), (), rfl, ⟨rfl, rfl, rfl, rfl, rfl, rfl, trivial⟩, hH⟩
                ·
                  replace h := Sh.ite_neg hb h
                  refine WpC.skipD ?_
                  refine ⟨_, Heap.le_refl _, ?_⟩
                  refine WpC.seqR ?_
                  obtain ⟨y_12, hy_12, h⟩ := Sh.bind_some h
                  refine WpOps.pn 2 rfl trivial ?_
                  refine WpOps.consE (v := (.rop (cGFile y_12))) rfl rfl (Exact.ixr cGFile hy_12 rfl rfl rfl rfl (by kernel_rfl) (by decide)) ?_
                  refine WpOps.pn 1 rfl trivial ?_
                  refine WpOps.consE (v := (sA y_12.text)) rfl rfl (Exact.load_rop rfl rfl rfl) ?_
                  refine WpOps.pn 1 rfl trivial ?_
                  refine WpOps.nil ?_
                  refine WpC.seqD [] [0, 1, 2, 3, 4, 5, 6, 7, 8, 9, 10, 11, 12, 13, 14, 15, 16, 17, 18, 19, 20, 21, 22, 23, 24, 25, 26, 27, 28, 29, 30, 31, 32, 33, 34, 35, 36, 37, 38, 39, 40, 41, 42, 43, 44, 45] (by kernel_rfl) (by kernel_rfl) ?_
                  refine WpPi.pn 4 rfl trivial ?_
                  obtain ⟨b_7, g_7, h⟩ := Sh.bind_some h
                  refine WpPi.cutB 6 171 (bA b_7) rfl ?_ ?_
                  ·
                    refine WpPi.pn 1 rfl trivial ?_
                    refine WpPi.split 166 rfl (fun hb => ?_) (fun hb => ?_)
                    ·
                      replace g_7 := Sh.ite_pos hb g_7
                      refine WpPi.pn 5 rfl trivial ?_
                      refine WpPi.nil ?_
                      obtain rfl := Sh.some_inj g_7
                      exact ⟨rfl, rfl⟩
                    ·
                      replace g_7 := Sh.ite_neg hb g_7
                      refine WpPi.pn 5 rfl trivial ?_
                      refine WpPi.nil ?_
                      obtain rfl := Sh.some_inj g_7
                      exact ⟨rfl, rfl⟩
                  intro env
                  obtain ⟨b_8, g_8, h⟩ := Sh.bind_some h
                  refine WpPi.cutB 13 184 (bA b_8) rfl ?_ ?_
                  ·
                    refine WpPi.pn 1 rfl trivial ?_
                    refine WpPi.split 172 rfl (fun hb => ?_) (fun hb => ?_)
                    ·
                      replace g_8 := Sh.ite_pos hb g_8
                      refine WpPi.pn 5 rfl trivial ?_
                      refine WpPi.skip rfl rfl rfl ?_
                      refine WpPi.pn 1 rfl trivial ?_
                      refine WpPi.skip rfl rfl rfl ?_
                      refine WpPi.pn 4 rfl trivial ?_
                      refine WpPi.nil ?_
                      obtain rfl := Sh.some_inj g_8
                      exact ⟨rfl, rfl⟩
                    ·
                      replace g_8 := Sh.ite_neg hb g_8
                      obtain ⟨c_6, g_8⟩ := Sh.chk_some g_8
                      refine WpPi.pn 2 rfl trivial ?_
                      refine WpPi.pn 1 rfl (show True ∧ 0 ≤ from_2 ∧ (from_2).toNat ≤ y_12.text.length from ⟨trivial, (by omega), (by omega)⟩) ?_
                      obtain ⟨y_13, hy_13, g_8⟩ := Sh.bind_some g_8
                      refine WpPi.pn 2 rfl trivial ?_
                      refine WpPi.consI (v := (.rop (cGFile y_13))) rfl rfl rfl rfl (fun _ => Exact.ixr cGFile hy_13 rfl rfl rfl rfl (by kernel_rfl) (by decide)) ?_
                      refine WpPi.pn 1 rfl trivial ?_
                      refine WpPi.consI (v := (sA y_13.text)) rfl rfl rfl rfl (fun _ => Exact.load_rop rfl rfl rfl) ?_
                      obtain ⟨c_7, g_8⟩ := Sh.chk_some g_8
                      refine WpPi.pn 1 rfl trivial ?_
                      refine WpPi.pn 1 rfl (show True ∧ 0 ≤ from_2 ∧ (from_2).toNat ≤ y_13.text.length from ⟨trivial, (by omega), (by omega)⟩) ?_
                      refine WpPi.pn 2 rfl trivial ?_
                      refine WpPi.nil ?_
                      obtain rfl := Sh.some_inj g_8
                      exact ⟨rfl, rfl⟩
                  intro env
                  obtain ⟨b_9, g_9, h⟩ := Sh.bind_some h
                  refine WpPi.cutB 23 207 (bA b_9) rfl ?_ ?_
                  ·
                    refine WpPi.pn 1 rfl trivial ?_
                    refine WpPi.split 185 rfl (fun hb => ?_) (fun hb => ?_)
                    ·
                      replace g_9 := Sh.ite_pos hb g_9
                      refine WpPi.pn 8 rfl trivial ?_
                      refine WpPi.skip rfl rfl rfl ?_
                      refine WpPi.pn 1 rfl trivial ?_
                      refine WpPi.skip rfl rfl rfl ?_
                      refine WpPi.pn 2 rfl trivial ?_
                      refine WpPi.skip rfl rfl rfl ?_
                      refine WpPi.pn 1 rfl trivial ?_
                      refine WpPi.skip rfl rfl rfl ?_
                      refine WpPi.pn 6 rfl trivial ?_
                      refine WpPi.nil ?_
                      obtain rfl := Sh.some_inj g_9
                      exact ⟨rfl, rfl⟩
                    ·
                      replace g_9 := Sh.ite_neg hb g_9
                      obtain ⟨c_8, g_9⟩ := Sh.chk_some g_9
                      obtain ⟨c_9, g_9⟩ := Sh.chk_some g_9
                      refine WpPi.pn 5 rfl c_8 ?_
                      refine WpPi.pn 1 rfl (show 0 ≤ ((y_12.text.length : Int) - last_2) ∧ True ∧ (((y_12.text.length : Int) - last_2)).toNat ≤ y_12.text.length from ⟨(by omega), trivial, (by omega)⟩) ?_
                      obtain ⟨y_14, hy_14, g_9⟩ := Sh.bind_some g_9
                      refine WpPi.pn 2 rfl trivial ?_
                      refine WpPi.consI (v := (.rop (cGFile y_14))) rfl rfl rfl rfl (fun _ => Exact.ixr cGFile hy_14 rfl rfl rfl rfl (by kernel_rfl) (by decide)) ?_
                      refine WpPi.pn 1 rfl trivial ?_
                      refine WpPi.consI (v := (sA y_14.text)) rfl rfl rfl rfl (fun _ => Exact.load_rop rfl rfl rfl) ?_
                      obtain ⟨y_15, hy_15, g_9⟩ := Sh.bind_some g_9
                      refine WpPi.pn 2 rfl trivial ?_
                      refine WpPi.consI (v := (.rop (cGFile y_15))) rfl rfl rfl rfl (fun _ => Exact.ixr cGFile hy_15 rfl rfl rfl rfl (by kernel_rfl) (by decide)) ?_
                      refine WpPi.pn 1 rfl trivial ?_
                      refine WpPi.consI (v := (sA y_15.text)) rfl rfl rfl rfl (fun _ => Exact.load_rop rfl rfl rfl) ?_
                      obtain ⟨c_10, g_9⟩ := Sh.chk_some g_9
                      obtain ⟨c_11, g_9⟩ := Sh.chk_some g_9
                      refine WpPi.pn 3 rfl c_10 ?_
                      refine WpPi.pn 1 rfl (show 0 ≤ ((y_15.text.length : Int) - last_2) ∧ True ∧ (((y_15.text.length : Int) - last_2)).toNat ≤ y_14.text.length from ⟨(by omega), trivial, (by omega)⟩) ?_
                      refine WpPi.pn 2 rfl trivial ?_
                      refine WpPi.nil ?_
                      obtain rfl := Sh.some_inj g_9
                      exact ⟨rfl, rfl⟩
                  intro env
                  refine WpPi.nil ?_
                  refine WpC.condB rfl (fun hb => ?_) (fun hb => ?_)
                  ·
                    replace h := Sh.ite_pos hb h
                    refine WpC.seqR ?_
                    refine WpOps.pn 1 rfl trivial ?_
                    refine WpOps.nil ?_
                    obtain rfl := Sh.some_inj h
                    have e := hd_1 _ rfl
                    subst e
                    have h := hk_1
                    obtain rfl := Sh.some_inj h
                    refine WpC.ret ?_
                    exact VEnds.ret1 rfl rfl ⟨rfl, hH⟩
                  ·
                    replace h := Sh.ite_neg hb h
                    refine WpC.skipD ?_
                    refine ⟨_, Heap.le_refl _, ?_⟩
                    refine WpC.regionD ?_
                    obtain ⟨c_12, h⟩ := Sh.chk_some h
                    refine WpOps.pn 3 rfl c_12 ?_
                    refine WpOps.nil ?_
                    obtain rfl := Sh.some_inj h
                    exact ⟨_, (Heap.le_refl _), (i_1 + (1 : Int)), (), rfl, ⟨rfl, rfl, rfl, rfl, rfl, rfl, trivial⟩, hH⟩
        ·
          replace h := Sh.ite_neg hb h
          obtain rfl := Sh.some_inj h
          have e := hd_1 _ rfl
          subst e
          refine WpC.exit ?_
          exact ⟨((), ()), ⟨rfl, trivial⟩, hk_1, hH⟩
      ·
        rintro ⟨_, _⟩ env H' ⟨h, hH⟩
        try dsimp only at h
        refine ⟨_, Heap.le_refl _, ?_⟩
        refine WpC.seqR ?_
        refine WpOps.pn 2 rfl trivial ?_
        refine WpOps.nil ?_
        obtain rfl := Sh.some_inj h
        refine WpC.ret ?_
        exact VEnds.ret1 rfl rfl ⟨rfl, hH⟩

theorem w_emendlaw20_EditsTouched {H0 : Heap} {l_1 : List GEdit} {r : Bool} (h : emendlaw20_EditsTouched l_1 = some r) : TCall Try.prog 8 [(AV.rows 4 (List.map cGEdit l_1))] H0 (fun v H' => v = (bA r) ∧ H' = H0) noE := by
  refine id (TCall.body Try.func8 rfl rfl ?_)
  have hH : Holds H0 [] H0 := rfl
  refine WpC.seqR ?_
  refine WpOps.pn 1 rfl trivial ?_
  refine WpOps.nil ?_
  refine WpC.seqR ?_
  obtain ⟨r_1, hr_1, h⟩ := Sh.bind_some h
  refine WpOps.consE (v := (bA r_1)) rfl rfl (Exact.call rfl rfl rfl (w_emendlaw20_awake hr_1)) ?_
  refine WpOps.pn 1 rfl trivial ?_
  refine WpOps.nil ?_
  refine WpC.seqR ?_
  obtain ⟨r_2, hr_2, h⟩ := Sh.bind_some h
  refine WpOps.pn 1 rfl trivial ?_
  refine WpOps.consE (v := (AV.rows 1 (List.map cI r_2))) rfl rfl (Exact.call rfl rfl rfl (w_edits_Touched hr_2)) ?_
  refine WpOps.pn 1 rfl trivial ?_
  refine WpOps.nil ?_
  refine WpC.seq ?_
  refine WpC.seqR ?_
  refine WpOps.pn 1 rfl trivial ?_
  refine WpOps.nil ?_
  refine WpC.blockK (fun x : (Unit) × (Unit) => [(0, (AV.rows 4 (List.map cGEdit l_1))), (3, (bA r_1)), (4, (AV.rows 1 (List.map cI r_2)))]) (fun x H' => (emendlaw20_EditsTouched_j1 l_1 r_1 r_2) x.1 = some r ∧ Holds H0 [] H') ?_ ?_
  ·
    obtain ⟨o_1, ho_1, hk_1⟩ := Sh.bind_some h
    refine WpC.loopS (emendlaw20_EditsTouched_b2 l_1 r_2) (fun (s : Int) (a : Unit) => [(0, (AV.rows 4 (List.map cGEdit l_1))), (3, (bA r_1)), (4, (AV.rows 1 (List.map cI r_2))), (5, (iA s))]) (fun (s : Int) (a : Unit) H' => Holds H0 [] H') o_1 (0 : Int) () ho_1 ⟨rfl, rfl, rfl, rfl, trivial⟩ hH ?_
    rintro i_1 _ st_1 env H' h hd_1 hH
    refine WpC.seq ?_
    refine WpC.seqR ?_
    refine WpOps.pn 3 rfl trivial ?_
    refine WpOps.at 16 (len_map _ _) ?_
    refine WpOps.pn 1 rfl trivial ?_
    refine WpOps.nil ?_
    refine WpC.condB rfl (fun hb => ?_) (fun hb => ?_)
    ·
      replace h := Sh.ite_pos hb h
      refine WpC.skipD ?_
      refine ⟨_, Heap.le_refl _, ?_⟩
      refine WpC.seq ?_
      refine WpC.block ?_
      refine WpC.seq ?_
      refine WpC.seqD [] [0, 1, 2, 3, 4, 5, 6, 7, 8, 9, 10, 11, 12, 13] (by kernel_rfl) (by kernel_rfl) ?_
      refine WpPi.pn 2 rfl trivial ?_
      obtain ⟨b_1, g_1, h⟩ := Sh.bind_some h
      refine WpPi.cutB 12 33 (bA b_1) rfl ?_ ?_
      ·
        refine WpPi.pn 1 rfl trivial ?_
        refine WpPi.split 22 rfl (fun hb => ?_) (fun hb => ?_)
        ·
          replace g_1 := Sh.ite_pos hb g_1
          obtain ⟨c_1, g_1⟩ := Sh.chk_some g_1
          obtain ⟨y_1, hy_1, g_1⟩ := Sh.bind_some g_1
          refine WpPi.pn 3 rfl c_1 ?_
          refine WpPi.consI (v := (.rop (cI y_1))) rfl rfl rfl rfl (fun _ => Exact.ixr cI hy_1 rfl rfl rfl rfl (by kernel_rfl) (by decide)) ?_
          refine WpPi.consI (v := (iA y_1)) rfl rfl rfl rfl (fun _ => Exact.load_rop rfl rfl rfl) ?_
          obtain ⟨y_2, hy_2, g_1⟩ := Sh.bind_some g_1
          refine WpPi.pn 2 rfl trivial ?_
          refine WpPi.consI (v := (.rop (cI y_2))) rfl rfl rfl rfl (fun _ => Exact.ixr cI hy_2 rfl rfl rfl rfl (by kernel_rfl) (by decide)) ?_
          refine WpPi.consI (v := (iA y_2)) rfl rfl rfl rfl (fun _ => Exact.load_rop rfl rfl rfl) ?_
          refine WpPi.pn 2 rfl trivial ?_
          refine WpPi.nil ?_
          obtain rfl := Sh.some_inj g_1
          exact ⟨rfl, rfl⟩
        ·
          replace g_1 := Sh.ite_neg hb g_1
          refine WpPi.pn 3 rfl trivial ?_
          refine WpPi.skip rfl rfl rfl ?_
          refine WpPi.skip rfl rfl rfl ?_
          refine WpPi.pn 2 rfl trivial ?_
          refine WpPi.skip rfl rfl rfl ?_
          refine WpPi.skip rfl rfl rfl ?_
          refine WpPi.pn 2 rfl trivial ?_
          refine WpPi.nil ?_
          obtain rfl := Sh.some_inj g_1
          exact ⟨rfl, rfl⟩
      intro env
      refine WpPi.nil ?_
      refine WpC.condB rfl (fun hb => ?_) (fun hb => ?_)
      ·
        replace h := Sh.ite_pos hb h
        refine WpC.seqR ?_
        refine WpOps.pn 1 rfl trivial ?_
        refine WpOps.nil ?_
        obtain rfl := Sh.some_inj h
        have e := hd_1 _ rfl
        subst e
        have h := hk_1
        obtain rfl := Sh.some_inj h
        refine WpC.ret ?_
        exact VEnds.ret1 rfl rfl ⟨rfl, hH⟩
      ·
        replace h := Sh.ite_neg hb h
        refine WpC.skipD ?_
        refine ⟨_, Heap.le_refl _, ?_⟩
        refine WpC.seqR ?_
        refine WpOps.pn 1 rfl trivial ?_
        refine WpOps.nil ?_
        refine WpC.seq ?_
        refine WpC.seqR ?_
        refine WpOps.pn 1 rfl trivial ?_
        refine WpOps.nil ?_
        refine WpC.blockK (fun x : (Bool) × (Unit) => [(0, (AV.rows 4 (List.map cGEdit l_1))), (3, (bA r_1)), (4, (AV.rows 1 (List.map cI r_2))), (5, (iA i_1)), (6, (bA x.1))]) (fun x H' => (emendlaw20_EditsTouched_j3 i_1) x.1 = some st_1 ∧ Holds H0 [] H') ?_ ?_
        ·
          obtain ⟨o_2, ho_2, hk_2⟩ := Sh.bind_some h
          refine WpC.loopS (emendlaw20_EditsTouched_b4 l_1 r_2 i_1) (fun (s : Bool × Int) (a : Unit) => [(0, (AV.rows 4 (List.map cGEdit l_1))), (3, (bA r_1)), (4, (AV.rows 1 (List.map cI r_2))), (5, (iA i_1)), (6, (bA s.1)), (7, (iA s.2))]) (fun (s : Bool × Int) (a : Unit) H' => Holds H0 [] H') o_2 (false, (0 : Int)) () ho_2 ⟨rfl, rfl, rfl, rfl, rfl, rfl, trivial⟩ hH ?_
          rintro ⟨in_1, k_1⟩ _ st_2 env H' h hd_2 hH
          refine WpC.seq ?_
          refine WpC.seqR ?_
          refine WpOps.pn 3 rfl trivial ?_
          refine WpOps.at 36 (len_map _ _) ?_
          refine WpOps.pn 1 rfl trivial ?_
          refine WpOps.nil ?_
          refine WpC.condB rfl (fun hb => ?_) (fun hb => ?_)
          ·
            replace h := Sh.ite_pos hb h
            refine WpC.skipD ?_
            refine ⟨_, Heap.le_refl _, ?_⟩
            refine WpC.seq ?_
            refine WpC.block ?_
            refine WpC.drawD [] [0, 1, 2, 3, 4, 5, 6, 7, 8, 9, 10, 11, 12, 13] (by kernel_rfl) (by kernel_rfl) ?_
            refine WpPi.pn 1 rfl trivial ?_
            obtain ⟨b_2, g_2, h⟩ := Sh.bind_some h
            refine WpPi.cutB 12 52 (bA b_2) rfl ?_ ?_
            ·
              refine WpPi.pn 1 rfl trivial ?_
              refine WpPi.split 41 rfl (fun hb => ?_) (fun hb => ?_)
              ·
                replace g_2 := Sh.ite_pos hb g_2
                refine WpPi.pn 2 rfl trivial ?_
                refine WpPi.skip rfl rfl rfl ?_
                refine WpPi.pn 1 rfl trivial ?_
                refine WpPi.skip rfl rfl rfl ?_
                refine WpPi.pn 2 rfl trivial ?_
                refine WpPi.skip rfl rfl rfl ?_
                refine WpPi.skip rfl rfl rfl ?_
                refine WpPi.pn 2 rfl trivial ?_
                refine WpPi.nil ?_
                obtain rfl := Sh.some_inj g_2
                exact ⟨rfl, rfl⟩
              ·
                replace g_2 := Sh.ite_neg hb g_2
                obtain ⟨y_3, hy_3, g_2⟩ := Sh.bind_some g_2
                refine WpPi.pn 2 rfl trivial ?_
                refine WpPi.consI (v := (.rop (cGEdit y_3))) rfl rfl rfl rfl (fun _ => Exact.ixr cGEdit hy_3 rfl rfl rfl rfl (by kernel_rfl) (by decide)) ?_
                refine WpPi.pn 1 rfl trivial ?_
                refine WpPi.consI (v := (iA y_3.file_)) rfl rfl rfl rfl (fun _ => Exact.load_rop rfl rfl rfl) ?_
                obtain ⟨y_4, hy_4, g_2⟩ := Sh.bind_some g_2
                refine WpPi.pn 2 rfl trivial ?_
                refine WpPi.consI (v := (.rop (cI y_4))) rfl rfl rfl rfl (fun _ => Exact.ixr cI hy_4 rfl rfl rfl rfl (by kernel_rfl) (by decide)) ?_
                refine WpPi.consI (v := (iA y_4)) rfl rfl rfl rfl (fun _ => Exact.load_rop rfl rfl rfl) ?_
                refine WpPi.pn 2 rfl trivial ?_
                refine WpPi.nil ?_
                obtain rfl := Sh.some_inj g_2
                exact ⟨rfl, rfl⟩
            intro env
            refine WpPi.pn 1 rfl trivial ?_
            refine WpPi.nil ?_
            refine ⟨_, Heap.le_refl _, ?_⟩
            refine WpC.regionD ?_
            obtain ⟨c_2, h⟩ := Sh.chk_some h
            refine WpOps.pn 3 rfl c_2 ?_
            refine WpOps.nil ?_
            obtain rfl := Sh.some_inj h
            exact ⟨_, (Heap.le_refl _), (b_2, (k_1 + (1 : Int))), (), rfl, ⟨rfl, rfl, rfl, rfl, rfl, rfl, trivial⟩, hH⟩
          ·
            replace h := Sh.ite_neg hb h
            obtain rfl := Sh.some_inj h
            have e := hd_2 _ rfl
            subst e
            refine WpC.exit ?_
            exact ⟨(in_1, ()), ⟨rfl, rfl, rfl, rfl, rfl, trivial⟩, hk_2, hH⟩
        ·
          rintro ⟨in_2, _⟩ env H' ⟨h, hH⟩
          try dsimp only at h
          refine ⟨_, Heap.le_refl _, ?_⟩
          refine WpC.seqR ?_
          refine WpOps.pn 2 rfl trivial ?_
          refine WpOps.nil ?_
          refine WpC.condB rfl (fun hb => ?_) (fun hb => ?_)
          ·
            replace h := Sh.ite_pos hb h
            refine WpC.seqR ?_
            refine WpOps.pn 1 rfl trivial ?_
            refine WpOps.nil ?_
            obtain rfl := Sh.some_inj h
            have e := hd_1 _ rfl
            subst e
            have h := hk_1
            obtain rfl := Sh.some_inj h
            refine WpC.ret ?_
            exact VEnds.ret1 rfl rfl ⟨rfl, hH⟩
          ·
            replace h := Sh.ite_neg hb h
            refine WpC.skipD ?_
            refine ⟨_, Heap.le_refl _, ?_⟩
            refine WpC.regionD ?_
            obtain ⟨c_3, h⟩ := Sh.chk_some h
            refine WpOps.pn 3 rfl c_3 ?_
            refine WpOps.nil ?_
            obtain rfl := Sh.some_inj h
            exact ⟨_, (Heap.le_refl _), (i_1 + (1 : Int)), (), rfl, ⟨rfl, rfl, rfl, rfl, trivial⟩, hH⟩
    ·
      replace h := Sh.ite_neg hb h
      obtain rfl := Sh.some_inj h
      have e := hd_1 _ rfl
      subst e
      refine WpC.exit ?_
      exact ⟨((), ()), ⟨rfl, rfl, rfl, trivial⟩, hk_1, hH⟩
  ·
    rintro ⟨_, _⟩ env H' ⟨h, hH⟩
    try dsimp only at h
    refine ⟨_, Heap.le_refl _, ?_⟩
    refine WpC.seq ?_
    refine WpC.seqR ?_
    refine WpOps.pn 1 rfl trivial ?_
    refine WpOps.nil ?_
    refine WpC.blockK (fun x : (Unit) × (Unit) => [(3, (bA r_1))]) (fun x H' => (emendlaw20_EditsTouched_j5 r_1) x.1 = some r ∧ Holds H0 [] H') ?_ ?_
    ·
      obtain ⟨o_3, ho_3, hk_3⟩ := Sh.bind_some h
      refine WpC.loopS (emendlaw20_EditsTouched_b6 l_1 r_2) (fun (s : Int) (a : Unit) => [(0, (AV.rows 4 (List.map cGEdit l_1))), (3, (bA r_1)), (4, (AV.rows 1 (List.map cI r_2))), (8, (iA s))]) (fun (s : Int) (a : Unit) H' => Holds H0 [] H') o_3 (0 : Int) () ho_3 ⟨rfl, rfl, rfl, rfl, trivial⟩ hH ?_
      rintro k_2 _ st_3 env H' h hd_3 hH
      refine WpC.seq ?_
      refine WpC.seqR ?_
      refine WpOps.pn 3 rfl trivial ?_
      refine WpOps.at 57 (len_map _ _) ?_
      refine WpOps.pn 1 rfl trivial ?_
      refine WpOps.nil ?_
      refine WpC.condB rfl (fun hb => ?_) (fun hb => ?_)
      ·
        replace h := Sh.ite_pos hb h
        refine WpC.skipD ?_
        refine ⟨_, Heap.le_refl _, ?_⟩
        refine WpC.seq ?_
        refine WpC.block ?_
        refine WpC.seqR ?_
        refine WpOps.pn 1 rfl trivial ?_
        refine WpOps.nil ?_
        refine WpC.seq ?_
        refine WpC.seqR ?_
        refine WpOps.pn 1 rfl trivial ?_
        refine WpOps.nil ?_
        refine WpC.blockK (fun x : (Bool) × (Unit) => [(0, (AV.rows 4 (List.map cGEdit l_1))), (3, (bA r_1)), (4, (AV.rows 1 (List.map cI r_2))), (8, (iA k_2)), (9, (bA x.1))]) (fun x H' => (emendlaw20_EditsTouched_j7 k_2) x.1 = some st_3 ∧ Holds H0 [] H') ?_ ?_
        ·
          obtain ⟨o_4, ho_4, hk_4⟩ := Sh.bind_some h
          refine WpC.loopS (emendlaw20_EditsTouched_b8 l_1 r_2 k_2) (fun (s : Bool × Int) (a : Unit) => [(0, (AV.rows 4 (List.map cGEdit l_1))), (3, (bA r_1)), (4, (AV.rows 1 (List.map cI r_2))), (8, (iA k_2)), (9, (bA s.1)), (10, (iA s.2))]) (fun (s : Bool × Int) (a : Unit) H' => Holds H0 [] H') o_4 (false, (0 : Int)) () ho_4 ⟨rfl, rfl, rfl, rfl, rfl, rfl, trivial⟩ hH ?_
          rintro ⟨in_3, i_2⟩ _ st_4 env H' h hd_4 hH
          refine WpC.seq ?_
          refine WpC.seqR ?_
          refine WpOps.pn 3 rfl trivial ?_
          refine WpOps.at 63 (len_map _ _) ?_
          refine WpOps.pn 1 rfl trivial ?_
          refine WpOps.nil ?_
          refine WpC.condB rfl (fun hb => ?_) (fun hb => ?_)
          ·
            replace h := Sh.ite_pos hb h
            refine WpC.skipD ?_
            refine ⟨_, Heap.le_refl _, ?_⟩
            refine WpC.seq ?_
            refine WpC.block ?_
            refine WpC.drawD [] [0, 1, 2, 3, 4, 5, 6, 7, 8, 9, 10, 11, 12, 13] (by kernel_rfl) (by kernel_rfl) ?_
            refine WpPi.pn 1 rfl trivial ?_
            obtain ⟨b_3, g_3, h⟩ := Sh.bind_some h
            refine WpPi.cutB 12 79 (bA b_3) rfl ?_ ?_
            ·
              refine WpPi.pn 1 rfl trivial ?_
              refine WpPi.split 68 rfl (fun hb => ?_) (fun hb => ?_)
              ·
                replace g_3 := Sh.ite_pos hb g_3
                refine WpPi.pn 2 rfl trivial ?_
                refine WpPi.skip rfl rfl rfl ?_
                refine WpPi.pn 1 rfl trivial ?_
                refine WpPi.skip rfl rfl rfl ?_
                refine WpPi.pn 2 rfl trivial ?_
                refine WpPi.skip rfl rfl rfl ?_
                refine WpPi.skip rfl rfl rfl ?_
                refine WpPi.pn 2 rfl trivial ?_
                refine WpPi.nil ?_
                obtain rfl := Sh.some_inj g_3
                exact ⟨rfl, rfl⟩
              ·
                replace g_3 := Sh.ite_neg hb g_3
                obtain ⟨y_5, hy_5, g_3⟩ := Sh.bind_some g_3
                refine WpPi.pn 2 rfl trivial ?_
                refine WpPi.consI (v := (.rop (cGEdit y_5))) rfl rfl rfl rfl (fun _ => Exact.ixr cGEdit hy_5 rfl rfl rfl rfl (by kernel_rfl) (by decide)) ?_
                refine WpPi.pn 1 rfl trivial ?_
                refine WpPi.consI (v := (iA y_5.file_)) rfl rfl rfl rfl (fun _ => Exact.load_rop rfl rfl rfl) ?_
                obtain ⟨y_6, hy_6, g_3⟩ := Sh.bind_some g_3
                refine WpPi.pn 2 rfl trivial ?_
                refine WpPi.consI (v := (.rop (cI y_6))) rfl rfl rfl rfl (fun _ => Exact.ixr cI hy_6 rfl rfl rfl rfl (by kernel_rfl) (by decide)) ?_
                refine WpPi.consI (v := (iA y_6)) rfl rfl rfl rfl (fun _ => Exact.load_rop rfl rfl rfl) ?_
                refine WpPi.pn 2 rfl trivial ?_
                refine WpPi.nil ?_
                obtain rfl := Sh.some_inj g_3
                exact ⟨rfl, rfl⟩
            intro env
            refine WpPi.pn 1 rfl trivial ?_
            refine WpPi.nil ?_
            refine ⟨_, Heap.le_refl _, ?_⟩
            refine WpC.regionD ?_
            obtain ⟨c_4, h⟩ := Sh.chk_some h
            refine WpOps.pn 3 rfl c_4 ?_
            refine WpOps.nil ?_
            obtain rfl := Sh.some_inj h
            exact ⟨_, (Heap.le_refl _), (b_3, (i_2 + (1 : Int))), (), rfl, ⟨rfl, rfl, rfl, rfl, rfl, rfl, trivial⟩, hH⟩
          ·
            replace h := Sh.ite_neg hb h
            obtain rfl := Sh.some_inj h
            have e := hd_4 _ rfl
            subst e
            refine WpC.exit ?_
            exact ⟨(in_3, ()), ⟨rfl, rfl, rfl, rfl, rfl, trivial⟩, hk_4, hH⟩
        ·
          rintro ⟨in_4, _⟩ env H' ⟨h, hH⟩
          try dsimp only at h
          refine ⟨_, Heap.le_refl _, ?_⟩
          refine WpC.seqR ?_
          refine WpOps.pn 2 rfl trivial ?_
          refine WpOps.nil ?_
          refine WpC.condB rfl (fun hb => ?_) (fun hb => ?_)
          ·
            replace h := Sh.ite_pos hb h
            refine WpC.seqR ?_
            refine WpOps.pn 1 rfl trivial ?_
            refine WpOps.nil ?_
            obtain rfl := Sh.some_inj h
            have e := hd_3 _ rfl
            subst e
            have h := hk_3
            obtain rfl := Sh.some_inj h
            refine WpC.ret ?_
            exact VEnds.ret1 rfl rfl ⟨rfl, hH⟩
          ·
            replace h := Sh.ite_neg hb h
            refine WpC.skipD ?_
            refine ⟨_, Heap.le_refl _, ?_⟩
            refine WpC.regionD ?_
            obtain ⟨c_5, h⟩ := Sh.chk_some h
            refine WpOps.pn 3 rfl c_5 ?_
            refine WpOps.nil ?_
            obtain rfl := Sh.some_inj h
            exact ⟨_, (Heap.le_refl _), (k_2 + (1 : Int)), (), rfl, ⟨rfl, rfl, rfl, rfl, trivial⟩, hH⟩
      ·
        replace h := Sh.ite_neg hb h
        obtain rfl := Sh.some_inj h
        have e := hd_3 _ rfl
        subst e
        refine WpC.exit ?_
        exact ⟨((), ()), ⟨rfl, trivial⟩, hk_3, hH⟩
    ·
      rintro ⟨_, _⟩ env H' ⟨h, hH⟩
      try dsimp only at h
      refine ⟨_, Heap.le_refl _, ?_⟩
      refine WpC.seqR ?_
      refine WpOps.pn 2 rfl trivial ?_
      refine WpOps.nil ?_
      obtain rfl := Sh.some_inj h
      refine WpC.ret ?_
      exact VEnds.ret1 rfl rfl ⟨rfl, hH⟩

theorem w_edits_Diff_c1 {H0 : Heap} {x_1 : GFile} {y_1 : GFile} {r : Bool} (h : edits_Diff_c1 x_1 y_1 = some r) : TCall Try.prog 37 [(AV.agg (cGFile x_1)), (AV.agg (cGFile y_1))] H0 (fun v H' => v = (bA r) ∧ H' = H0) noE := by
  refine id (TCall.body Try.func37 rfl rfl ?_)
  have hH : Holds H0 [] H0 := rfl
  refine WpC.seqR ?_
  refine WpOps.consG rfl rfl (WpO.boxT (v := (AV.agg (cGFile x_1))) rfl rfl hH fun g_1 H' hH => ?_)
  refine WpOps.consG rfl rfl (WpO.boxT (v := (AV.agg (cGFile y_1))) rfl rfl hH fun g_2 H' hH => ?_)
  refine WpOps.pn 1 rfl trivial ?_
  refine WpOps.nil ?_
  refine WpC.seqR ?_
  refine WpOps.pn 1 rfl trivial ?_
  refine WpOps.consE (v := (sA x_1.path)) rfl rfl (Exact.load rfl rfl (hH.cell (i := 1) rfl) rfl rfl) ?_
  refine WpOps.pn 1 rfl trivial ?_
  refine WpOps.consE (v := (sA y_1.path)) rfl rfl (Exact.load rfl rfl (hH.cell (i := 0) rfl) rfl rfl) ?_
  refine WpOps.pn 2 rfl trivial ?_
  refine WpOps.nil ?_
  refine WpC.lose (i := 0) hH rfl (fun H' hH => ?_)
  refine WpC.lose (i := 0) hH rfl (fun H' hH => ?_)
  obtain rfl := Sh.some_inj h
  refine WpC.ret ?_
  exact VEnds.ret1 rfl rfl ⟨rfl, hH⟩

theorem w_slices_EqualFunc_Lapi_File_Lapi_File_api_File_api_File__edits_Diff_c1 {H0 : Heap} {s1_1 : List GFile} {s2_1 : List GFile} {r : Bool} (h : slices_EqualFunc_Lapi_File_Lapi_File_api_File_api_File__edits_Diff_c1 s1_1 s2_1 = some r) : TCall Try.prog 36 [(AV.rows 2 (List.map cGFile s1_1)), (AV.rows 2 (List.map cGFile s2_1)), (.clo (.func 37) [] [])] H0 (fun v H' => v = (bA r) ∧ H' = H0) noE := by
  refine id (TCall.body Try.func36 rfl rfl ?_)
  have hH : Holds H0 [] H0 := rfl
  refine WpC.seqR ?_
  refine WpOps.pn 1 rfl trivial ?_
  refine WpOps.nil ?_
  refine WpC.seq ?_
  refine WpC.seqR ?_
  refine WpOps.pn 2 rfl trivial ?_
  refine WpOps.at 11 (len_map _ _) ?_
  refine WpOps.pn 2 rfl trivial ?_
  refine WpOps.at 13 (len_map _ _) ?_
  refine WpOps.pn 1 rfl trivial ?_
  refine WpOps.nil ?_
  refine WpC.condB rfl (fun hb => ?_) (fun hb => ?_)
  ·
    replace h := Sh.ite_pos hb h
    refine WpC.seqR ?_
    refine WpOps.pn 1 rfl trivial ?_
    refine WpOps.nil ?_
    obtain rfl := Sh.some_inj h
    refine WpC.ret ?_
    exact VEnds.ret1 rfl rfl ⟨rfl, hH⟩
  ·
    replace h := Sh.ite_neg hb h
    refine WpC.skipD ?_
    refine ⟨_, Heap.le_refl _, ?_⟩
    refine WpC.seq ?_
    refine WpC.seqR ?_
    refine WpOps.pn 2 rfl trivial ?_
    refine WpOps.at 16 (len_map _ _) ?_
    refine WpOps.pn 1 rfl trivial ?_
    refine WpOps.nil ?_
    refine WpC.blockK (fun x : (Unit) × (Unit) => []) (fun x H' => slices_EqualFunc_Lapi_File_Lapi_File_api_File_api_File__edits_Diff_c1_j1 x.1 = some r ∧ Holds H0 [] H') ?_ ?_
    ·
      obtain ⟨o_1, ho_1, hk_1⟩ := Sh.bind_some h
      refine WpC.loopS (slices_EqualFunc_Lapi_File_Lapi_File_api_File_api_File__edits_Diff_c1_b2 s1_1 s2_1) (fun (s : Int) (a : Unit) => [(1, (AV.rows 2 (List.map cGFile s2_1))), (2, (.clo (.func 37) [] [])), (15, (AV.rows 2 (List.map cGFile s1_1))), (16, (iA (s1_1.length : Int))), (17, (iA s))]) (fun (s : Int) (a : Unit) H' => Holds H0 [] H') o_1 (0 : Int) () ho_1 ⟨rfl, rfl, rfl, rfl, rfl, trivial⟩ hH ?_
      rintro t17_1 _ st_1 env H' h hd_1 hH
      refine WpC.seqR ?_
      refine WpOps.pn 1 rfl trivial ?_
      refine WpOps.nil ?_
      refine WpC.seq ?_
      refine WpC.condB rfl (fun hb => ?_) (fun hb => ?_)
      ·
        replace h := Sh.ite_pos hb h
        refine WpC.skipD ?_
        refine ⟨_, Heap.le_refl _, ?_⟩
        refine WpC.seq ?_
        refine WpC.block ?_
        refine WpC.seqR ?_
        obtain ⟨y_1, hy_1, h⟩ := Sh.bind_some h
        refine WpOps.pn 1 rfl trivial ?_
        refine WpOps.consE (v := (.rop (cGFile y_1))) rfl rfl (Exact.ixr cGFile hy_1 rfl rfl rfl rfl (by kernel_rfl) (by decide)) ?_
        refine WpOps.consE (v := (AV.agg (cGFile y_1))) rfl rfl (Exact.load_rop rfl rfl rfl) ?_
        refine WpOps.consG rfl rfl (WpO.allocT (z := cGFile (GFile.mk ([] : List UInt8) ([] : List UInt8))) rfl rfl hH fun g_1 H' hH => ?_)
        refine WpOps.pn 1 rfl trivial ?_
        refine WpOps.consG rfl rfl (WpO.putT (cs' := (cGFile y_1)) (v := (AV.agg (cGFile y_1))) rfl rfl hH (i := 0) rfl rfl rfl rfl rfl rfl rfl fun H' hH => ?_)
        refine WpOps.nil ?_
        refine WpC.seqR ?_
        obtain ⟨y_2, hy_2, h⟩ := Sh.bind_some h
        refine WpOps.pn 2 rfl trivial ?_
        refine WpOps.consE (v := (.rop (cGFile y_2))) rfl rfl (Exact.ixr cGFile hy_2 rfl rfl rfl rfl (by kernel_rfl) (by decide)) ?_
        refine WpOps.consE (v := (AV.agg (cGFile y_2))) rfl rfl (Exact.load_rop rfl rfl rfl) ?_
        refine WpOps.consG rfl rfl (WpO.allocT (z := cGFile (GFile.mk ([] : List UInt8) ([] : List UInt8))) rfl rfl hH fun g_2 H' hH => ?_)
        refine WpOps.consG rfl rfl (WpO.putT (cs' := (cGFile y_2)) (v := (AV.agg (cGFile y_2))) rfl rfl hH (i := 0) rfl rfl rfl rfl rfl rfl rfl fun H' hH => ?_)
        refine WpOps.nil ?_
        refine WpC.seqR ?_
        refine WpOps.pn 1 rfl trivial ?_
        refine WpOps.consE (v := (AV.agg (cGFile y_1))) rfl rfl (Exact.load rfl rfl (hH.cell (i := 1) rfl) rfl rfl) ?_
        refine WpOps.consE (v := (AV.agg (cGFile y_2))) rfl rfl (Exact.load rfl rfl (hH.cell (i := 0) rfl) rfl rfl) ?_
        obtain ⟨r_1, hr_1, h⟩ := Sh.bind_some h
        refine WpOps.consE (v := (bA r_1)) rfl rfl (Exact.call_clo rfl rfl rfl rfl (w_edits_Diff_c1 hr_1)) ?_
        refine WpOps.pn 1 rfl trivial ?_
        refine WpOps.nil ?_
        refine WpC.condB rfl (fun hb => ?_) (fun hb => ?_)
        ·
          replace h := Sh.ite_pos hb h
          refine WpC.seqR ?_
          refine WpOps.pn 1 rfl trivial ?_
          refine WpOps.nil ?_
          refine WpC.lose (i := 0) hH rfl (fun H' hH => ?_)
          refine WpC.lose (i := 0) hH rfl (fun H' hH => ?_)
          obtain rfl := Sh.some_inj h
          have e := hd_1 _ rfl
          subst e
          have h := hk_1
          obtain rfl := Sh.some_inj h
          refine WpC.ret ?_
          exact VEnds.ret1 rfl rfl ⟨rfl, hH⟩
        ·
          replace h := Sh.ite_neg hb h
          refine WpC.skipD ?_
          refine ⟨_, Heap.le_refl _, ?_⟩
          refine WpC.regionD ?_
          obtain ⟨c_1, h⟩ := Sh.chk_some h
          refine WpOps.pn 2 rfl c_1 ?_
          refine WpOps.nil ?_
          obtain ⟨_, hle_1, hH⟩ := hH.lose_ (i := 0) rfl
          obtain ⟨_, hle_2, hH⟩ := hH.lose_ (i := 0) rfl
          obtain rfl := Sh.some_inj h
          exact ⟨_, (Heap.le_trans hle_2 hle_1), (t17_1 + (1 : Int)), (), rfl, ⟨rfl, rfl, rfl, rfl, rfl, trivial⟩, hH⟩
      ·
        replace h := Sh.ite_neg hb h
        obtain rfl := Sh.some_inj h
        have e := hd_1 _ rfl
        subst e
        refine WpC.exit ?_
        exact ⟨((), ()), trivial, hk_1, hH⟩
    ·
      rintro ⟨_, _⟩ env H' ⟨h, hH⟩
      try dsimp only at h
      refine ⟨_, Heap.le_refl _, ?_⟩
      refine WpC.seqR ?_
      refine WpOps.pn 1 rfl trivial ?_
      refine WpOps.nil ?_
      obtain rfl := Sh.some_inj h
      refine WpC.ret ?_
      exact VEnds.ret1 rfl rfl ⟨rfl, hH⟩

theorem w_edits_Diff {H0 : Heap} {a_1 : List GFile} {b_1 : List GFile} {r : List GEdit × Int} (h : edits_Diff a_1 b_1 = some r) : TCall Try.prog 21 [(AV.rows 2 (List.map cGFile a_1)), (AV.rows 2 (List.map cGFile b_1))] H0 (fun v H' => ∃ p, v = (.tup [.own (List.map cGEdit r.1).length p, (iA r.2)]) ∧ Vc.Own H0 34 4 (List.map cGEdit r.1) (List.map cGEdit r.1).length p H') noE := by
  refine id (TCall.body Try.func21 rfl rfl ?_)
  have hH : Holds H0 [] H0 := rfl
  refine WpC.seqR ?_
  refine WpOps.pn 2 rfl trivial ?_
  refine WpOps.nil ?_
  refine WpC.seq ?_
  refine WpC.seqR ?_
  obtain ⟨r_1, hr_1, h⟩ := Sh.bind_some h
  refine WpOps.pn 2 rfl trivial ?_
  refine WpOps.consE (v := (bA r_1)) rfl rfl (Exact.call rfl rfl rfl (w_slices_EqualFunc_Lapi_File_Lapi_File_api_File_api_File__edits_Diff_c1 hr_1)) ?_
  refine WpOps.pn 1 rfl trivial ?_
  refine WpOps.nil ?_
  refine WpC.condB rfl (fun hb => ?_) (fun hb => ?_)
  ·
    replace h := Sh.ite_pos hb h
    refine WpC.seqR ?_
    refine WpOps.pn 2 rfl trivial ?_
    refine WpOps.nil ?_
    have hH := hH.nil 34 4
    obtain rfl := Sh.some_inj h
    refine WpC.ret ?_
    exact VEnds.ret2 rfl rfl rfl ⟨_, rfl, hH.one_inv⟩
  ·
    replace h := Sh.ite_neg hb h
    refine WpC.skipD ?_
    refine ⟨_, Heap.le_refl _, ?_⟩
    refine WpC.seqR ?_
    refine WpOps.pn 1 rfl trivial ?_
    have hH := hH.nil 34 4
    refine WpOps.nil ?_
    refine WpC.seq ?_
    refine WpC.seqR ?_
    refine WpOps.pn 2 rfl trivial ?_
    refine WpOps.at 17 (len_map _ _) ?_
    refine WpOps.pn 1 rfl trivial ?_
    refine WpOps.nil ?_
    refine WpC.blockK (fun x : (List GEdit) × ((Option (Nat × Nat))) => [(6, (.own (List.map cGEdit x.1).length x.2))]) (fun x H' => edits_Diff_j1 x.1 = some r ∧ Holds H0 [.own 34 4 x.2 (List.map cGEdit x.1)] H') ?_ ?_
    ·
      obtain ⟨o_1, ho_1, hk_1⟩ := Sh.bind_some h
      refine WpC.loopS (edits_Diff_b2 a_1 b_1) (fun (s : Int × List GEdit) (a : (Option (Nat × Nat))) => [(0, (AV.rows 2 (List.map cGFile a_1))), (1, (AV.rows 2 (List.map cGFile b_1))), (6, (.own (List.map cGEdit s.2).length a)), (17, (iA (a_1.length : Int))), (18, (iA s.1))]) (fun (s : Int × List GEdit) (a : (Option (Nat × Nat))) H' => Holds H0 [.own 34 4 a (List.map cGEdit s.2)] H') o_1 ((0 : Int), ([] : List GEdit)) none ho_1 ⟨rfl, rfl, rfl, rfl, rfl, trivial⟩ hH ?_
      rintro ⟨t18_1, out_1⟩ p_1 st_1 env H' h hd_1 hH
      refine WpC.seqR ?_
      refine WpOps.pn 1 rfl trivial ?_
      refine WpOps.nil ?_
      refine WpC.seq ?_
      refine WpC.condB rfl (fun hb => ?_) (fun hb => ?_)
      ·
        replace h := Sh.ite_pos hb h
        refine WpC.skipD ?_
        refine ⟨_, Heap.le_refl _, ?_⟩
        refine WpC.seq ?_
        refine WpC.block ?_
        refine WpC.seqR ?_
        refine WpOps.pn 2 rfl trivial ?_
        refine WpOps.nil ?_
        refine WpC.seqD [] [0, 1, 2, 3, 4, 5, 6, 7, 8, 9, 10, 11] (by kernel_rfl) (by kernel_rfl) ?_
        obtain ⟨y_1, hy_1, h⟩ := Sh.bind_some h
        refine WpPi.pn 2 rfl trivial ?_
        refine WpPi.consI (v := (.rop (cGFile y_1))) rfl rfl rfl rfl (fun _ => Exact.ixr cGFile hy_1 rfl rfl rfl rfl (by kernel_rfl) (by decide)) ?_
        refine WpPi.pn 1 rfl trivial ?_
        refine WpPi.consI (v := (sA y_1.text)) rfl rfl rfl rfl (fun _ => Exact.load_rop rfl rfl rfl) ?_
        obtain ⟨y_2, hy_2, h⟩ := Sh.bind_some h
        refine WpPi.pn 2 rfl trivial ?_
        refine WpPi.consI (v := (.rop (cGFile y_2))) rfl rfl rfl rfl (fun _ => Exact.ixr cGFile hy_2 rfl rfl rfl rfl (by kernel_rfl) (by decide)) ?_
        refine WpPi.pn 1 rfl trivial ?_
        refine WpPi.consI (v := (sA y_2.text)) rfl rfl rfl rfl (fun _ => Exact.load_rop rfl rfl rfl) ?_
        refine WpPi.pn 2 rfl trivial ?_
        refine WpPi.nil ?_
        refine WpC.seq ?_
        refine WpC.seqR ?_
        refine WpOps.pn 3 rfl trivial ?_
        refine WpOps.nil ?_
        refine WpC.condB rfl (fun hb => ?_) (fun hb => ?_)
        ·
          replace h := Sh.ite_pos hb h
          refine WpC.exitD ?_
          refine ⟨_, Heap.le_refl _, ?_⟩
          refine WpC.regionD ?_
          obtain ⟨c_1, h⟩ := Sh.chk_some h
          refine WpOps.pn 2 rfl c_1 ?_
          refine WpOps.nil ?_
          obtain rfl := Sh.some_inj h
          exact ⟨_, (Heap.le_refl _), ((t18_1 + (1 : Int)), out_1), p_1, rfl, ⟨rfl, rfl, rfl, rfl, rfl, trivial⟩, hH⟩
        ·
          replace h := Sh.ite_neg hb h
          refine WpC.skipD ?_
          refine ⟨_, Heap.le_refl _, ?_⟩
          refine WpC.seqR ?_
          refine WpOps.pn 1 rfl trivial ?_
          refine WpOps.nil ?_
          refine WpC.seqB (fun x : (Int) × (Unit) => [(0, (AV.rows 2 (List.map cGFile a_1))), (1, (AV.rows 2 (List.map cGFile b_1))), (6, (.own (List.map cGEdit out_1).length p_1)), (7, (iA t18_1)), (8, (sA y_1.text)), (9, (sA y_2.text)), (10, (iA x.1)), (17, (iA (a_1.length : Int))), (18, (iA t18_1))]) (fun x H' => (edits_Diff_j3 t18_1 out_1 y_1 y_2) x.1 = some st_1 ∧ Holds H0 [.own 34 4 p_1 (List.map cGEdit out_1)] H') ?_ ?_
          ·
            obtain ⟨o_2, ho_2, hk_2⟩ := Sh.bind_some h
            refine WpC.loopS (edits_Diff_b4 y_1 y_2) (fun (s : Int) (a : Unit) => [(0, (AV.rows 2 (List.map cGFile a_1))), (1, (AV.rows 2 (List.map cGFile b_1))), (6, (.own (List.map cGEdit out_1).length p_1)), (7, (iA t18_1)), (8, (sA y_1.text)), (9, (sA y_2.text)), (10, (iA s)), (17, (iA (a_1.length : Int))), (18, (iA t18_1))]) (fun (s : Int) (a : Unit) H' => Holds H0 [.own 34 4 p_1 (List.map cGEdit out_1)] H') o_2 (0 : Int) () ho_2 ⟨rfl, rfl, rfl, rfl, rfl, rfl, rfl, rfl, rfl, trivial⟩ hH ?_
            rintro from_1 _ st_2 env H' h hd_2 hH
            refine WpC.seq ?_
            refine WpC.seqD [] [0, 1, 2, 3, 4, 5, 6, 7, 8, 9, 10, 11, 12, 13, 14, 15] (by kernel_rfl) (by kernel_rfl) ?_
            refine WpPi.pn 7 rfl trivial ?_
            obtain ⟨b_2, g_1, h⟩ := Sh.bind_some h
            refine WpPi.cutB 9 49 (bA b_2) rfl ?_ ?_
            ·
              refine WpPi.pn 1 rfl trivial ?_
              refine WpPi.split 41 rfl (fun hb => ?_) (fun hb => ?_)
              ·
                replace g_1 := Sh.ite_pos hb g_1
                obtain ⟨ch_1, hch_1, g_1⟩ := Sh.bind_some g_1
                refine WpPi.pn 2 rfl trivial ?_
                refine WpPi.consI (v := (u8A ch_1)) rfl rfl rfl rfl (fun _ => Exact.ixs hch_1 rfl rfl rfl rfl) ?_
                obtain ⟨ch_2, hch_2, g_1⟩ := Sh.bind_some g_1
                refine WpPi.pn 2 rfl trivial ?_
                refine WpPi.consI (v := (u8A ch_2)) rfl rfl rfl rfl (fun _ => Exact.ixs hch_2 rfl rfl rfl rfl) ?_
                refine WpPi.pn 2 rfl trivial ?_
                refine WpPi.nil ?_
                obtain rfl := Sh.some_inj g_1
                exact ⟨rfl, rfl⟩
              ·
                replace g_1 := Sh.ite_neg hb g_1
                refine WpPi.pn 2 rfl trivial ?_
                refine WpPi.skip rfl rfl rfl ?_
                refine WpPi.pn 2 rfl trivial ?_
                refine WpPi.skip rfl rfl rfl ?_
                refine WpPi.pn 2 rfl trivial ?_
                refine WpPi.nil ?_
                obtain rfl := Sh.some_inj g_1
                exact ⟨rfl, rfl⟩
            intro env
            refine WpPi.nil ?_
            refine WpC.condB rfl (fun hb => ?_) (fun hb => ?_)
            ·
              replace h := Sh.ite_pos hb h
              refine WpC.skipD ?_
              refine ⟨_, Heap.le_refl _, ?_⟩
              refine WpC.block ?_
              refine WpC.regionD ?_
              obtain ⟨c_2, h⟩ := Sh.chk_some h
              refine WpOps.pn 3 rfl c_2 ?_
              refine WpOps.nil ?_
              obtain rfl := Sh.some_inj h
              exact ⟨_, (Heap.le_refl _), (from_1 + (1 : Int)), (), rfl, ⟨rfl, rfl, rfl, rfl, rfl, rfl, rfl, rfl, rfl, trivial⟩, hH⟩
            ·
              replace h := Sh.ite_neg hb h
              obtain rfl := Sh.some_inj h
              have e := hd_2 _ rfl
              subst e
              refine WpC.exit ?_
              exact ⟨(from_1, ()), ⟨rfl, rfl, rfl, rfl, rfl, rfl, rfl, rfl, rfl, trivial⟩, hk_2, hH⟩
          ·
            rintro ⟨from_2, _⟩ env H' ⟨h, hH⟩
            try dsimp only at h
            refine WpC.seqR ?_
            refine WpOps.pn 1 rfl trivial ?_
            refine WpOps.nil ?_
            refine WpC.seqB (fun x : (Int) × (Unit) => [(0, (AV.rows 2 (List.map cGFile a_1))), (1, (AV.rows 2 (List.map cGFile b_1))), (6, (.own (List.map cGEdit out_1).length p_1)), (7, (iA t18_1)), (8, (sA y_1.text)), (9, (sA y_2.text)), (10, (iA from_2)), (11, (iA x.1)), (17, (iA (a_1.length : Int))), (18, (iA t18_1))]) (fun x H' => (edits_Diff_j5 t18_1 out_1 y_1 y_2 from_2) x.1 = some st_1 ∧ Holds H0 [.own 34 4 p_1 (List.map cGEdit out_1)] H') ?_ ?_
            ·
              obtain ⟨o_3, ho_3, hk_3⟩ := Sh.bind_some h
              refine WpC.loopS (edits_Diff_b6 y_1 y_2 from_2) (fun (s : Int) (a : Unit) => [(0, (AV.rows 2 (List.map cGFile a_1))), (1, (AV.rows 2 (List.map cGFile b_1))), (6, (.own (List.map cGEdit out_1).length p_1)), (7, (iA t18_1)), (8, (sA y_1.text)), (9, (sA y_2.text)), (10, (iA from_2)), (11, (iA s)), (17, (iA (a_1.length : Int))), (18, (iA t18_1))]) (fun (s : Int) (a : Unit) H' => Holds H0 [.own 34 4 p_1 (List.map cGEdit out_1)] H') o_3 (0 : Int) () ho_3 ⟨rfl, rfl, rfl, rfl, rfl, rfl, rfl, rfl, rfl, rfl, trivial⟩ hH ?_
              rintro last_1 _ st_3 env H' h hd_3 hH
              refine WpC.seq ?_
              refine WpC.seqD [] [0, 1, 2, 3, 4, 5, 6, 7, 8, 9, 10, 11, 12, 13, 14, 15, 16, 17, 18, 19, 20, 21, 22, 23, 24, 25] (by kernel_rfl) (by kernel_rfl) ?_
              obtain ⟨c_3, h⟩ := Sh.chk_some h
              refine WpPi.pn 9 rfl c_3 ?_
              obtain ⟨b_3, g_2, h⟩ := Sh.bind_some h
              refine WpPi.cutB 17 77 (bA b_3) rfl ?_ ?_
              ·
                refine WpPi.pn 1 rfl trivial ?_
                refine WpPi.split 61 rfl (fun hb => ?_) (fun hb => ?_)
                ·
                  replace g_2 := Sh.ite_pos hb g_2
                  obtain ⟨c_4, g_2⟩ := Sh.chk_some g_2
                  obtain ⟨c_5, g_2⟩ := Sh.chk_some g_2
                  obtain ⟨ch_3, hch_3, g_2⟩ := Sh.bind_some g_2
                  refine WpPi.pn 6 rfl ⟨c_5, c_4⟩ ?_
                  refine WpPi.consI (v := (u8A ch_3)) rfl rfl rfl rfl (fun _ => Exact.ixs hch_3 rfl rfl rfl rfl) ?_
                  obtain ⟨c_6, g_2⟩ := Sh.chk_some g_2
                  obtain ⟨c_7, g_2⟩ := Sh.chk_some g_2
                  obtain ⟨ch_4, hch_4, g_2⟩ := Sh.bind_some g_2
                  refine WpPi.pn 6 rfl ⟨c_7, c_6⟩ ?_
                  refine WpPi.consI (v := (u8A ch_4)) rfl rfl rfl rfl (fun _ => Exact.ixs hch_4 rfl rfl rfl rfl) ?_
                  refine WpPi.pn 2 rfl trivial ?_
                  refine WpPi.nil ?_
                  obtain rfl := Sh.some_inj g_2
                  exact ⟨rfl, rfl⟩
                ·
                  replace g_2 := Sh.ite_neg hb g_2
                  refine WpPi.pn 6 rfl trivial ?_
                  refine WpPi.skip rfl rfl rfl ?_
                  refine WpPi.pn 6 rfl trivial ?_
                  refine WpPi.skip rfl rfl rfl ?_
                  refine WpPi.pn 2 rfl trivial ?_
                  refine WpPi.nil ?_
                  obtain rfl := Sh.some_inj g_2
                  exact ⟨rfl, rfl⟩
              intro env
              refine WpPi.nil ?_
              refine WpC.condB rfl (fun hb => ?_) (fun hb => ?_)
              ·
                replace h := Sh.ite_pos hb h
                refine WpC.skipD ?_
                refine ⟨_, Heap.le_refl _, ?_⟩
                refine WpC.block ?_
                refine WpC.regionD ?_
                obtain ⟨c_8, h⟩ := Sh.chk_some h
                refine WpOps.pn 3 rfl c_8 ?_
                refine WpOps.nil ?_
                obtain rfl := Sh.some_inj h
                exact ⟨_, (Heap.le_refl _), (last_1 + (1 : Int)), (), rfl, ⟨rfl, rfl, rfl, rfl, rfl, rfl, rfl, rfl, rfl, rfl, trivial⟩, hH⟩
              ·
                replace h := Sh.ite_neg hb h
                obtain rfl := Sh.some_inj h
                have e := hd_3 _ rfl
                subst e
                refine WpC.exit ?_
                exact ⟨(last_1, ()), ⟨rfl, rfl, rfl, rfl, rfl, rfl, rfl, rfl, rfl, rfl, trivial⟩, hk_3, hH⟩
            ·
              rintro ⟨last_2, _⟩ env H' ⟨h, hH⟩
              try dsimp only at h
              refine WpC.regionD ?_
              obtain ⟨c_9, h⟩ := Sh.chk_some h
              obtain ⟨c_10, h⟩ := Sh.chk_some h
              obtain ⟨c_11, h⟩ := Sh.chk_some h
              refine WpOps.pn 13 rfl ⟨c_10, c_9⟩ ?_
              refine WpOps.pn 1 rfl (show 0 ≤ from_2 ∧ 0 ≤ ((y_2.text.length : Int) - last_2) ∧ ((from_2).toNat ≤ (((y_2.text.length : Int) - last_2)).toNat ∧ (((y_2.text.length : Int) - last_2)).toNat ≤ y_2.text.length) from ⟨(by omega), (by omega), (by omega)⟩) ?_
              refine WpOps.pn 1 rfl trivial ?_
              refine WpOps.consE (v := (AV.rows 4 (List.map cGEdit ([(GEdit.mk t18_1 from_2 ((y_1.text.length : Int) - last_2) ((y_2.text.drop (from_2).toNat).take ((((y_2.text.length : Int) - last_2)).toNat - (from_2).toNat)))] : List GEdit)))) rfl rfl (Exact.litSlice rfl (by kernel_rfl)) ?_
              obtain ⟨c_12, h⟩ := Sh.chk_some h
              refine WpOps.consG rfl rfl (WpO.pushT cGEdit out_1 ([(GEdit.mk t18_1 from_2 ((y_1.text.length : Int) - last_2) ((y_2.text.drop (from_2).toNat).take ((((y_2.text.length : Int) - last_2)).toNat - (from_2).toNat)))] : List GEdit) (i := 0) rfl ek23 hH rfl rfl rfl (.rows _) (fun y _ => one_cGEdit y) (by simp) c_12 (by decide) fun p_2 H' hH => ?_)
              refine WpOps.pn 1 rfl trivial ?_
              refine WpOps.nil ?_
              refine ⟨_, Heap.le_refl _, ?_⟩
              refine WpC.regionD ?_
              obtain ⟨c_13, h⟩ := Sh.chk_some h
              refine WpOps.pn 2 rfl c_13 ?_
              refine WpOps.nil ?_
              obtain rfl := Sh.some_inj h
              exact ⟨_, (Heap.le_refl _), ((t18_1 + (1 : Int)), (out_1 ++ ([(GEdit.mk t18_1 from_2 ((y_1.text.length : Int) - last_2) ((y_2.text.drop (from_2).toNat).take ((((y_2.text.length : Int) - last_2)).toNat - (from_2).toNat)))] : List GEdit))), p_2, rfl, ⟨rfl, rfl, rfl, rfl, rfl, trivial⟩, hH⟩
      ·
        replace h := Sh.ite_neg hb h
        obtain rfl := Sh.some_inj h
        have e := hd_1 _ rfl
        subst e
        refine WpC.exit ?_
        exact ⟨(out_1, p_1), ⟨rfl, trivial⟩, hk_1, hH⟩
    ·
      rintro ⟨out_2, p_3⟩ env H' ⟨h, hH⟩
      try dsimp only at h
      refine ⟨_, Heap.le_refl _, ?_⟩
      refine WpC.seqR ?_
      refine WpOps.pn 3 rfl trivial ?_
      refine WpOps.nil ?_
      obtain rfl := Sh.some_inj h
      refine WpC.ret ?_
      exact VEnds.ret2 rfl rfl rfl ⟨_, rfl, hH.one_inv⟩

theorem w_emendref12_Same {H0 : Heap} {a_1 : List Int} {b_1 : List Int} {r : Bool} (h : emendref12_Same a_1 b_1 = some r) : TCall Try.prog 22 [(AV.rows 1 (List.map cI a_1)), (AV.rows 1 (List.map cI b_1))] H0 (fun v H' => v = (bA r) ∧ H' = H0) noE := by
  refine id (TCall.body Try.func22 rfl rfl ?_)
  have hH : Holds H0 [] H0 := rfl
  refine WpC.seqR ?_
  refine WpOps.pn 1 rfl trivial ?_
  refine WpOps.nil ?_
  refine WpC.seq ?_
  refine WpC.seqR ?_
  refine WpOps.pn 2 rfl trivial ?_
  refine WpOps.at 7 (len_map _ _) ?_
  refine WpOps.pn 2 rfl trivial ?_
  refine WpOps.at 9 (len_map _ _) ?_
  refine WpOps.pn 1 rfl trivial ?_
  refine WpOps.nil ?_
  refine WpC.condB rfl (fun hb => ?_) (fun hb => ?_)
  ·
    replace h := Sh.ite_pos hb h
    refine WpC.seqR ?_
    refine WpOps.pn 1 rfl trivial ?_
    refine WpOps.nil ?_
    obtain rfl := Sh.some_inj h
    refine WpC.ret ?_
    exact VEnds.ret1 rfl rfl ⟨rfl, hH⟩
  ·
    replace h := Sh.ite_neg hb h
    refine WpC.skipD ?_
    refine ⟨_, Heap.le_refl _, ?_⟩
    refine WpC.seq ?_
    refine WpC.seqR ?_
    refine WpOps.pn 1 rfl trivial ?_
    refine WpOps.nil ?_
    refine WpC.blockK (fun x : (Unit) × (Unit) => []) (fun x H' => emendref12_Same_j1 x.1 = some r ∧ Holds H0 [] H') ?_ ?_
    ·
      obtain ⟨o_1, ho_1, hk_1⟩ := Sh.bind_some h
      refine WpC.loopS (emendref12_Same_b2 a_1 b_1) (fun (s : Int) (a : Unit) => [(0, (AV.rows 1 (List.map cI a_1))), (1, (AV.rows 1 (List.map cI b_1))), (5, (iA s))]) (fun (s : Int) (a : Unit) H' => Holds H0 [] H') o_1 (0 : Int) () ho_1 ⟨rfl, rfl, rfl, trivial⟩ hH ?_
      rintro i_1 _ st_1 env H' h hd_1 hH
      refine WpC.seq ?_
      refine WpC.seqR ?_
      refine WpOps.pn 3 rfl trivial ?_
      refine WpOps.at 13 (len_map _ _) ?_
      refine WpOps.pn 1 rfl trivial ?_
      refine WpOps.nil ?_
      refine WpC.condB rfl (fun hb => ?_) (fun hb => ?_)
      ·
        replace h := Sh.ite_pos hb h
        refine WpC.skipD ?_
        refine ⟨_, Heap.le_refl _, ?_⟩
        refine WpC.seq ?_
        refine WpC.block ?_
        refine WpC.seqD [] [0, 1, 2, 3, 4, 5, 6, 7, 8] (by kernel_rfl) (by kernel_rfl) ?_
        obtain ⟨y_1, hy_1, h⟩ := Sh.bind_some h
        refine WpPi.pn 2 rfl trivial ?_
        refine WpPi.consI (v := (.rop (cI y_1))) rfl rfl rfl rfl (fun _ => Exact.ixr cI hy_1 rfl rfl rfl rfl (by kernel_rfl) (by decide)) ?_
        refine WpPi.consI (v := (iA y_1)) rfl rfl rfl rfl (fun _ => Exact.load_rop rfl rfl rfl) ?_
        obtain ⟨y_2, hy_2, h⟩ := Sh.bind_some h
        refine WpPi.pn 2 rfl trivial ?_
        refine WpPi.consI (v := (.rop (cI y_2))) rfl rfl rfl rfl (fun _ => Exact.ixr cI hy_2 rfl rfl rfl rfl (by kernel_rfl) (by decide)) ?_
        refine WpPi.consI (v := (iA y_2)) rfl rfl rfl rfl (fun _ => Exact.load_rop rfl rfl rfl) ?_
        refine WpPi.pn 1 rfl trivial ?_
        refine WpPi.nil ?_
        refine WpC.condB rfl (fun hb => ?_) (fun hb => ?_)
        ·
          replace h := Sh.ite_pos hb h
          refine WpC.seqR ?_
          refine WpOps.pn 1 rfl trivial ?_
          refine WpOps.nil ?_
          obtain rfl := Sh.some_inj h
          have e := hd_1 _ rfl
          subst e
          have h := hk_1
          obtain rfl := Sh.some_inj h
          refine WpC.ret ?_
          exact VEnds.ret1 rfl rfl ⟨rfl, hH⟩
        ·
          replace h := Sh.ite_neg hb h
          refine WpC.skipD ?_
          refine ⟨_, Heap.le_refl _, ?_⟩
          refine WpC.regionD ?_
          obtain ⟨c_1, h⟩ := Sh.chk_some h
          refine WpOps.pn 3 rfl c_1 ?_
          refine WpOps.nil ?_
          obtain rfl := Sh.some_inj h
          exact ⟨_, (Heap.le_refl _), (i_1 + (1 : Int)), (), rfl, ⟨rfl, rfl, rfl, trivial⟩, hH⟩
      ·
        replace h := Sh.ite_neg hb h
        obtain rfl := Sh.some_inj h
        have e := hd_1 _ rfl
        subst e
        refine WpC.exit ?_
        exact ⟨((), ()), trivial, hk_1, hH⟩
    ·
      rintro ⟨_, _⟩ env H' ⟨h, hH⟩
      try dsimp only at h
      refine ⟨_, Heap.le_refl _, ?_⟩
      refine WpC.seqR ?_
      refine WpOps.pn 1 rfl trivial ?_
      refine WpOps.nil ?_
      obtain rfl := Sh.some_inj h
      refine WpC.ret ?_
      exact VEnds.ret1 rfl rfl ⟨rfl, hH⟩

theorem w_emendlaw20_EditsDiff {H0 : Heap} {files_1 : List GFile} {texts_1 : List (List UInt8)} {r : Bool} (h : emendlaw20_EditsDiff files_1 texts_1 = some r) : TCall Try.prog 9 [(AV.rows 2 (List.map cGFile files_1)), (AV.rows 1 (List.map cS texts_1))] H0 (fun v H' => v = (bA r) ∧ H' = H0) noE := by
  refine id (TCall.body Try.func9 rfl rfl ?_)
  have hH : Holds H0 [] H0 := rfl
  refine WpC.seqR ?_
  refine WpOps.pn 1 rfl trivial ?_
  refine WpOps.nil ?_
  refine WpC.seqR ?_
  obtain ⟨r_1, hr_1, h⟩ := Sh.bind_some h
  refine WpOps.consE (v := (bA r_1)) rfl rfl (Exact.call rfl rfl rfl (w_emendlaw20_awake hr_1)) ?_
  refine WpOps.pn 1 rfl trivial ?_
  refine WpOps.nil ?_
  refine WpC.seqR ?_
  obtain ⟨r_2, hr_2, h⟩ := Sh.bind_some h
  refine WpOps.pn 1 rfl trivial ?_
  refine WpOps.consE (v := (bA r_2)) rfl rfl (Exact.call rfl rfl rfl (TCall.args (.cons (.refl _) (.cons (Sub.nil 4) .nil)) (w_emendlaw20_short hr_2))) ?_
  refine WpOps.pn 1 rfl trivial ?_
  refine WpOps.nil ?_
  refine WpC.seq ?_
  refine WpC.seqR ?_
  refine WpOps.pn 2 rfl trivial ?_
  obtain ⟨b_1, g_1, h⟩ := Sh.bind_some h
  refine WpOps.cutB 5 28 (bA b_1) rfl ?_ ?_
  ·
    refine WpOps.pn 1 rfl trivial ?_
    refine WpOps.split 24 rfl (fun hb => ?_) (fun hb => ?_)
    ·
      replace g_1 := Sh.ite_pos hb g_1
      refine WpOps.pn 4 rfl trivial ?_
      refine WpOps.nil ?_
      obtain rfl := Sh.some_inj g_1
      exact ⟨rfl, rfl⟩
    ·
      replace g_1 := Sh.ite_neg hb g_1
      refine WpOps.pn 2 rfl trivial ?_
      refine WpOps.at 26 (len_map _ _) ?_
      refine WpOps.pn 2 rfl trivial ?_
      refine WpOps.nil ?_
      obtain rfl := Sh.some_inj g_1
      exact ⟨rfl, rfl⟩
  intro env
  refine WpOps.nil ?_
  refine WpC.condB rfl (fun hb => ?_) (fun hb => ?_)
  ·
    replace h := Sh.ite_pos hb h
    refine WpC.seqR ?_
    refine WpOps.pn 2 rfl trivial ?_
    refine WpOps.nil ?_
    obtain rfl := Sh.some_inj h
    refine WpC.ret ?_
    exact VEnds.ret1 rfl rfl ⟨rfl, hH⟩
  ·
    replace h := Sh.ite_neg hb h
    refine WpC.skipD ?_
    refine ⟨_, Heap.le_refl _, ?_⟩
    refine WpC.seqR ?_
    refine WpOps.consG rfl rfl (WpO.litT (size := 2) cGFile ([] : List GFile) rfl rfl (by kernel_rfl) rfl hH fun g_2 H' hH => ?_)
    obtain ⟨c_1, h⟩ := Sh.chk_some h
    refine WpOps.pn 1 rfl trivial ?_
    refine WpOps.consG rfl rfl (WpO.pushS cGFile ([] : List GFile) files_1 (i := 0) rfl ek22 hH rfl rfl rfl (.rows _) (fun y _ => one_cGFile y) c_1 (by decide) fun g_3 cp_1 H' hH => ?_)
    refine WpOps.pn 1 rfl trivial ?_
    refine WpOps.nil ?_
    refine WpC.seqR ?_
    refine WpOps.pn 1 rfl trivial ?_
    refine WpOps.nil ?_
    refine WpC.seq ?_
    refine WpC.seqR ?_
    refine WpOps.pn 1 rfl trivial ?_
    refine WpOps.nil ?_
    refine WpC.blockK (fun x : (Int × List GFile) × ((Option (Nat × Nat))) => [(0, (AV.rows 2 (List.map cGFile files_1))), (5, (bA r_1)), (7, (.own (List.map cGFile x.1.2).length x.2)), (8, (iA x.1.1))]) (fun x H' => (emendlaw20_EditsDiff_j1 files_1 r_1) x.1 = some r ∧ Holds H0 [.own 37 2 x.2 (List.map cGFile x.1.2)] H') ?_ ?_
    ·
      obtain ⟨o_1, ho_1, hk_1⟩ := Sh.bind_some h
      refine WpC.loopS (emendlaw20_EditsDiff_b2 files_1 texts_1 r_1) (fun (s : Int × Int × List GFile) (a : (Option (Nat × Nat))) => [(0, (AV.rows 2 (List.map cGFile files_1))), (1, (AV.rows 1 (List.map cS texts_1))), (5, (bA r_1)), (7, (.own (List.map cGFile s.2.2).length a)), (8, (iA s.1)), (9, (iA s.2.1))]) (fun (s : Int × Int × List GFile) (a : (Option (Nat × Nat))) H' => Holds H0 [.own 37 2 a (List.map cGFile s.2.2)] H') o_1 ((0 : Int), (0 : Int), (([] : List GFile) ++ files_1)) (some (g_3, cp_1)) ho_1 ⟨rfl, rfl, rfl, rfl, rfl, rfl, trivial⟩ hH ?_
      rintro ⟨changed_1, i_1, b_2⟩ p_1 st_1 env H' h hd_1 hH
      refine WpC.seq ?_
      refine WpC.seqR ?_
      refine WpOps.pn 3 rfl trivial ?_
      refine WpOps.at 35 (len_map _ _) ?_
      refine WpOps.pn 1 rfl trivial ?_
      obtain ⟨b_3, g_4, h⟩ := Sh.bind_some h
      refine WpOps.cutB 6 42 (bA b_3) rfl ?_ ?_
      ·
        refine WpOps.pn 1 rfl trivial ?_
        refine WpOps.split 37 rfl (fun hb => ?_) (fun hb => ?_)
        ·
          replace g_4 := Sh.ite_pos hb g_4
          refine WpOps.pn 3 rfl trivial ?_
          refine WpOps.at 40 (len_map _ _) ?_
          refine WpOps.pn 2 rfl trivial ?_
          refine WpOps.nil ?_
          obtain rfl := Sh.some_inj g_4
          exact ⟨rfl, rfl⟩
        ·
          replace g_4 := Sh.ite_neg hb g_4
          refine WpOps.pn 5 rfl trivial ?_
          refine WpOps.nil ?_
          obtain rfl := Sh.some_inj g_4
          exact ⟨rfl, rfl⟩
      intro env
      refine WpOps.nil ?_
      refine WpC.condB rfl (fun hb => ?_) (fun hb => ?_)
      ·
        replace h := Sh.ite_pos hb h
        refine WpC.skipD ?_
        refine ⟨_, Heap.le_refl _, ?_⟩
        refine WpC.seq ?_
        refine WpC.block ?_
        refine WpC.seq ?_
        refine WpC.seqR ?_
        obtain ⟨y_1, hy_1, h⟩ := Sh.bind_some h
        refine WpOps.pn 2 rfl trivial ?_
        refine WpOps.consE (v := (.rop (cS y_1))) rfl rfl (Exact.ixr cS hy_1 rfl rfl rfl rfl (by kernel_rfl) (by decide)) ?_
        refine WpOps.consE (v := (sA y_1)) rfl rfl (Exact.load_rop rfl rfl rfl) ?_
        refine WpOps.pn 2 rfl trivial ?_
        refine WpOps.nil ?_
        refine WpC.condB rfl (fun hb => ?_) (fun hb => ?_)
        ·
          replace h := Sh.ite_pos hb h
          refine WpC.seqR ?_
          refine WpOps.pn 2 rfl trivial ?_
          refine WpOps.nil ?_
          refine WpC.lose (i := 0) hH rfl (fun H' hH => ?_)
          obtain rfl := Sh.some_inj h
          have e := hd_1 _ rfl
          subst e
          have h := hk_1
          obtain rfl := Sh.some_inj h
          refine WpC.ret ?_
          exact VEnds.ret1 rfl rfl ⟨rfl, hH⟩
        ·
          replace h := Sh.ite_neg hb h
          refine WpC.skipD ?_
          refine ⟨_, Heap.le_refl _, ?_⟩
          refine WpC.seqR ?_
          obtain ⟨y_2, hy_2, h⟩ := Sh.bind_some h
          refine WpOps.pn 4 rfl trivial ?_
          refine WpOps.consE (v := (.rop (cS y_2))) rfl rfl (Exact.ixr cS hy_2 rfl rfl rfl rfl (by kernel_rfl) (by decide)) ?_
          refine WpOps.consE (v := (sA y_2)) rfl rfl (Exact.load_rop rfl rfl rfl) ?_
          obtain ⟨y_3, hy_3, h⟩ := Sh.bind_some h
          have hq_1 := h; have hq_2 := hH
          obtain ⟨g_5, cp_2, rfl⟩ := hq_2.grown (i := 0) rfl (ne_of_ix hy_3)
          have h := hq_1; have hH := hq_2
          refine WpOps.consE rfl rfl (Exact.ixo (size := 2) cGFile hy_3 rfl rfl rfl rfl (by kernel_rfl) (by decide)) ?_
          refine WpOps.pn 1 rfl trivial ?_
          refine WpOps.consG rfl rfl (WpO.setT (off := 1) (i := 0) cGFile (y' := (GFile.mk y_3.path y_2)) (v := (sA y_2)) hy_3 hH rfl rfl rfl rfl rfl rfl rfl rfl rfl fun H' hH => ?_)
          refine WpOps.at 7 (own_set cGFile b_2 (i_1).toNat (GFile.mk y_3.path y_2) _) ?_
          refine WpOps.at 34 (own_set cGFile b_2 (i_1).toNat (GFile.mk y_3.path y_2) _) ?_
          refine WpOps.at 52 (own_set cGFile b_2 (i_1).toNat (GFile.mk y_3.path y_2) _) ?_
          refine WpOps.nil ?_
          refine WpC.seqD [] [0, 1, 2, 3, 4, 5, 6, 7, 8, 9] (by kernel_rfl) (by kernel_rfl) ?_
          obtain ⟨y_4, hy_4, h⟩ := Sh.bind_some h
          refine WpPi.pn 2 rfl trivial ?_
          refine WpPi.consI (v := (.rop (cS y_4))) rfl rfl rfl rfl (fun _ => Exact.ixr cS hy_4 rfl rfl rfl rfl (by kernel_rfl) (by decide)) ?_
          refine WpPi.consI (v := (sA y_4)) rfl rfl rfl rfl (fun _ => Exact.load_rop rfl rfl rfl) ?_
          obtain ⟨y_5, hy_5, h⟩ := Sh.bind_some h
          refine WpPi.pn 2 rfl trivial ?_
          refine WpPi.consI (v := (.rop (cGFile y_5))) rfl rfl rfl rfl (fun _ => Exact.ixr cGFile hy_5 rfl rfl rfl rfl (by kernel_rfl) (by decide)) ?_
          refine WpPi.pn 1 rfl trivial ?_
          refine WpPi.consI (v := (sA y_5.text)) rfl rfl rfl rfl (fun _ => Exact.load_rop rfl rfl rfl) ?_
          refine WpPi.pn 1 rfl trivial ?_
          refine WpPi.nil ?_
          refine WpC.condB rfl (fun hb => ?_) (fun hb => ?_)
          ·
            replace h := Sh.ite_pos hb h
            refine WpC.regionD ?_
            obtain ⟨c_2, h⟩ := Sh.chk_some h
            refine WpOps.pn 3 rfl c_2 ?_
            refine WpOps.nil ?_
            refine ⟨_, Heap.le_refl _, ?_⟩
            refine WpC.regionD ?_
            obtain ⟨c_3, h⟩ := Sh.chk_some h
            refine WpOps.pn 3 rfl c_3 ?_
            refine WpOps.nil ?_
            obtain rfl := Sh.some_inj h
            exact ⟨_, (Heap.le_refl _), ((changed_1 + (1 : Int)), (i_1 + (1 : Int)), (b_2.set (i_1).toNat (GFile.mk y_3.path y_2))), (some (g_5, cp_2)), rfl, ⟨rfl, rfl, rfl, rfl, rfl, rfl, trivial⟩, hH⟩
          ·
            replace h := Sh.ite_neg hb h
            refine WpC.skipD ?_
            refine ⟨_, Heap.le_refl _, ?_⟩
            refine WpC.regionD ?_
            obtain ⟨c_4, h⟩ := Sh.chk_some h
            refine WpOps.pn 3 rfl c_4 ?_
            refine WpOps.nil ?_
            obtain rfl := Sh.some_inj h
            exact ⟨_, (Heap.le_refl _), (changed_1, (i_1 + (1 : Int)), (b_2.set (i_1).toNat (GFile.mk y_3.path y_2))), (some (g_5, cp_2)), rfl, ⟨rfl, rfl, rfl, rfl, rfl, rfl, trivial⟩, hH⟩
      ·
        replace h := Sh.ite_neg hb h
        obtain rfl := Sh.some_inj h
        have e := hd_1 _ rfl
        subst e
        refine WpC.exit ?_
        exact ⟨((changed_1, b_2), p_1), ⟨rfl, rfl, rfl, rfl, trivial⟩, hk_1, hH⟩
    ·
      rintro ⟨⟨changed_2, b_4⟩, p_2⟩ env H' ⟨h, hH⟩
      try dsimp only at h
      refine ⟨_, Heap.le_refl _, ?_⟩
      refine WpC.seqR ?_
      obtain ⟨r_3, hr_3, h⟩ := Sh.bind_some h
      refine WpOps.pn 2 rfl trivial ?_
      refine WpOps.consG rfl rfl (WpO.peekQ (F := (fun q => .tup [.own (List.map cGEdit r_3.1).length q, (iA r_3.2)])) (t := 34) (size := 4) (cT := cGEdit) (l := r_3.1) (tt := 74) (i := 0) hH rfl rfl rfl rfl rfl rfl (fun _ => rfl) (w_edits_Diff hr_3) fun p_3 H' hH => ?_)
      refine WpOps.pn 5 rfl trivial ?_
      refine WpOps.nil ?_
      refine WpC.freeze (t := 10) (i := 0) hH rfl rfl (fun H' hH => ?_)
      refine WpC.seqR ?_
      obtain ⟨r_4, hr_4, h⟩ := Sh.bind_some h
      refine WpOps.pn 2 rfl trivial ?_
      refine WpOps.consE (v := (.tup [(AV.rows 2 (List.map cGFile r_4.1)), (iA r_4.2)])) rfl rfl (Exact.call rfl rfl rfl (w_edits_Apply hr_4)) ?_
      refine WpOps.pn 5 rfl trivial ?_
      refine WpOps.nil ?_
      refine WpC.seq ?_
      refine WpC.seqR ?_
      refine WpOps.pn 2 rfl trivial ?_
      obtain ⟨b_5, g_6, h⟩ := Sh.bind_some h
      refine WpOps.cutB 4 89 (bA b_5) rfl ?_ ?_
      ·
        refine WpOps.pn 1 rfl trivial ?_
        refine WpOps.split 86 rfl (fun hb => ?_) (fun hb => ?_)
        ·
          replace g_6 := Sh.ite_pos hb g_6
          refine WpOps.pn 3 rfl trivial ?_
          refine WpOps.nil ?_
          obtain rfl := Sh.some_inj g_6
          exact ⟨rfl, rfl⟩
        ·
          replace g_6 := Sh.ite_neg hb g_6
          refine WpOps.pn 3 rfl trivial ?_
          refine WpOps.nil ?_
          obtain rfl := Sh.some_inj g_6
          exact ⟨rfl, rfl⟩
      intro env
      obtain ⟨b_6, g_7, h⟩ := Sh.bind_some h
      refine WpOps.cutB 6 95 (bA b_6) rfl ?_ ?_
      ·
        refine WpOps.pn 1 rfl trivial ?_
        refine WpOps.split 90 rfl (fun hb => ?_) (fun hb => ?_)
        ·
          replace g_7 := Sh.ite_pos hb g_7
          refine WpOps.pn 5 rfl trivial ?_
          refine WpOps.nil ?_
          obtain rfl := Sh.some_inj g_7
          exact ⟨rfl, rfl⟩
        ·
          replace g_7 := Sh.ite_neg hb g_7
          obtain ⟨r_5, hr_5, g_7⟩ := Sh.bind_some g_7
          refine WpOps.pn 2 rfl trivial ?_
          refine WpOps.consE (v := (bA r_5)) rfl rfl (Exact.peek (t := 92) (i := 0) hH rfl rfl (Exact.call rfl rfl rfl (w_emendref20_Same hr_5))) ?_
          refine WpOps.pn 2 rfl trivial ?_
          refine WpOps.nil ?_
          obtain rfl := Sh.some_inj g_7
          exact ⟨rfl, rfl⟩
      intro env
      obtain ⟨b_7, g_8, h⟩ := Sh.bind_some h
      refine WpOps.cutB 6 101 (bA b_7) rfl ?_ ?_
      ·
        refine WpOps.pn 1 rfl trivial ?_
        refine WpOps.split 96 rfl (fun hb => ?_) (fun hb => ?_)
        ·
          replace g_8 := Sh.ite_pos hb g_8
          refine WpOps.pn 5 rfl trivial ?_
          refine WpOps.nil ?_
          obtain rfl := Sh.some_inj g_8
          exact ⟨rfl, rfl⟩
        ·
          replace g_8 := Sh.ite_neg hb g_8
          refine WpOps.pn 2 rfl trivial ?_
          refine WpOps.at 98 (len_map _ _) ?_
          refine WpOps.pn 3 rfl trivial ?_
          refine WpOps.nil ?_
          obtain rfl := Sh.some_inj g_8
          exact ⟨rfl, rfl⟩
      intro env
      refine WpOps.nil ?_
      refine WpC.condB rfl (fun hb => ?_) (fun hb => ?_)
      ·
        replace h := Sh.ite_pos hb h
        refine WpC.seqR ?_
        refine WpOps.pn 1 rfl trivial ?_
        refine WpOps.nil ?_
        refine WpC.lose (i := 0) hH rfl (fun H' hH => ?_)
        obtain rfl := Sh.some_inj h
        refine WpC.ret ?_
        exact VEnds.ret1 rfl rfl ⟨rfl, hH⟩
      ·
        replace h := Sh.ite_neg hb h
        refine WpC.skipD ?_
        refine ⟨_, Heap.le_refl _, ?_⟩
        refine WpC.seq ?_
        refine WpC.seqR ?_
        refine WpOps.pn 1 rfl trivial ?_
        refine WpOps.nil ?_
        refine WpC.blockK (fun x : (Unit) × (Unit) => [(0, (AV.rows 2 (List.map cGFile files_1))), (5, (bA r_1)), (7, (.own (List.map cGFile b_4).length p_2)), (10, (AV.rows 4 (List.map cGEdit r_3.1)))]) (fun x H' => (emendlaw20_EditsDiff_j3 files_1 r_1 b_4 r_3) x.1 = some r ∧ Holds H0 [.own 37 2 p_2 (List.map cGFile b_4)] H') ?_ ?_
        ·
          obtain ⟨o_2, ho_2, hk_2⟩ := Sh.bind_some h
          refine WpC.loopS (emendlaw20_EditsDiff_b4 files_1 r_3) (fun (s : Int) (a : Unit) => [(0, (AV.rows 2 (List.map cGFile files_1))), (5, (bA r_1)), (7, (.own (List.map cGFile b_4).length p_2)), (10, (AV.rows 4 (List.map cGEdit r_3.1))), (14, (iA s))]) (fun (s : Int) (a : Unit) H' => Holds H0 [.own 37 2 p_2 (List.map cGFile b_4)] H') o_2 (0 : Int) () ho_2 ⟨rfl, rfl, rfl, rfl, rfl, trivial⟩ hH ?_
          rintro i_2 _ st_2 env H' h hd_2 hH
          refine WpC.seq ?_
          refine WpC.seqR ?_
          refine WpOps.pn 3 rfl trivial ?_
          refine WpOps.at 104 (len_map _ _) ?_
          refine WpOps.pn 1 rfl trivial ?_
          refine WpOps.nil ?_
          refine WpC.condB rfl (fun hb => ?_) (fun hb => ?_)
          ·
            replace h := Sh.ite_pos hb h
            refine WpC.skipD ?_
            refine ⟨_, Heap.le_refl _, ?_⟩
            refine WpC.seq ?_
            refine WpC.block ?_
            refine WpC.seqD [] [0, 1, 2, 3, 4, 5, 6, 7, 8, 9, 10, 11, 12, 13, 14, 15, 16, 17, 18, 19, 20] (by kernel_rfl) (by kernel_rfl) ?_
            obtain ⟨y_6, hy_6, h⟩ := Sh.bind_some h
            refine WpPi.pn 3 rfl trivial ?_
            refine WpPi.consI (v := (.rop (cGEdit y_6))) rfl rfl rfl rfl (fun _ => Exact.ixr cGEdit hy_6 rfl rfl rfl rfl (by kernel_rfl) (by decide)) ?_
            refine WpPi.pn 1 rfl trivial ?_
            refine WpPi.consI (v := (iA y_6.file_)) rfl rfl rfl rfl (fun _ => Exact.load_rop rfl rfl rfl) ?_
            obtain ⟨y_7, hy_7, h⟩ := Sh.bind_some h
            refine WpPi.consI (v := (.rop (cGFile y_7))) rfl rfl rfl rfl (fun _ => Exact.ixr cGFile hy_7 rfl rfl rfl rfl (by kernel_rfl) (by decide)) ?_
            refine WpPi.pn 1 rfl trivial ?_
            refine WpPi.consI (v := (sA y_7.text)) rfl rfl rfl rfl (fun _ => Exact.load_rop rfl rfl rfl) ?_
            obtain ⟨y_8, hy_8, h⟩ := Sh.bind_some h
            refine WpPi.pn 2 rfl trivial ?_
            refine WpPi.consI (v := (.rop (cGEdit y_8))) rfl rfl rfl rfl (fun _ => Exact.ixr cGEdit hy_8 rfl rfl rfl rfl (by kernel_rfl) (by decide)) ?_
            refine WpPi.pn 1 rfl trivial ?_
            refine WpPi.consI (v := (iA y_8.from_)) rfl rfl rfl rfl (fun _ => Exact.load_rop rfl rfl rfl) ?_
            obtain ⟨y_9, hy_9, h⟩ := Sh.bind_some h
            refine WpPi.pn 2 rfl trivial ?_
            refine WpPi.consI (v := (.rop (cGEdit y_9))) rfl rfl rfl rfl (fun _ => Exact.ixr cGEdit hy_9 rfl rfl rfl rfl (by kernel_rfl) (by decide)) ?_
            refine WpPi.pn 1 rfl trivial ?_
            refine WpPi.consI (v := (iA y_9.to)) rfl rfl rfl rfl (fun _ => Exact.load_rop rfl rfl rfl) ?_
            obtain ⟨c_5, h⟩ := Sh.chk_some h
            refine WpPi.pn 1 rfl (show 0 ≤ y_8.from_ ∧ 0 ≤ y_9.to ∧ ((y_8.from_).toNat ≤ (y_9.to).toNat ∧ (y_9.to).toNat ≤ y_7.text.length) from ⟨(by omega), (by omega), (by omega)⟩) ?_
            refine WpPi.pn 1 rfl trivial ?_
            refine WpPi.nil ?_
            refine WpC.seqR ?_
            obtain ⟨y_10, hy_10, h⟩ := Sh.bind_some h
            refine WpOps.pn 2 rfl trivial ?_
            refine WpOps.consE (v := (.rop (cGEdit y_10))) rfl rfl (Exact.ixr cGEdit hy_10 rfl rfl rfl rfl (by kernel_rfl) (by decide)) ?_
            refine WpOps.pn 1 rfl trivial ?_
            refine WpOps.consE (v := (sA y_10.text)) rfl rfl (Exact.load_rop rfl rfl rfl) ?_
            refine WpOps.pn 1 rfl trivial ?_
            refine WpOps.nil ?_
            refine WpC.seqD [] [0, 1, 2, 3, 4, 5, 6, 7, 8, 9, 10, 11, 12, 13, 14, 15, 16, 17, 18, 19, 20, 21, 22, 23, 24, 25, 26, 27] (by kernel_rfl) (by kernel_rfl) ?_
            refine WpPi.pn 3 rfl trivial ?_
            obtain ⟨b_8, g_9, h⟩ := Sh.bind_some h
            refine WpPi.cutB 5 140 (bA b_8) rfl ?_ ?_
            ·
              refine WpPi.pn 1 rfl trivial ?_
              refine WpPi.split 136 rfl (fun hb => ?_) (fun hb => ?_)
              ·
                replace g_9 := Sh.ite_pos hb g_9
                refine WpPi.pn 4 rfl trivial ?_
                refine WpPi.nil ?_
                obtain rfl := Sh.some_inj g_9
                exact ⟨rfl, rfl⟩
              ·
                replace g_9 := Sh.ite_neg hb g_9
                refine WpPi.pn 4 rfl trivial ?_
                refine WpPi.nil ?_
                obtain rfl := Sh.some_inj g_9
                exact ⟨rfl, rfl⟩
            intro env
            obtain ⟨b_9, g_10, h⟩ := Sh.bind_some h
            refine WpPi.cutB 20 160 (bA b_9) rfl ?_ ?_
            ·
              refine WpPi.pn 1 rfl trivial ?_
              refine WpPi.split 141 rfl (fun hb => ?_) (fun hb => ?_)
              ·
                replace g_10 := Sh.ite_pos hb g_10
                obtain ⟨ch_1, hch_1, g_10⟩ := Sh.bind_some g_10
                refine WpPi.pn 1 rfl trivial ?_
                refine WpPi.consI (v := (u8A ch_1)) rfl rfl rfl rfl (fun _ => Exact.ixs hch_1 rfl rfl rfl rfl) ?_
                obtain ⟨ch_2, hch_2, g_10⟩ := Sh.bind_some g_10
                refine WpPi.pn 1 rfl trivial ?_
                refine WpPi.consI (v := (u8A ch_2)) rfl rfl rfl rfl (fun _ => Exact.ixs hch_2 rfl rfl rfl rfl) ?_
                refine WpPi.pn 1 rfl trivial ?_
                obtain ⟨b_10, g_11, g_10⟩ := Sh.bind_some g_10
                refine WpPi.cutB 13 159 (bA b_10) rfl ?_ ?_
                ·
                  refine WpPi.pn 1 rfl trivial ?_
                  refine WpPi.split 147 rfl (fun hb => ?_) (fun hb => ?_)
                  ·
                    replace g_11 := Sh.ite_pos hb g_11
                    refine WpPi.pn 4 rfl trivial ?_
                    refine WpPi.skip rfl rfl rfl ?_
                    refine WpPi.pn 4 rfl trivial ?_
                    refine WpPi.skip rfl rfl rfl ?_
                    refine WpPi.pn 2 rfl trivial ?_
                    refine WpPi.nil ?_
                    obtain rfl := Sh.some_inj g_11
                    exact ⟨rfl, rfl⟩
                  ·
                    replace g_11 := Sh.ite_neg hb g_11
                    obtain ⟨c_6, g_11⟩ := Sh.chk_some g_11
                    obtain ⟨ch_3, hch_3, g_11⟩ := Sh.bind_some g_11
                    refine WpPi.pn 4 rfl c_6 ?_
                    refine WpPi.consI (v := (u8A ch_3)) rfl rfl rfl rfl (fun _ => Exact.ixs hch_3 rfl rfl rfl rfl) ?_
                    obtain ⟨c_7, g_11⟩ := Sh.chk_some g_11
                    obtain ⟨ch_4, hch_4, g_11⟩ := Sh.bind_some g_11
                    refine WpPi.pn 4 rfl c_7 ?_
                    refine WpPi.consI (v := (u8A ch_4)) rfl rfl rfl rfl (fun _ => Exact.ixs hch_4 rfl rfl rfl rfl) ?_
                    refine WpPi.pn 2 rfl trivial ?_
                    refine WpPi.nil ?_
                    obtain rfl := Sh.some_inj g_11
                    exact ⟨rfl, rfl⟩
                intro env
                refine WpPi.pn 1 rfl trivial ?_
                refine WpPi.nil ?_
                obtain rfl := Sh.some_inj g_10
                exact ⟨rfl, rfl⟩
              ·
                replace g_10 := Sh.ite_neg hb g_10
                refine WpPi.pn 1 rfl trivial ?_
                refine WpPi.skip rfl rfl rfl ?_
                refine WpPi.pn 1 rfl trivial ?_
                refine WpPi.skip rfl rfl rfl ?_
                refine WpPi.pn 6 rfl trivial ?_
                refine WpPi.skip rfl rfl rfl ?_
                refine WpPi.pn 4 rfl trivial ?_
                refine WpPi.skip rfl rfl rfl ?_
                refine WpPi.pn 3 rfl trivial ?_
                refine WpPi.nil ?_
                obtain rfl := Sh.some_inj g_10
                exact ⟨rfl, rfl⟩
            intro env
            refine WpPi.nil ?_
            refine WpC.condB rfl (fun hb => ?_) (fun hb => ?_)
            ·
              replace h := Sh.ite_pos hb h
              refine WpC.seqR ?_
              refine WpOps.pn 1 rfl trivial ?_
              refine WpOps.nil ?_
              refine WpC.lose (i := 0) hH rfl (fun H' hH => ?_)
              obtain rfl := Sh.some_inj h
              have e := hd_2 _ rfl
              subst e
              have h := hk_2
              obtain rfl := Sh.some_inj h
              refine WpC.ret ?_
              exact VEnds.ret1 rfl rfl ⟨rfl, hH⟩
            ·
              replace h := Sh.ite_neg hb h
              refine WpC.skipD ?_
              refine ⟨_, Heap.le_refl _, ?_⟩
              refine WpC.regionD ?_
              obtain ⟨c_8, h⟩ := Sh.chk_some h
              refine WpOps.pn 3 rfl c_8 ?_
              refine WpOps.nil ?_
              obtain rfl := Sh.some_inj h
              exact ⟨_, (Heap.le_refl _), (i_2 + (1 : Int)), (), rfl, ⟨rfl, rfl, rfl, rfl, rfl, trivial⟩, hH⟩
          ·
            replace h := Sh.ite_neg hb h
            obtain rfl := Sh.some_inj h
            have e := hd_2 _ rfl
            subst e
            refine WpC.exit ?_
            exact ⟨((), ()), ⟨rfl, rfl, rfl, rfl, trivial⟩, hk_2, hH⟩
        ·
          rintro ⟨_, _⟩ env H' ⟨h, hH⟩
          try dsimp only at h
          refine ⟨_, Heap.le_refl _, ?_⟩
          refine WpC.seqR ?_
          refine WpOps.pn 3 rfl trivial ?_
          refine WpOps.consE (v := (AV.rows 2 (List.map cGFile ([(GFile.mk ([] : List UInt8) ([] : List UInt8))] : List GFile)))) rfl rfl (Exact.litSlice rfl (by kernel_rfl)) ?_
          obtain ⟨c_9, h⟩ := Sh.chk_some h
          refine WpOps.consG rfl rfl (WpO.pushT cGFile b_4 ([(GFile.mk ([] : List UInt8) ([] : List UInt8))] : List GFile) (i := 0) rfl ek22 hH rfl rfl rfl (.rows _) (fun y _ => one_cGFile y) (by simp) c_9 (by decide) fun p_4 H' hH => ?_)
          obtain ⟨r_6, hr_6, h⟩ := Sh.bind_some h
          refine WpOps.consG rfl rfl (WpO.peekQ (F := (fun q => .tup [.own (List.map cGEdit r_6.1).length q, (iA r_6.2)])) (t := 34) (size := 4) (cT := cGEdit) (l := r_6.1) (tt := 166) (i := 0) hH rfl rfl rfl rfl rfl rfl (fun _ => rfl) (w_edits_Diff hr_6) fun p_5 H' hH => ?_)
          refine WpOps.pn 5 rfl trivial ?_
          refine WpOps.nil ?_
          refine WpC.seqR ?_
          refine WpOps.pn 1 rfl trivial ?_
          obtain ⟨b_11, g_12, h⟩ := Sh.bind_some h
          refine WpOps.cutB 4 174 (bA b_11) rfl ?_ ?_
          ·
            refine WpOps.pn 1 rfl trivial ?_
            refine WpOps.split 171 rfl (fun hb => ?_) (fun hb => ?_)
            ·
              replace g_12 := Sh.ite_pos hb g_12
              refine WpOps.pn 3 rfl trivial ?_
              refine WpOps.nil ?_
              obtain rfl := Sh.some_inj g_12
              exact ⟨rfl, rfl⟩
            ·
              replace g_12 := Sh.ite_neg hb g_12
              refine WpOps.pn 3 rfl trivial ?_
              refine WpOps.nil ?_
              obtain rfl := Sh.some_inj g_12
              exact ⟨rfl, rfl⟩
          intro env
          obtain ⟨b_12, g_13, h⟩ := Sh.bind_some h
          refine WpOps.cutB 7 181 (bA b_12) rfl ?_ ?_
          ·
            refine WpOps.pn 1 rfl trivial ?_
            refine WpOps.split 175 rfl (fun hb => ?_) (fun hb => ?_)
            ·
              replace g_13 := Sh.ite_pos hb g_13
              obtain ⟨r_7, hr_7, g_13⟩ := Sh.bind_some g_13
              refine WpOps.pn 1 rfl trivial ?_
              refine WpOps.consE (v := (AV.rows 1 (List.map cI r_7))) rfl rfl (Exact.call rfl rfl rfl (w_edits_Touched hr_7)) ?_
              obtain ⟨r_8, hr_8, g_13⟩ := Sh.bind_some g_13
              refine WpOps.pn 1 rfl trivial ?_
              refine WpOps.consE (v := (AV.rows 1 (List.map cI r_8))) rfl rfl (Exact.call rfl rfl rfl (w_edits_Touched hr_8)) ?_
              obtain ⟨r_9, hr_9, g_13⟩ := Sh.bind_some g_13
              refine WpOps.consE (v := (bA r_9)) rfl rfl (Exact.call rfl rfl rfl (w_emendref12_Same hr_9)) ?_
              refine WpOps.pn 1 rfl trivial ?_
              refine WpOps.nil ?_
              obtain rfl := Sh.some_inj g_13
              exact ⟨rfl, rfl⟩
            ·
              replace g_13 := Sh.ite_neg hb g_13
              refine WpOps.pn 6 rfl trivial ?_
              refine WpOps.nil ?_
              obtain rfl := Sh.some_inj g_13
              exact ⟨rfl, rfl⟩
          intro env
          refine WpOps.pn 1 rfl trivial ?_
          refine WpOps.nil ?_
          refine WpC.lose (i := 0) hH rfl (fun H' hH => ?_)
          refine WpC.lose (i := 0) hH rfl (fun H' hH => ?_)
          obtain rfl := Sh.some_inj h
          refine WpC.ret ?_
          exact VEnds.ret1 rfl rfl ⟨rfl, hH⟩

end Go.Proofs.Ytdflfbolaicliaa
