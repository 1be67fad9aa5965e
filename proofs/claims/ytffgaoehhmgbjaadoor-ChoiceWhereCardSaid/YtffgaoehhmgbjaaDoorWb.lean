/-
  The code computes what the plain functions say. Printed by a tool.
-/
import Derived.Test.YtffgaoehhmgbjaaDoorW
set_option linter.unusedVariables false
set_option linter.unusedSimpArgs false
set_option maxRecDepth 20000
set_option maxHeartbeats 8000000
namespace Go.Proofs.YtffgaoehhmgbjaaDoor
open Go Go.Vc Go.Sh
attribute [local irreducible] WpC WpOps WpPi WpO Exact TCall VEnds Sh.loopS DEnds

theorem w_emendref13_Begin {H0 : Heap} {lists_1 : List (List GTok)} {r : Int} (h : emendref13_Begin lists_1 = some r) : TCall Tryd.prog 15 [(AV.rows 1 (List.map (cL 6 cGTok) lists_1))] H0 (fun v H' => v = (iA r) ∧ H' = H0) noE := by
  refine id (TCall.body Tryd.func15 rfl rfl ?_)
  have hH : Holds H0 [] H0 := rfl
  refine WpC.seqR ?_
  refine WpOps.pn 1 rfl trivial ?_
  refine WpOps.nil ?_
  refine WpC.seqR ?_
  refine WpOps.pn 1 rfl trivial ?_
  refine WpOps.nil ?_
  refine WpC.seqB (fun x : (Int) × (Unit) => [(3, (iA x.1))]) (fun x H' => emendref13_Begin_j1 x.1 = some r ∧ Holds H0 [] H') ?_ ?_
  ·
    obtain ⟨o_1, ho_1, hk_1⟩ := Sh.bind_some h
    refine WpC.loopS (emendref13_Begin_b2 lists_1) (fun (s : Int) (a : Unit) => [(0, (AV.rows 1 (List.map (cL 6 cGTok) lists_1))), (3, (iA s))]) (fun (s : Int) (a : Unit) H' => Holds H0 [] H') o_1 (0 : Int) () ho_1 ⟨rfl, rfl, trivial⟩ hH ?_
    rintro n_1 _ st_1 env H' h hd_1 hH
    refine WpC.seq ?_
    refine WpC.seqR ?_
    obtain ⟨y_1, hy_1, h⟩ := Sh.bind_some h
    refine WpOps.pn 2 rfl trivial ?_
    refine WpOps.consE (v := (.rop ((cL 6 cGTok) y_1))) rfl rfl (Exact.ixr (cL 6 cGTok) hy_1 rfl rfl rfl rfl (by kernel_rfl) (by decide)) ?_
    refine WpOps.consE (v := (AV.rows 6 (List.map cGTok y_1))) rfl rfl (Exact.load_rop rfl rfl rfl) ?_
    refine WpOps.pn 1 rfl trivial ?_
    refine WpOps.at 9 (len_map _ _) ?_
    refine WpOps.pn 1 rfl trivial ?_
    refine WpOps.nil ?_
    refine WpC.condB rfl (fun hb => ?_) (fun hb => ?_)
    ·
      replace h := Sh.ite_pos hb h
      refine WpC.skipD ?_
      refine ⟨_, Heap.le_refl _, ?_⟩
      refine WpC.block ?_
      refine WpC.seq ?_
      refine WpC.seqR ?_
      refine WpOps.pn 1 rfl trivial ?_
      refine WpOps.nil ?_
      refine WpC.blockK (fun x : (Unit) × (Unit) => [(0, (AV.rows 1 (List.map (cL 6 cGTok) lists_1))), (3, (iA n_1))]) (fun x H' => (emendref13_Begin_j3 n_1) x.1 = some st_1 ∧ Holds H0 [] H') ?_ ?_
      ·
        obtain ⟨o_2, ho_2, hk_2⟩ := Sh.bind_some h
        refine WpC.loopS (emendref13_Begin_b4 lists_1 n_1) (fun (s : Int) (a : Unit) => [(0, (AV.rows 1 (List.map (cL 6 cGTok) lists_1))), (3, (iA n_1)), (4, (iA s))]) (fun (s : Int) (a : Unit) H' => Holds H0 [] H') o_2 (1 : Int) () ho_2 ⟨rfl, rfl, rfl, trivial⟩ hH ?_
        rintro i_1 _ st_2 env H' h hd_2 hH
        refine WpC.seq ?_
        refine WpC.seqR ?_
        refine WpOps.pn 3 rfl trivial ?_
        refine WpOps.at 13 (len_map _ _) ?_
        refine WpOps.pn 1 rfl trivial ?_
        refine WpOps.nil ?_
        refine WpC.condB rfl (fun hb => ?_) (fun hb => ?_)
        ·
          replace h := Sh.ite_pos hb h
          refine WpC.skipD ?_
          refine ⟨_, Heap.le_refl _, ?_⟩
          refine WpC.seq ?_
          refine WpC.block ?_
          refine WpC.seqD [] [0, 1, 2, 3, 4, 5, 6, 7, 8, 9, 10, 11, 12, 13, 14, 15, 16, 17, 18, 19, 20, 21, 22] (by kernel_rfl) (by kernel_rfl) ?_
          obtain ⟨y_2, hy_2, h⟩ := Sh.bind_some h
          refine WpPi.pn 3 rfl trivial ?_
          refine WpPi.consI (v := (.rop ((cL 6 cGTok) y_2))) rfl rfl rfl rfl (fun _ => Exact.ixr (cL 6 cGTok) hy_2 rfl rfl rfl rfl (by kernel_rfl) (by decide)) ?_
          refine WpPi.consI (v := (AV.rows 6 (List.map cGTok y_2))) rfl rfl rfl rfl (fun _ => Exact.load_rop rfl rfl rfl) ?_
          refine WpPi.pn 1 rfl trivial ?_
          refine WpPi.at 22 (len_map _ _) ?_
          refine WpPi.pn 1 rfl trivial ?_
          obtain ⟨b_1, g_1, h⟩ := Sh.bind_some h
          refine WpPi.cutB 16 39 (bA b_1) rfl ?_ ?_
          ·
            refine WpPi.pn 1 rfl trivial ?_
            refine WpPi.split 24 rfl (fun hb => ?_) (fun hb => ?_)
            ·
              replace g_1 := Sh.ite_pos hb g_1
              refine WpPi.pn 2 rfl trivial ?_
              refine WpPi.skip rfl rfl rfl ?_
              refine WpPi.skip rfl rfl rfl ?_
              refine WpPi.pn 1 rfl trivial ?_
              refine WpPi.skip rfl rfl rfl ?_
              refine WpPi.skip rfl rfl rfl ?_
              refine WpPi.pn 1 rfl trivial ?_
              refine WpPi.skip rfl rfl rfl ?_
              refine WpPi.skip rfl rfl rfl ?_
              refine WpPi.pn 1 rfl trivial ?_
              refine WpPi.skip rfl rfl rfl ?_
              refine WpPi.skip rfl rfl rfl ?_
              refine WpPi.pn 2 rfl trivial ?_
              refine WpPi.nil ?_
              obtain rfl := Sh.some_inj g_1
              exact ⟨rfl, rfl⟩
            ·
              replace g_1 := Sh.ite_neg hb g_1
              obtain ⟨y_3, hy_3, g_1⟩ := Sh.bind_some g_1
              refine WpPi.pn 2 rfl trivial ?_
              refine WpPi.consI (v := (.rop ((cL 6 cGTok) y_3))) rfl rfl rfl rfl (fun _ => Exact.ixr (cL 6 cGTok) hy_3 rfl rfl rfl rfl (by kernel_rfl) (by decide)) ?_
              refine WpPi.consI (v := (AV.rows 6 (List.map cGTok y_3))) rfl rfl rfl rfl (fun _ => Exact.load_rop rfl rfl rfl) ?_
              obtain ⟨y_4, hy_4, g_1⟩ := Sh.bind_some g_1
              refine WpPi.pn 1 rfl trivial ?_
              refine WpPi.consI (v := (.rop (cGTok y_4))) rfl rfl rfl rfl (fun _ => Exact.ixr cGTok hy_4 rfl rfl rfl rfl (by kernel_rfl) (by decide)) ?_
              refine WpPi.consI (v := (AV.agg (cGTok y_4))) rfl rfl rfl rfl (fun _ => Exact.load_rop rfl rfl rfl) ?_
              obtain ⟨y_5, hy_5, g_1⟩ := Sh.bind_some g_1
              refine WpPi.pn 1 rfl trivial ?_
              refine WpPi.consI (v := (.rop ((cL 6 cGTok) y_5))) rfl rfl rfl rfl (fun _ => Exact.ixr (cL 6 cGTok) hy_5 rfl rfl rfl rfl (by kernel_rfl) (by decide)) ?_
              refine WpPi.consI (v := (AV.rows 6 (List.map cGTok y_5))) rfl rfl rfl rfl (fun _ => Exact.load_rop rfl rfl rfl) ?_
              obtain ⟨y_6, hy_6, g_1⟩ := Sh.bind_some g_1
              refine WpPi.pn 1 rfl trivial ?_
              refine WpPi.consI (v := (.rop (cGTok y_6))) rfl rfl rfl rfl (fun _ => Exact.ixr cGTok hy_6 rfl rfl rfl rfl (by kernel_rfl) (by decide)) ?_
              refine WpPi.consI (v := (AV.agg (cGTok y_6))) rfl rfl rfl rfl (fun _ => Exact.load_rop rfl rfl rfl) ?_
              refine WpPi.consI (v := (bA (!decide (y_4 = y_6)))) rfl rfl rfl rfl (fun _ => Exact.neqStruct rfl rfl rfl (eqL_GTok y_4 y_6) (by kernel_rfl) rfl (by kernel_rfl)) ?_
              refine WpPi.pn 1 rfl trivial ?_
              refine WpPi.nil ?_
              obtain rfl := Sh.some_inj g_1
              exact ⟨rfl, rfl⟩
          intro env
          refine WpPi.nil ?_
          refine WpC.condB rfl (fun hb => ?_) (fun hb => ?_)
          ·
            replace h := Sh.ite_pos hb h
            refine WpC.seqR ?_
            refine WpOps.pn 2 rfl trivial ?_
            refine WpOps.nil ?_
            obtain rfl := Sh.some_inj h
            have e := hd_2 _ rfl
            subst e
            have h := hk_2
            obtain rfl := Sh.some_inj h
            have e := hd_1 _ rfl
            subst e
            have h := hk_1
            obtain rfl := Sh.some_inj h
            refine WpC.ret ?_
            exact VEnds.ret1 rfl rfl ⟨rfl, hH⟩
          ·
            replace h := Sh.ite_neg hb h
            refine WpC.skipD ?_
            refine ⟨_, Heap.le_refl _, ?_⟩
            refine WpC.regionD ?_
            obtain ⟨c_1, h⟩ := Sh.chk_some h
            refine WpOps.pn 3 rfl c_1 ?_
            refine WpOps.nil ?_
            obtain rfl := Sh.some_inj h
            exact ⟨_, (Heap.le_refl _), (i_1 + (1 : Int)), (), rfl, ⟨rfl, rfl, rfl, trivial⟩, hH⟩
        ·
          replace h := Sh.ite_neg hb h
          obtain rfl := Sh.some_inj h
          have e := hd_2 _ rfl
          subst e
          refine WpC.exit ?_
          exact ⟨((), ()), ⟨rfl, rfl, trivial⟩, hk_2, hH⟩
      ·
        rintro ⟨_, _⟩ env H' ⟨h, hH⟩
        try dsimp only at h
        refine ⟨_, Heap.le_refl _, ?_⟩
        refine WpC.regionD ?_
        obtain ⟨c_2, h⟩ := Sh.chk_some h
        refine WpOps.pn 3 rfl c_2 ?_
        refine WpOps.nil ?_
        obtain rfl := Sh.some_inj h
        exact ⟨_, (Heap.le_refl _), (n_1 + (1 : Int)), (), rfl, ⟨rfl, rfl, trivial⟩, hH⟩
    ·
      replace h := Sh.ite_neg hb h
      obtain rfl := Sh.some_inj h
      have e := hd_1 _ rfl
      subst e
      refine WpC.exit ?_
      exact ⟨(n_1, ()), ⟨rfl, trivial⟩, hk_1, hH⟩
  ·
    rintro ⟨n_2, _⟩ env H' ⟨h, hH⟩
    try dsimp only at h
    refine WpC.seqR ?_
    refine WpOps.pn 2 rfl trivial ?_
    refine WpOps.nil ?_
    obtain rfl := Sh.some_inj h
    refine WpC.ret ?_
    exact VEnds.ret1 rfl rfl ⟨rfl, hH⟩

theorem w_emendref13_End {H0 : Heap} {lists_1 : List (List GTok)} {first_1 : Int} {r : Int} (h : emendref13_End lists_1 first_1 = some r) : TCall Tryd.prog 16 [(AV.rows 1 (List.map (cL 6 cGTok) lists_1)), (iA first_1)] H0 (fun v H' => v = (iA r) ∧ H' = H0) noE := by
  refine id (TCall.body Tryd.func16 rfl rfl ?_)
  have hH : Holds H0 [] H0 := rfl
  refine WpC.seqR ?_
  refine WpOps.pn 1 rfl trivial ?_
  refine WpOps.nil ?_
  refine WpC.seqR ?_
  refine WpOps.pn 1 rfl trivial ?_
  refine WpOps.nil ?_
  refine WpC.block ?_
  obtain ⟨o_1, ho_1, hk_1⟩ := Sh.bind_some h
  refine WpC.loopS (emendref13_End_b1 lists_1 first_1) (fun (s : Int) (a : Unit) => [(0, (AV.rows 1 (List.map (cL 6 cGTok) lists_1))), (1, (iA first_1)), (5, (iA s))]) (fun (s : Int) (a : Unit) H' => Holds H0 [] H') o_1 (0 : Int) () ho_1 ⟨rfl, rfl, rfl, trivial⟩ hH ?_
  rintro n_1 _ st_1 env H' h hd_1 hH
  refine WpC.block ?_
  refine WpC.seq ?_
  refine WpC.seqR ?_
  refine WpOps.pn 1 rfl trivial ?_
  refine WpOps.nil ?_
  refine WpC.blockK (fun x : (Unit) × (Unit) => [(0, (AV.rows 1 (List.map (cL 6 cGTok) lists_1))), (1, (iA first_1)), (5, (iA n_1))]) (fun x H' => (emendref13_End_j2 n_1) x.1 = some st_1 ∧ Holds H0 [] H') ?_ ?_
  ·
    obtain ⟨o_2, ho_2, hk_2⟩ := Sh.bind_some h
    refine WpC.loopS (emendref13_End_b3 lists_1 first_1 n_1) (fun (s : Int) (a : Unit) => [(0, (AV.rows 1 (List.map (cL 6 cGTok) lists_1))), (1, (iA first_1)), (5, (iA n_1)), (6, (iA s))]) (fun (s : Int) (a : Unit) H' => Holds H0 [] H') o_2 (0 : Int) () ho_2 ⟨rfl, rfl, rfl, rfl, trivial⟩ hH ?_
    rintro i_1 _ st_2 env H' h hd_2 hH
    refine WpC.seq ?_
    refine WpC.seqR ?_
    refine WpOps.pn 3 rfl trivial ?_
    refine WpOps.at 10 (len_map _ _) ?_
    refine WpOps.pn 1 rfl trivial ?_
    refine WpOps.nil ?_
    refine WpC.condB rfl (fun hb => ?_) (fun hb => ?_)
    ·
      replace h := Sh.ite_pos hb h
      refine WpC.skipD ?_
      refine ⟨_, Heap.le_refl _, ?_⟩
      refine WpC.seq ?_
      refine WpC.block ?_
      refine WpC.seqR ?_
      obtain ⟨y_1, hy_1, h⟩ := Sh.bind_some h
      refine WpOps.pn 2 rfl trivial ?_
      refine WpOps.consE (v := (.rop ((cL 6 cGTok) y_1))) rfl rfl (Exact.ixr (cL 6 cGTok) hy_1 rfl rfl rfl rfl (by kernel_rfl) (by decide)) ?_
      refine WpOps.consE (v := (AV.rows 6 (List.map cGTok y_1))) rfl rfl (Exact.load_rop rfl rfl rfl) ?_
      refine WpOps.pn 1 rfl trivial ?_
      refine WpOps.at 18 (len_map _ _) ?_
      obtain ⟨c_1, h⟩ := Sh.chk_some h
      obtain ⟨c_2, h⟩ := Sh.chk_some h
      refine WpOps.pn 4 rfl ⟨c_2, c_1⟩ ?_
      refine WpOps.nil ?_
      refine WpC.seqD [] [0, 1, 2, 3, 4, 5, 6, 7, 8, 9, 10, 11, 12, 13, 14, 15, 16, 17, 18, 19, 20, 21, 22, 23, 24] (by kernel_rfl) (by kernel_rfl) ?_
      refine WpPi.pn 3 rfl trivial ?_
      obtain ⟨b_1, g_1, h⟩ := Sh.bind_some h
      refine WpPi.cutB 22 46 (bA b_1) rfl ?_ ?_
      ·
        refine WpPi.pn 1 rfl trivial ?_
        refine WpPi.split 25 rfl (fun hb => ?_) (fun hb => ?_)
        ·
          replace g_1 := Sh.ite_pos hb g_1
          refine WpPi.pn 2 rfl trivial ?_
          refine WpPi.skip rfl rfl rfl ?_
          refine WpPi.skip rfl rfl rfl ?_
          refine WpPi.pn 1 rfl trivial ?_
          refine WpPi.skip rfl rfl rfl ?_
          refine WpPi.skip rfl rfl rfl ?_
          refine WpPi.pn 1 rfl trivial ?_
          refine WpPi.skip rfl rfl rfl ?_
          refine WpPi.skip rfl rfl rfl ?_
          refine WpPi.pn 1 rfl trivial ?_
          refine WpPi.skip rfl rfl rfl ?_
          refine WpPi.skip rfl rfl rfl ?_
          refine WpPi.pn 4 rfl trivial ?_
          refine WpPi.skip rfl rfl rfl ?_
          refine WpPi.skip rfl rfl rfl ?_
          refine WpPi.pn 2 rfl trivial ?_
          refine WpPi.nil ?_
          obtain rfl := Sh.some_inj g_1
          exact ⟨rfl, rfl⟩
        ·
          replace g_1 := Sh.ite_neg hb g_1
          obtain ⟨y_2, hy_2, g_1⟩ := Sh.bind_some g_1
          refine WpPi.pn 2 rfl trivial ?_
          refine WpPi.consI (v := (.rop ((cL 6 cGTok) y_2))) rfl rfl rfl rfl (fun _ => Exact.ixr (cL 6 cGTok) hy_2 rfl rfl rfl rfl (by kernel_rfl) (by decide)) ?_
          refine WpPi.consI (v := (AV.rows 6 (List.map cGTok y_2))) rfl rfl rfl rfl (fun _ => Exact.load_rop rfl rfl rfl) ?_
          obtain ⟨y_3, hy_3, g_1⟩ := Sh.bind_some g_1
          refine WpPi.pn 1 rfl trivial ?_
          refine WpPi.consI (v := (.rop (cGTok y_3))) rfl rfl rfl rfl (fun _ => Exact.ixr cGTok hy_3 rfl rfl rfl rfl (by kernel_rfl) (by decide)) ?_
          refine WpPi.consI (v := (AV.agg (cGTok y_3))) rfl rfl rfl rfl (fun _ => Exact.load_rop rfl rfl rfl) ?_
          obtain ⟨y_4, hy_4, g_1⟩ := Sh.bind_some g_1
          refine WpPi.pn 1 rfl trivial ?_
          refine WpPi.consI (v := (.rop ((cL 6 cGTok) y_4))) rfl rfl rfl rfl (fun _ => Exact.ixr (cL 6 cGTok) hy_4 rfl rfl rfl rfl (by kernel_rfl) (by decide)) ?_
          refine WpPi.consI (v := (AV.rows 6 (List.map cGTok y_4))) rfl rfl rfl rfl (fun _ => Exact.load_rop rfl rfl rfl) ?_
          obtain ⟨y_5, hy_5, g_1⟩ := Sh.bind_some g_1
          refine WpPi.pn 1 rfl trivial ?_
          refine WpPi.consI (v := (.rop ((cL 6 cGTok) y_5))) rfl rfl rfl rfl (fun _ => Exact.ixr (cL 6 cGTok) hy_5 rfl rfl rfl rfl (by kernel_rfl) (by decide)) ?_
          refine WpPi.consI (v := (AV.rows 6 (List.map cGTok y_5))) rfl rfl rfl rfl (fun _ => Exact.load_rop rfl rfl rfl) ?_
          refine WpPi.pn 1 rfl trivial ?_
          refine WpPi.at 39 (len_map _ _) ?_
          obtain ⟨c_3, g_1⟩ := Sh.chk_some g_1
          obtain ⟨c_4, g_1⟩ := Sh.chk_some g_1
          obtain ⟨y_6, hy_6, g_1⟩ := Sh.bind_some g_1
          refine WpPi.pn 3 rfl ⟨c_4, c_3⟩ ?_
          refine WpPi.consI (v := (.rop (cGTok y_6))) rfl rfl rfl rfl (fun _ => Exact.ixr cGTok hy_6 rfl rfl rfl rfl (by kernel_rfl) (by decide)) ?_
          refine WpPi.consI (v := (AV.agg (cGTok y_6))) rfl rfl rfl rfl (fun _ => Exact.load_rop rfl rfl rfl) ?_
          refine WpPi.consI (v := (bA (!decide (y_3 = y_6)))) rfl rfl rfl rfl (fun _ => Exact.neqStruct rfl rfl rfl (eqL_GTok y_3 y_6) (by kernel_rfl) rfl (by kernel_rfl)) ?_
          refine WpPi.pn 1 rfl trivial ?_
          refine WpPi.nil ?_
          obtain rfl := Sh.some_inj g_1
          exact ⟨rfl, rfl⟩
      intro env
      refine WpPi.nil ?_
      refine WpC.condB rfl (fun hb => ?_) (fun hb => ?_)
      ·
        replace h := Sh.ite_pos hb h
        refine WpC.seqR ?_
        refine WpOps.pn 2 rfl trivial ?_
        refine WpOps.nil ?_
        obtain rfl := Sh.some_inj h
        have e := hd_2 _ rfl
        subst e
        have h := hk_2
        obtain rfl := Sh.some_inj h
        have e := hd_1 _ rfl
        subst e
        have h := hk_1
        obtain rfl := Sh.some_inj h
        refine WpC.ret ?_
        exact VEnds.ret1 rfl rfl ⟨rfl, hH⟩
      ·
        replace h := Sh.ite_neg hb h
        refine WpC.skipD ?_
        refine ⟨_, Heap.le_refl _, ?_⟩
        refine WpC.regionD ?_
        obtain ⟨c_5, h⟩ := Sh.chk_some h
        refine WpOps.pn 3 rfl c_5 ?_
        refine WpOps.nil ?_
        obtain rfl := Sh.some_inj h
        exact ⟨_, (Heap.le_refl _), (i_1 + (1 : Int)), (), rfl, ⟨rfl, rfl, rfl, rfl, trivial⟩, hH⟩
    ·
      replace h := Sh.ite_neg hb h
      obtain rfl := Sh.some_inj h
      have e := hd_2 _ rfl
      subst e
      refine WpC.exit ?_
      exact ⟨((), ()), ⟨rfl, rfl, rfl, trivial⟩, hk_2, hH⟩
  ·
    rintro ⟨_, _⟩ env H' ⟨h, hH⟩
    try dsimp only at h
    refine ⟨_, Heap.le_refl _, ?_⟩
    refine WpC.regionD ?_
    obtain ⟨c_6, h⟩ := Sh.chk_some h
    refine WpOps.pn 3 rfl c_6 ?_
    refine WpOps.nil ?_
    obtain rfl := Sh.some_inj h
    exact ⟨_, (Heap.le_refl _), (n_1 + (1 : Int)), (), rfl, ⟨rfl, rfl, rfl, trivial⟩, hH⟩

theorem w_emendlaw13_ChoiceMerges {H0 : Heap} (hG : Glob H0) {vars_1 : Int} {texts_1 : List (List UInt8)} {r : Bool} (h : emendlaw13_ChoiceMerges vars_1 texts_1 = some r) : TCall Tryd.prog 3 [(iA vars_1), (AV.rows 1 (List.map cS texts_1))] H0 (fun v H' => v = (bA r) ∧ H' = H0) noE := by
  refine id (TCall.body Tryd.func3 rfl rfl ?_)
  have hH : Holds H0 [] H0 := rfl
  refine WpC.seqR ?_
  refine WpOps.pn 1 rfl trivial ?_
  refine WpOps.nil ?_
  refine WpC.seqR ?_
  obtain ⟨r_1, hr_1, h⟩ := Sh.bind_some h
  refine WpOps.consE (v := (bA r_1)) rfl rfl (Exact.call rfl rfl rfl (w_emendlaw13_awake (hG.up hH) hr_1)) ?_
  refine WpOps.pn 1 rfl trivial ?_
  refine WpOps.nil ?_
  refine WpC.seqR ?_
  obtain ⟨r_2, hr_2, h⟩ := Sh.bind_some h
  refine WpOps.pn 2 rfl trivial ?_
  refine WpOps.consE (v := (.tup [(AV.rows 1 (List.map (cL 6 cGTok) r_2.1)), (bA r_2.2)])) rfl rfl (Exact.call rfl rfl rfl (w_emendlaw13_lists (hG.up hH) hr_2)) ?_
  refine WpOps.pn 5 rfl trivial ?_
  refine WpOps.nil ?_
  refine WpC.seq ?_
  refine WpC.seqR ?_
  refine WpOps.pn 2 rfl trivial ?_
  refine WpOps.nil ?_
  refine WpC.condB rfl (fun hb => ?_) (fun hb => ?_)
  ·
    replace h := Sh.ite_pos hb h
    refine WpC.seqR ?_
    refine WpOps.pn 2 rfl trivial ?_
    refine WpOps.nil ?_
    obtain rfl := Sh.some_inj h
    refine WpC.ret ?_
    exact VEnds.ret1 rfl rfl ⟨rfl, hH⟩
  ·
    replace h := Sh.ite_neg hb h
    refine WpC.skipD ?_
    refine ⟨_, Heap.le_refl _, ?_⟩
    refine WpC.seqR ?_
    obtain ⟨c_1, h⟩ := Sh.chk_some h
    refine WpOps.pn 1 rfl trivial ?_
    refine WpOps.consG rfl rfl (WpO.callM (F := fun g => .tup [.lit (.pointer (some ⟨g, 0, none⟩)), iA (0 : Int)]) (p := fun g => arP g (newG (vars_1).toNat)) rfl rfl rfl hH (w_bdd_New c_1) fun g_1 H' hH => ?_)
    refine WpOps.pn 5 rfl trivial ?_
    refine WpOps.nil ?_
    refine WpC.seq ?_
    refine WpC.seqR ?_
    refine WpOps.pn 2 rfl trivial ?_
    refine WpOps.nil ?_
    refine WpC.condF rfl ?_
    refine WpC.skipD ?_
    refine ⟨_, Heap.le_refl _, ?_⟩
    refine WpC.seqR ?_
    obtain ⟨r_3, hr_3, h⟩ := Sh.bind_some h
    refine WpOps.pn 2 rfl trivial ?_
    refine WpOps.consG rfl rfl (WpO.callT (v := (.tup [(AV.rows 7 (List.map cGChoice_CTok r_3.1.1)), (iA r_3.1.2)])) rfl rfl rfl hH (i := 0) rfl (fun H1 hl hh => w_choice_Merge hh hr_3) fun H' hH => ?_)
    refine WpOps.pn 5 rfl trivial ?_
    refine WpOps.nil ?_
    refine WpC.seq ?_
    refine WpC.seqR ?_
    refine WpOps.pn 2 rfl trivial ?_
    obtain ⟨b_1, g_2, h⟩ := Sh.bind_some h
    refine WpOps.cutB 7 48 (bA b_1) rfl ?_ ?_
    ·
      refine WpOps.pn 1 rfl trivial ?_
      refine WpOps.split 42 rfl (fun hb => ?_) (fun hb => ?_)
      ·
        replace g_2 := Sh.ite_pos hb g_2
        refine WpOps.pn 6 rfl trivial ?_
        refine WpOps.nil ?_
        obtain rfl := Sh.some_inj g_2
        exact ⟨rfl, rfl⟩
      ·
        replace g_2 := Sh.ite_neg hb g_2
        refine WpOps.pn 2 rfl trivial ?_
        refine WpOps.at 44 (len_map _ _) ?_
        obtain ⟨r_4, hr_4, g_2⟩ := Sh.bind_some g_2
        refine WpOps.pn 1 rfl trivial ?_
        refine WpOps.consE (v := (iA r_4)) rfl rfl (Exact.call rfl rfl rfl (w_emendref13_All hr_4)) ?_
        refine WpOps.pn 2 rfl trivial ?_
        refine WpOps.nil ?_
        obtain rfl := Sh.some_inj g_2
        exact ⟨rfl, rfl⟩
    intro env
    refine WpOps.nil ?_
    refine WpC.condB rfl (fun hb => ?_) (fun hb => ?_)
    ·
      replace h := Sh.ite_pos hb h
      refine WpC.seqR ?_
      refine WpOps.pn 1 rfl trivial ?_
      refine WpOps.nil ?_
      refine WpC.lose (i := 0) hH rfl (fun H' hH => ?_)
      obtain rfl := Sh.some_inj h
      refine WpC.ret ?_
      exact VEnds.ret1 rfl rfl ⟨rfl, hH⟩
    ·
      replace h := Sh.ite_neg hb h
      refine WpC.skipD ?_
      refine ⟨_, Heap.le_refl _, ?_⟩
      refine WpC.seq ?_
      refine WpC.seqR ?_
      refine WpOps.pn 1 rfl trivial ?_
      refine WpOps.nil ?_
      refine WpC.blockK (fun x : (Unit) × (Unit) => [(5, (bA r_1)), (6, (AV.rows 1 (List.map (cL 6 cGTok) r_2.1))), (10, (AV.rows 7 (List.map cGChoice_CTok r_3.1.1)))]) (fun x H' => (emendlaw13_ChoiceMerges_j1 r_1 r_2 r_3) x.1 = some r ∧ Holds H0 [] H') ?_ ?_
      ·
        obtain ⟨o_1, ho_1, hk_1⟩ := Sh.bind_some h
        refine WpC.loopS (emendlaw13_ChoiceMerges_b2 r_2 r_3) (fun (s : Int × GArena) (a : Unit) => [(5, (bA r_1)), (6, (AV.rows 1 (List.map (cL 6 cGTok) r_2.1))), (8, (.lit (.pointer (some ⟨g_1, 0, none⟩)))), (10, (AV.rows 7 (List.map cGChoice_CTok r_3.1.1))), (12, (iA s.1))]) (fun (s : Int × GArena) (a : Unit) H' => Holds H0 [.many (arP g_1 s.2)] H') o_1 ((0 : Int), r_3.2) () ho_1 ⟨rfl, rfl, rfl, rfl, rfl, trivial⟩ hH ?_
        rintro ⟨set_1, a_1⟩ _ st_1 env H' h hd_1 hH
        refine WpC.seq ?_
        refine WpC.seqR ?_
        refine WpOps.pn 3 rfl trivial ?_
        refine WpOps.at 51 (len_map _ _) ?_
        refine WpOps.pn 1 rfl trivial ?_
        refine WpOps.nil ?_
        refine WpC.condB rfl (fun hb => ?_) (fun hb => ?_)
        ·
          replace h := Sh.ite_pos hb h
          refine WpC.skipD ?_
          refine ⟨_, Heap.le_refl _, ?_⟩
          refine WpC.seq ?_
          refine WpC.block ?_
          refine WpC.seqR ?_
          obtain ⟨r_5, hr_5, h⟩ := Sh.bind_some h
          refine WpOps.pn 3 rfl trivial ?_
          refine WpOps.consG rfl rfl (WpO.callT (v := (AV.rows 6 (List.map cGTok r_5.1))) rfl rfl rfl hH (i := 0) rfl (fun H1 hl hh => w_choice_Select hh hr_5) fun H' hH => ?_)
          refine WpOps.pn 1 rfl trivial ?_
          refine WpOps.nil ?_
          refine WpC.seqR ?_
          obtain ⟨y_1, hy_1, h⟩ := Sh.bind_some h
          refine WpOps.pn 3 rfl trivial ?_
          refine WpOps.consE (v := (.rop ((cL 6 cGTok) y_1))) rfl rfl (Exact.ixr (cL 6 cGTok) hy_1 rfl rfl rfl rfl (by kernel_rfl) (by decide)) ?_
          refine WpOps.consE (v := (AV.rows 6 (List.map cGTok y_1))) rfl rfl (Exact.load_rop rfl rfl rfl) ?_
          obtain ⟨r_6, hr_6, h⟩ := Sh.bind_some h
          refine WpOps.consE (v := (bA r_6)) rfl rfl (Exact.call rfl rfl rfl (w_emendref03_Same hr_6)) ?_
          refine WpOps.pn 1 rfl trivial ?_
          refine WpOps.nil ?_
          refine WpC.condB rfl (fun hb => ?_) (fun hb => ?_)
          ·
            replace h := Sh.ite_pos hb h
            refine WpC.seqR ?_
            refine WpOps.pn 1 rfl trivial ?_
            refine WpOps.nil ?_
            refine WpC.lose (i := 0) hH rfl (fun H' hH => ?_)
            obtain rfl := Sh.some_inj h
            have e := hd_1 _ rfl
            subst e
            have h := hk_1
            obtain rfl := Sh.some_inj h
            refine WpC.ret ?_
            exact VEnds.ret1 rfl rfl ⟨rfl, hH⟩
          ·
            replace h := Sh.ite_neg hb h
            refine WpC.skipD ?_
            refine ⟨_, Heap.le_refl _, ?_⟩
            refine WpC.regionD ?_
            obtain ⟨c_2, h⟩ := Sh.chk_some h
            refine WpOps.pn 3 rfl c_2 ?_
            refine WpOps.nil ?_
            obtain rfl := Sh.some_inj h
            exact ⟨_, (Heap.le_refl _), ((set_1 + (1 : Int)), r_5.2), (), rfl, ⟨rfl, rfl, rfl, rfl, rfl, trivial⟩, hH⟩
        ·
          replace h := Sh.ite_neg hb h
          refine WpC.lose (i := 0) hH rfl (fun H' hH => ?_)
          obtain rfl := Sh.some_inj h
          have e := hd_1 _ rfl
          subst e
          refine WpC.exit ?_
          exact ⟨((), ()), ⟨rfl, rfl, rfl, trivial⟩, hk_1, hH⟩
      ·
        rintro ⟨_, _⟩ env H' ⟨h, hH⟩
        try dsimp only at h
        refine ⟨_, Heap.le_refl _, ?_⟩
        refine WpC.seqR ?_
        obtain ⟨r_7, hr_7, h⟩ := Sh.bind_some h
        refine WpOps.pn 1 rfl trivial ?_
        refine WpOps.consE (v := (iA r_7)) rfl rfl (Exact.call rfl rfl rfl (w_emendref13_Begin hr_7)) ?_
        refine WpOps.pn 1 rfl trivial ?_
        refine WpOps.nil ?_
        refine WpC.seqR ?_
        obtain ⟨r_8, hr_8, h⟩ := Sh.bind_some h
        refine WpOps.pn 2 rfl trivial ?_
        refine WpOps.consE (v := (iA r_8)) rfl rfl (Exact.call rfl rfl rfl (w_emendref13_End hr_8)) ?_
        refine WpOps.pn 1 rfl trivial ?_
        refine WpOps.nil ?_
        refine WpC.seq ?_
        refine WpC.seqR ?_
        refine WpOps.pn 2 rfl trivial ?_
        refine WpOps.at 72 (len_map _ _) ?_
        obtain ⟨c_3, h⟩ := Sh.chk_some h
        refine WpOps.pn 4 rfl c_3 ?_
        refine WpOps.nil ?_
        refine WpC.condB rfl (fun hb => ?_) (fun hb => ?_)
        ·
          replace h := Sh.ite_pos hb h
          refine WpC.seqR ?_
          refine WpOps.pn 1 rfl trivial ?_
          refine WpOps.nil ?_
          obtain rfl := Sh.some_inj h
          refine WpC.ret ?_
          exact VEnds.ret1 rfl rfl ⟨rfl, hH⟩
        ·
          replace h := Sh.ite_neg hb h
          refine WpC.skipD ?_
          refine ⟨_, Heap.le_refl _, ?_⟩
          refine WpC.seq ?_
          refine WpC.seqR ?_
          refine WpOps.pn 1 rfl trivial ?_
          refine WpOps.nil ?_
          refine WpC.blockK (fun x : (Unit) × (Unit) => [(5, (bA r_1))]) (fun x H' => (emendlaw13_ChoiceMerges_j3 r_1) x.1 = some r ∧ Holds H0 [] H') ?_ ?_
          ·
            obtain ⟨o_2, ho_2, hk_2⟩ := Sh.bind_some h
            refine WpC.loopS (emendlaw13_ChoiceMerges_b4 r_2 r_3 r_7 r_8) (fun (s : Int) (a : Unit) => [(5, (bA r_1)), (6, (AV.rows 1 (List.map (cL 6 cGTok) r_2.1))), (10, (AV.rows 7 (List.map cGChoice_CTok r_3.1.1))), (14, (iA r_7)), (15, (iA r_8)), (16, (iA s))]) (fun (s : Int) (a : Unit) H' => Holds H0 [] H') o_2 (0 : Int) () ho_2 ⟨rfl, rfl, rfl, rfl, rfl, rfl, trivial⟩ hH ?_
            rintro i_1 _ st_2 env H' h hd_2 hH
            refine WpC.seq ?_
            refine WpC.seqR ?_
            refine WpOps.pn 3 rfl trivial ?_
            refine WpOps.at 79 (len_map _ _) ?_
            refine WpOps.pn 1 rfl trivial ?_
            refine WpOps.nil ?_
            refine WpC.condB rfl (fun hb => ?_) (fun hb => ?_)
            ·
              replace h := Sh.ite_pos hb h
              refine WpC.skipD ?_
              refine ⟨_, Heap.le_refl _, ?_⟩
              refine WpC.seq ?_
              refine WpC.block ?_
              refine WpC.seqD [] [0, 1, 2, 3, 4, 5, 6, 7, 8, 9, 10, 11, 12, 13, 14, 15, 16, 17, 18, 19, 20, 21, 22, 23, 24, 25, 26, 27, 28, 29, 30, 31, 32, 33, 34, 35, 36, 37, 38, 39, 40, 41, 42, 43, 44, 45] (by kernel_rfl) (by kernel_rfl) ?_
              obtain ⟨y_2, hy_2, h⟩ := Sh.bind_some h
              refine WpPi.pn 2 rfl trivial ?_
              refine WpPi.consI (v := (.rop (cGChoice_CTok y_2))) rfl rfl rfl rfl (fun _ => Exact.ixr cGChoice_CTok hy_2 rfl rfl rfl rfl (by kernel_rfl) (by decide)) ?_
              refine WpPi.pn 1 rfl trivial ?_
              refine WpPi.consI (v := (iA y_2.cond)) rfl rfl rfl rfl (fun _ => Exact.load_rop rfl rfl rfl) ?_
              refine WpPi.pn 1 rfl trivial ?_
              obtain ⟨b_2, g_3, h⟩ := Sh.bind_some h
              refine WpPi.cutB 21 109 (bA b_2) rfl ?_ ?_
              ·
                refine WpPi.pn 1 rfl trivial ?_
                refine WpPi.split 89 rfl (fun hb => ?_) (fun hb => ?_)
                ·
                  replace g_3 := Sh.ite_pos hb g_3
                  refine WpPi.pn 14 rfl trivial ?_
                  refine WpPi.skip rfl rfl rfl ?_
                  refine WpPi.pn 1 rfl trivial ?_
                  refine WpPi.skip rfl rfl rfl ?_
                  refine WpPi.pn 3 rfl trivial ?_
                  refine WpPi.nil ?_
                  obtain rfl := Sh.some_inj g_3
                  exact ⟨rfl, rfl⟩
                ·
                  replace g_3 := Sh.ite_neg hb g_3
                  refine WpPi.pn 3 rfl trivial ?_
                  obtain ⟨b_3, g_4, g_3⟩ := Sh.bind_some g_3
                  refine WpPi.cutB 8 100 (bA b_3) rfl ?_ ?_
                  ·
                    refine WpPi.pn 1 rfl trivial ?_
                    refine WpPi.split 93 rfl (fun hb => ?_) (fun hb => ?_)
                    ·
                      replace g_4 := Sh.ite_pos hb g_4
                      refine WpPi.pn 7 rfl trivial ?_
                      refine WpPi.nil ?_
                      obtain rfl := Sh.some_inj g_4
                      exact ⟨rfl, rfl⟩
                    ·
                      replace g_4 := Sh.ite_neg hb g_4
                      refine WpPi.pn 3 rfl trivial ?_
                      refine WpPi.at 96 (len_map _ _) ?_
                      obtain ⟨c_4, g_4⟩ := Sh.chk_some g_4
                      refine WpPi.pn 4 rfl c_4 ?_
                      refine WpPi.nil ?_
                      obtain rfl := Sh.some_inj g_4
                      exact ⟨rfl, rfl⟩
                  intro env
                  obtain ⟨b_4, g_5, g_3⟩ := Sh.bind_some g_3
                  refine WpPi.cutB 8 108 (bA b_4) rfl ?_ ?_
                  ·
                    refine WpPi.pn 1 rfl trivial ?_
                    refine WpPi.split 101 rfl (fun hb => ?_) (fun hb => ?_)
                    ·
                      replace g_5 := Sh.ite_pos hb g_5
                      obtain ⟨y_3, hy_3, g_5⟩ := Sh.bind_some g_5
                      refine WpPi.pn 2 rfl trivial ?_
                      refine WpPi.consI (v := (.rop (cGChoice_CTok y_3))) rfl rfl rfl rfl (fun _ => Exact.ixr cGChoice_CTok hy_3 rfl rfl rfl rfl (by kernel_rfl) (by decide)) ?_
                      refine WpPi.pn 1 rfl trivial ?_
                      refine WpPi.consI (v := (iA y_3.cond)) rfl rfl rfl rfl (fun _ => Exact.load_rop rfl rfl rfl) ?_
                      refine WpPi.pn 2 rfl trivial ?_
                      refine WpPi.nil ?_
                      obtain rfl := Sh.some_inj g_5
                      exact ⟨rfl, rfl⟩
                    ·
                      replace g_5 := Sh.ite_neg hb g_5
                      refine WpPi.pn 2 rfl trivial ?_
                      refine WpPi.skip rfl rfl rfl ?_
                      refine WpPi.pn 1 rfl trivial ?_
                      refine WpPi.skip rfl rfl rfl ?_
                      refine WpPi.pn 2 rfl trivial ?_
                      refine WpPi.nil ?_
                      obtain rfl := Sh.some_inj g_5
                      exact ⟨rfl, rfl⟩
                  intro env
                  refine WpPi.pn 1 rfl trivial ?_
                  refine WpPi.nil ?_
                  obtain rfl := Sh.some_inj g_3
                  exact ⟨rfl, rfl⟩
              intro env
              obtain ⟨b_5, g_6, h⟩ := Sh.bind_some h
              refine WpPi.cutB 19 128 (bA b_5) rfl ?_ ?_
              ·
                refine WpPi.pn 1 rfl trivial ?_
                refine WpPi.split 110 rfl (fun hb => ?_) (fun hb => ?_)
                ·
                  replace g_6 := Sh.ite_pos hb g_6
                  refine WpPi.pn 6 rfl trivial ?_
                  refine WpPi.skip rfl rfl rfl ?_
                  refine WpPi.pn 1 rfl trivial ?_
                  refine WpPi.skip rfl rfl rfl ?_
                  refine WpPi.pn 1 rfl trivial ?_
                  refine WpPi.skip rfl rfl rfl ?_
                  refine WpPi.skip rfl rfl rfl ?_
                  refine WpPi.pn 1 rfl trivial ?_
                  refine WpPi.skip rfl rfl rfl ?_
                  refine WpPi.skip rfl rfl rfl ?_
                  refine WpPi.pn 3 rfl trivial ?_
                  refine WpPi.nil ?_
                  obtain rfl := Sh.some_inj g_6
                  exact ⟨rfl, rfl⟩
                ·
                  replace g_6 := Sh.ite_neg hb g_6
                  refine WpPi.pn 3 rfl trivial ?_
                  obtain ⟨b_6, g_7, g_6⟩ := Sh.bind_some g_6
                  refine WpPi.cutB 14 127 (bA b_6) rfl ?_ ?_
                  ·
                    refine WpPi.pn 1 rfl trivial ?_
                    refine WpPi.split 114 rfl (fun hb => ?_) (fun hb => ?_)
                    ·
                      replace g_7 := Sh.ite_pos hb g_7
                      obtain ⟨y_4, hy_4, g_7⟩ := Sh.bind_some g_7
                      refine WpPi.pn 2 rfl trivial ?_
                      refine WpPi.consI (v := (.rop (cGChoice_CTok y_4))) rfl rfl rfl rfl (fun _ => Exact.ixr cGChoice_CTok hy_4 rfl rfl rfl rfl (by kernel_rfl) (by decide)) ?_
                      refine WpPi.pn 1 rfl trivial ?_
                      refine WpPi.consI (v := (AV.agg (cGTok y_4.t))) rfl rfl rfl rfl (fun _ => Exact.load_rop rfl rfl rfl) ?_
                      obtain ⟨y_5, hy_5, g_7⟩ := Sh.bind_some g_7
                      refine WpPi.pn 1 rfl trivial ?_
                      refine WpPi.consI (v := (.rop ((cL 6 cGTok) y_5))) rfl rfl rfl rfl (fun _ => Exact.ixr (cL 6 cGTok) hy_5 rfl rfl rfl rfl (by kernel_rfl) (by decide)) ?_
                      refine WpPi.consI (v := (AV.rows 6 (List.map cGTok y_5))) rfl rfl rfl rfl (fun _ => Exact.load_rop rfl rfl rfl) ?_
                      obtain ⟨y_6, hy_6, g_7⟩ := Sh.bind_some g_7
                      refine WpPi.pn 1 rfl trivial ?_
                      refine WpPi.consI (v := (.rop (cGTok y_6))) rfl rfl rfl rfl (fun _ => Exact.ixr cGTok hy_6 rfl rfl rfl rfl (by kernel_rfl) (by decide)) ?_
                      refine WpPi.consI (v := (AV.agg (cGTok y_6))) rfl rfl rfl rfl (fun _ => Exact.load_rop rfl rfl rfl) ?_
                      refine WpPi.consI (v := (bA (!decide (y_4.t = y_6)))) rfl rfl rfl rfl (fun _ => Exact.neqStruct rfl rfl rfl (eqL_GTok y_4.t y_6) (by kernel_rfl) rfl (by kernel_rfl)) ?_
                      refine WpPi.pn 1 rfl trivial ?_
                      refine WpPi.nil ?_
                      obtain rfl := Sh.some_inj g_7
                      exact ⟨rfl, rfl⟩
                    ·
                      replace g_7 := Sh.ite_neg hb g_7
                      refine WpPi.pn 2 rfl trivial ?_
                      refine WpPi.skip rfl rfl rfl ?_
                      refine WpPi.pn 1 rfl trivial ?_
                      refine WpPi.skip rfl rfl rfl ?_
                      refine WpPi.pn 1 rfl trivial ?_
                      refine WpPi.skip rfl rfl rfl ?_
                      refine WpPi.skip rfl rfl rfl ?_
                      refine WpPi.pn 1 rfl trivial ?_
                      refine WpPi.skip rfl rfl rfl ?_
                      refine WpPi.skip rfl rfl rfl ?_
                      refine WpPi.pn 2 rfl trivial ?_
                      refine WpPi.nil ?_
                      obtain rfl := Sh.some_inj g_7
                      exact ⟨rfl, rfl⟩
                  intro env
                  refine WpPi.pn 1 rfl trivial ?_
                  refine WpPi.nil ?_
                  obtain rfl := Sh.some_inj g_6
                  exact ⟨rfl, rfl⟩
              intro env
              refine WpPi.nil ?_
              refine WpC.condB rfl (fun hb => ?_) (fun hb => ?_)
              ·
                replace h := Sh.ite_pos hb h
                refine WpC.seqR ?_
                refine WpOps.pn 1 rfl trivial ?_
                refine WpOps.nil ?_
                obtain rfl := Sh.some_inj h
                have e := hd_2 _ rfl
                subst e
                have h := hk_2
                obtain rfl := Sh.some_inj h
                refine WpC.ret ?_
                exact VEnds.ret1 rfl rfl ⟨rfl, hH⟩
              ·
                replace h := Sh.ite_neg hb h
                refine WpC.skipD ?_
                refine ⟨_, Heap.le_refl _, ?_⟩
                refine WpC.regionD ?_
                obtain ⟨c_5, h⟩ := Sh.chk_some h
                refine WpOps.pn 3 rfl c_5 ?_
                refine WpOps.nil ?_
                obtain rfl := Sh.some_inj h
                exact ⟨_, (Heap.le_refl _), (i_1 + (1 : Int)), (), rfl, ⟨rfl, rfl, rfl, rfl, rfl, rfl, trivial⟩, hH⟩
            ·
              replace h := Sh.ite_neg hb h
              obtain rfl := Sh.some_inj h
              have e := hd_2 _ rfl
              subst e
              refine WpC.exit ?_
              exact ⟨((), ()), ⟨rfl, trivial⟩, hk_2, hH⟩
          ·
            rintro ⟨_, _⟩ env H' ⟨h, hH⟩
            try dsimp only at h
            refine ⟨_, Heap.le_refl _, ?_⟩
            refine WpC.seqR ?_
            refine WpOps.pn 2 rfl trivial ?_
            refine WpOps.nil ?_
            obtain rfl := Sh.some_inj h
            refine WpC.ret ?_
            exact VEnds.ret1 rfl rfl ⟨rfl, hH⟩

theorem w_emendlaw13_ChoiceSame {H0 : Heap} (hG : Glob H0) {vars_1 : Int} {text_1 : List UInt8} {many_1 : Int} {r : Bool} (h : emendlaw13_ChoiceSame vars_1 text_1 many_1 = some r) : TCall Tryd.prog 4 [(iA vars_1), (sA text_1), (iA many_1)] H0 (fun v H' => v = (bA r) ∧ H' = H0) noE := by
  refine id (TCall.body Tryd.func4 rfl rfl ?_)
  have hH : Holds H0 [] H0 := rfl
  refine WpC.seqR ?_
  refine WpOps.pn 1 rfl trivial ?_
  refine WpOps.nil ?_
  refine WpC.seqR ?_
  obtain ⟨r_1, hr_1, h⟩ := Sh.bind_some h
  refine WpOps.consE (v := (bA r_1)) rfl rfl (Exact.call rfl rfl rfl (w_emendlaw13_awake (hG.up hH) hr_1)) ?_
  refine WpOps.pn 1 rfl trivial ?_
  refine WpOps.nil ?_
  refine WpC.seqR ?_
  refine WpOps.pn 1 rfl trivial ?_
  have hH := hH.nil 9 1
  refine WpOps.nil ?_
  refine WpC.seq ?_
  refine WpC.seqR ?_
  refine WpOps.pn 1 rfl trivial ?_
  refine WpOps.nil ?_
  refine WpC.blockK (fun x : (List (List UInt8)) × ((Option (Nat × Nat))) => [(0, (iA vars_1)), (2, (iA many_1)), (7, (bA r_1)), (8, (.own (List.map cS x.1).length x.2))]) (fun x H' => (emendlaw13_ChoiceSame_j1 vars_1 many_1 r_1) x.1 = some r ∧ Holds H0 [.own 9 1 x.2 (List.map cS x.1)] H') ?_ ?_
  ·
    obtain ⟨o_1, ho_1, hk_1⟩ := Sh.bind_some h
    refine WpC.loopS (emendlaw13_ChoiceSame_b2 text_1) (fun (s : Int × List (List UInt8)) (a : (Option (Nat × Nat))) => [(0, (iA vars_1)), (1, (sA text_1)), (2, (iA many_1)), (7, (bA r_1)), (8, (.own (List.map cS s.2).length a)), (9, (iA s.1))]) (fun (s : Int × List (List UInt8)) (a : (Option (Nat × Nat))) H' => Holds H0 [.own 9 1 a (List.map cS s.2)] H') o_1 ((0 : Int), ([] : List (List UInt8))) none ho_1 ⟨rfl, rfl, rfl, rfl, rfl, rfl, trivial⟩ hH ?_
    rintro ⟨i_1, texts_1⟩ p_1 st_1 env H' h hd_1 hH
    refine WpC.seq ?_
    refine WpC.seqR ?_
    refine WpOps.pn 2 rfl trivial ?_
    refine WpOps.nil ?_
    refine WpC.condB rfl (fun hb => ?_) (fun hb => ?_)
    ·
      replace h := Sh.ite_pos hb h
      refine WpC.skipD ?_
      refine ⟨_, Heap.le_refl _, ?_⟩
      refine WpC.seq ?_
      refine WpC.block ?_
      refine WpC.regionD ?_
      refine WpOps.pn 2 rfl trivial ?_
      refine WpOps.consE (v := (AV.rows 1 (List.map cS ([text_1] : List (List UInt8))))) rfl rfl (Exact.litSlice rfl (by kernel_rfl)) ?_
      obtain ⟨c_1, h⟩ := Sh.chk_some h
      refine WpOps.consG rfl rfl (WpO.pushT cS texts_1 ([text_1] : List (List UInt8)) (i := 0) rfl ek22 hH rfl rfl rfl (.rows _) (fun y _ => one_cS y) (by simp) c_1 (by decide) fun p_2 H' hH => ?_)
      refine WpOps.pn 1 rfl trivial ?_
      refine WpOps.nil ?_
      refine ⟨_, Heap.le_refl _, ?_⟩
      refine WpC.regionD ?_
      obtain ⟨c_2, h⟩ := Sh.chk_some h
      refine WpOps.pn 3 rfl c_2 ?_
      refine WpOps.nil ?_
      obtain rfl := Sh.some_inj h
      exact ⟨_, (Heap.le_refl _), ((i_1 + (1 : Int)), (texts_1 ++ ([text_1] : List (List UInt8)))), p_2, rfl, ⟨rfl, rfl, rfl, rfl, rfl, rfl, trivial⟩, hH⟩
    ·
      replace h := Sh.ite_neg hb h
      obtain rfl := Sh.some_inj h
      have e := hd_1 _ rfl
      subst e
      refine WpC.exit ?_
      exact ⟨(texts_1, p_1), ⟨rfl, rfl, rfl, rfl, trivial⟩, hk_1, hH⟩
  ·
    rintro ⟨l_1, p_3⟩ env H' ⟨h, hH⟩
    try dsimp only at h
    refine ⟨_, Heap.le_refl _, ?_⟩
    refine WpC.freeze (t := 8) (i := 0) hH rfl rfl (fun H' hH => ?_)
    refine WpC.seqR ?_
    obtain ⟨r_2, hr_2, h⟩ := Sh.bind_some h
    refine WpOps.pn 2 rfl trivial ?_
    refine WpOps.consE (v := (.tup [(AV.rows 1 (List.map (cL 6 cGTok) r_2.1)), (bA r_2.2)])) rfl rfl (Exact.call rfl rfl rfl (w_emendlaw13_lists (hG.up hH) hr_2)) ?_
    refine WpOps.pn 5 rfl trivial ?_
    refine WpOps.nil ?_
    refine WpC.seq ?_
    refine WpC.seqR ?_
    refine WpOps.pn 2 rfl trivial ?_
    obtain ⟨b_1, g_1, h⟩ := Sh.bind_some h
    refine WpOps.cutB 4 41 (bA b_1) rfl ?_ ?_
    ·
      refine WpOps.pn 1 rfl trivial ?_
      refine WpOps.split 38 rfl (fun hb => ?_) (fun hb => ?_)
      ·
        replace g_1 := Sh.ite_pos hb g_1
        refine WpOps.pn 3 rfl trivial ?_
        refine WpOps.nil ?_
        obtain rfl := Sh.some_inj g_1
        exact ⟨rfl, rfl⟩
      ·
        replace g_1 := Sh.ite_neg hb g_1
        refine WpOps.pn 3 rfl trivial ?_
        refine WpOps.nil ?_
        obtain rfl := Sh.some_inj g_1
        exact ⟨rfl, rfl⟩
    intro env
    obtain ⟨b_2, g_2, h⟩ := Sh.bind_some h
    refine WpOps.cutB 4 45 (bA b_2) rfl ?_ ?_
    ·
      refine WpOps.pn 1 rfl trivial ?_
      refine WpOps.split 42 rfl (fun hb => ?_) (fun hb => ?_)
      ·
        replace g_2 := Sh.ite_pos hb g_2
        refine WpOps.pn 3 rfl trivial ?_
        refine WpOps.nil ?_
        obtain rfl := Sh.some_inj g_2
        exact ⟨rfl, rfl⟩
      ·
        replace g_2 := Sh.ite_neg hb g_2
        refine WpOps.pn 3 rfl trivial ?_
        refine WpOps.nil ?_
        obtain rfl := Sh.some_inj g_2
        exact ⟨rfl, rfl⟩
    intro env
    refine WpOps.nil ?_
    refine WpC.condB rfl (fun hb => ?_) (fun hb => ?_)
    ·
      replace h := Sh.ite_pos hb h
      refine WpC.seqR ?_
      refine WpOps.pn 2 rfl trivial ?_
      refine WpOps.nil ?_
      obtain rfl := Sh.some_inj h
      refine WpC.ret ?_
      exact VEnds.ret1 rfl rfl ⟨rfl, hH⟩
    ·
      replace h := Sh.ite_neg hb h
      refine WpC.skipD ?_
      refine ⟨_, Heap.le_refl _, ?_⟩
      refine WpC.seqR ?_
      obtain ⟨c_3, h⟩ := Sh.chk_some h
      refine WpOps.pn 1 rfl trivial ?_
      refine WpOps.consG rfl rfl (WpO.callM (F := fun g => .tup [.lit (.pointer (some ⟨g, 0, none⟩)), iA (0 : Int)]) (p := fun g => arP g (newG (vars_1).toNat)) rfl rfl rfl hH (w_bdd_New c_3) fun g_3 H' hH => ?_)
      refine WpOps.pn 5 rfl trivial ?_
      refine WpOps.nil ?_
      refine WpC.seq ?_
      refine WpC.seqR ?_
      refine WpOps.pn 2 rfl trivial ?_
      refine WpOps.nil ?_
      refine WpC.condF rfl ?_
      refine WpC.skipD ?_
      refine ⟨_, Heap.le_refl _, ?_⟩
      refine WpC.seqR ?_
      obtain ⟨r_3, hr_3, h⟩ := Sh.bind_some h
      refine WpOps.pn 2 rfl trivial ?_
      refine WpOps.consG rfl rfl (WpO.callT (v := (.tup [(AV.rows 7 (List.map cGChoice_CTok r_3.1.1)), (iA r_3.1.2)])) rfl rfl rfl hH (i := 0) rfl (fun H1 hl hh => w_choice_Merge hh hr_3) fun H' hH => ?_)
      refine WpOps.pn 5 rfl trivial ?_
      refine WpOps.nil ?_
      refine WpC.seq ?_
      refine WpC.seqR ?_
      refine WpOps.pn 2 rfl trivial ?_
      obtain ⟨b_3, g_4, h⟩ := Sh.bind_some h
      refine WpOps.cutB 9 70 (bA b_3) rfl ?_ ?_
      ·
        refine WpOps.pn 1 rfl trivial ?_
        refine WpOps.split 62 rfl (fun hb => ?_) (fun hb => ?_)
        ·
          replace g_4 := Sh.ite_pos hb g_4
          refine WpOps.pn 8 rfl trivial ?_
          refine WpOps.nil ?_
          obtain rfl := Sh.some_inj g_4
          exact ⟨rfl, rfl⟩
        ·
          replace g_4 := Sh.ite_neg hb g_4
          refine WpOps.pn 2 rfl trivial ?_
          refine WpOps.at 64 (len_map _ _) ?_
          obtain ⟨y_1, hy_1, g_4⟩ := Sh.bind_some g_4
          refine WpOps.pn 1 rfl trivial ?_
          refine WpOps.consE (v := (.rop ((cL 6 cGTok) y_1))) rfl rfl (Exact.ixr (cL 6 cGTok) hy_1 rfl rfl rfl rfl (by kernel_rfl) (by decide)) ?_
          refine WpOps.consE (v := (AV.rows 6 (List.map cGTok y_1))) rfl rfl (Exact.load_rop rfl rfl rfl) ?_
          refine WpOps.pn 1 rfl trivial ?_
          refine WpOps.at 68 (len_map _ _) ?_
          refine WpOps.pn 2 rfl trivial ?_
          refine WpOps.nil ?_
          obtain rfl := Sh.some_inj g_4
          exact ⟨rfl, rfl⟩
      intro env
      refine WpOps.nil ?_
      refine WpC.condB rfl (fun hb => ?_) (fun hb => ?_)
      ·
        replace h := Sh.ite_pos hb h
        refine WpC.seqR ?_
        refine WpOps.pn 1 rfl trivial ?_
        refine WpOps.nil ?_
        refine WpC.lose (i := 0) hH rfl (fun H' hH => ?_)
        obtain rfl := Sh.some_inj h
        refine WpC.ret ?_
        exact VEnds.ret1 rfl rfl ⟨rfl, hH⟩
      ·
        replace h := Sh.ite_neg hb h
        refine WpC.skipD ?_
        refine ⟨_, Heap.le_refl _, ?_⟩
        refine WpC.seq ?_
        refine WpC.seqR ?_
        refine WpOps.pn 1 rfl trivial ?_
        refine WpOps.nil ?_
        refine WpC.blockK (fun x : (Unit) × (Unit) => [(2, (iA many_1)), (7, (bA r_1)), (10, (AV.rows 1 (List.map (cL 6 cGTok) r_2.1))), (12, (.lit (.pointer (some ⟨g_3, 0, none⟩))))]) (fun x H' => (emendlaw13_ChoiceSame_j3 many_1 r_1 r_2 r_3) x.1 = some r ∧ Holds H0 [.many (arP g_3 r_3.2)] H') ?_ ?_
        ·
          obtain ⟨o_2, ho_2, hk_2⟩ := Sh.bind_some h
          refine WpC.loopS (emendlaw13_ChoiceSame_b4 r_2 r_3) (fun (s : Int) (a : Unit) => [(2, (iA many_1)), (7, (bA r_1)), (10, (AV.rows 1 (List.map (cL 6 cGTok) r_2.1))), (12, (.lit (.pointer (some ⟨g_3, 0, none⟩)))), (14, (AV.rows 7 (List.map cGChoice_CTok r_3.1.1))), (16, (iA s))]) (fun (s : Int) (a : Unit) H' => Holds H0 [.many (arP g_3 r_3.2)] H') o_2 (0 : Int) () ho_2 ⟨rfl, rfl, rfl, rfl, rfl, rfl, trivial⟩ hH ?_
          rintro i_2 _ st_2 env H' h hd_2 hH
          refine WpC.seq ?_
          refine WpC.seqR ?_
          refine WpOps.pn 3 rfl trivial ?_
          refine WpOps.at 73 (len_map _ _) ?_
          refine WpOps.pn 1 rfl trivial ?_
          refine WpOps.nil ?_
          refine WpC.condB rfl (fun hb => ?_) (fun hb => ?_)
          ·
            replace h := Sh.ite_pos hb h
            refine WpC.skipD ?_
            refine ⟨_, Heap.le_refl _, ?_⟩
            refine WpC.seq ?_
            refine WpC.block ?_
            refine WpC.seqD [] [0, 1, 2, 3, 4, 5, 6, 7, 8, 9, 10, 11, 12, 13, 14, 15, 16, 17, 18, 19] (by kernel_rfl) (by kernel_rfl) ?_
            obtain ⟨y_2, hy_2, h⟩ := Sh.bind_some h
            refine WpPi.pn 2 rfl trivial ?_
            refine WpPi.consI (v := (.rop (cGChoice_CTok y_2))) rfl rfl rfl rfl (fun _ => Exact.ixr cGChoice_CTok hy_2 rfl rfl rfl rfl (by kernel_rfl) (by decide)) ?_
            refine WpPi.pn 1 rfl trivial ?_
            refine WpPi.consI (v := (iA y_2.cond)) rfl rfl rfl rfl (fun _ => Exact.load_rop rfl rfl rfl) ?_
            refine WpPi.pn 1 rfl trivial ?_
            obtain ⟨b_4, g_5, h⟩ := Sh.bind_some h
            refine WpPi.cutB 14 96 (bA b_4) rfl ?_ ?_
            ·
              refine WpPi.pn 1 rfl trivial ?_
              refine WpPi.split 83 rfl (fun hb => ?_) (fun hb => ?_)
              ·
                replace g_5 := Sh.ite_pos hb g_5
                refine WpPi.pn 2 rfl trivial ?_
                refine WpPi.skip rfl rfl rfl ?_
                refine WpPi.pn 1 rfl trivial ?_
                refine WpPi.skip rfl rfl rfl ?_
                refine WpPi.pn 1 rfl trivial ?_
                refine WpPi.skip rfl rfl rfl ?_
                refine WpPi.skip rfl rfl rfl ?_
                refine WpPi.pn 1 rfl trivial ?_
                refine WpPi.skip rfl rfl rfl ?_
                refine WpPi.skip rfl rfl rfl ?_
                refine WpPi.pn 2 rfl trivial ?_
                refine WpPi.nil ?_
                obtain rfl := Sh.some_inj g_5
                exact ⟨rfl, rfl⟩
              ·
                replace g_5 := Sh.ite_neg hb g_5
                obtain ⟨y_3, hy_3, g_5⟩ := Sh.bind_some g_5
                refine WpPi.pn 2 rfl trivial ?_
                refine WpPi.consI (v := (.rop (cGChoice_CTok y_3))) rfl rfl rfl rfl (fun _ => Exact.ixr cGChoice_CTok hy_3 rfl rfl rfl rfl (by kernel_rfl) (by decide)) ?_
                refine WpPi.pn 1 rfl trivial ?_
                refine WpPi.consI (v := (AV.agg (cGTok y_3.t))) rfl rfl rfl rfl (fun _ => Exact.load_rop rfl rfl rfl) ?_
                obtain ⟨y_4, hy_4, g_5⟩ := Sh.bind_some g_5
                refine WpPi.pn 1 rfl trivial ?_
                refine WpPi.consI (v := (.rop ((cL 6 cGTok) y_4))) rfl rfl rfl rfl (fun _ => Exact.ixr (cL 6 cGTok) hy_4 rfl rfl rfl rfl (by kernel_rfl) (by decide)) ?_
                refine WpPi.consI (v := (AV.rows 6 (List.map cGTok y_4))) rfl rfl rfl rfl (fun _ => Exact.load_rop rfl rfl rfl) ?_
                obtain ⟨y_5, hy_5, g_5⟩ := Sh.bind_some g_5
                refine WpPi.pn 1 rfl trivial ?_
                refine WpPi.consI (v := (.rop (cGTok y_5))) rfl rfl rfl rfl (fun _ => Exact.ixr cGTok hy_5 rfl rfl rfl rfl (by kernel_rfl) (by decide)) ?_
                refine WpPi.consI (v := (AV.agg (cGTok y_5))) rfl rfl rfl rfl (fun _ => Exact.load_rop rfl rfl rfl) ?_
                refine WpPi.consI (v := (bA (!decide (y_3.t = y_5)))) rfl rfl rfl rfl (fun _ => Exact.neqStruct rfl rfl rfl (eqL_GTok y_3.t y_5) (by kernel_rfl) rfl (by kernel_rfl)) ?_
                refine WpPi.pn 1 rfl trivial ?_
                refine WpPi.nil ?_
                obtain rfl := Sh.some_inj g_5
                exact ⟨rfl, rfl⟩
            intro env
            refine WpPi.nil ?_
            refine WpC.condB rfl (fun hb => ?_) (fun hb => ?_)
            ·
              replace h := Sh.ite_pos hb h
              refine WpC.seqR ?_
              refine WpOps.pn 1 rfl trivial ?_
              refine WpOps.nil ?_
              refine WpC.lose (i := 0) hH rfl (fun H' hH => ?_)
              obtain rfl := Sh.some_inj h
              have e := hd_2 _ rfl
              subst e
              have h := hk_2
              obtain rfl := Sh.some_inj h
              refine WpC.ret ?_
              exact VEnds.ret1 rfl rfl ⟨rfl, hH⟩
            ·
              replace h := Sh.ite_neg hb h
              refine WpC.skipD ?_
              refine ⟨_, Heap.le_refl _, ?_⟩
              refine WpC.regionD ?_
              obtain ⟨c_4, h⟩ := Sh.chk_some h
              refine WpOps.pn 3 rfl c_4 ?_
              refine WpOps.nil ?_
              obtain rfl := Sh.some_inj h
              exact ⟨_, (Heap.le_refl _), (i_2 + (1 : Int)), (), rfl, ⟨rfl, rfl, rfl, rfl, rfl, rfl, trivial⟩, hH⟩
          ·
            replace h := Sh.ite_neg hb h
            obtain rfl := Sh.some_inj h
            have e := hd_2 _ rfl
            subst e
            refine WpC.exit ?_
            exact ⟨((), ()), ⟨rfl, rfl, rfl, rfl, trivial⟩, hk_2, hH⟩
        ·
          rintro ⟨_, _⟩ env H' ⟨h, hH⟩
          try dsimp only at h
          refine ⟨_, Heap.le_refl _, ?_⟩
          refine WpC.seqR ?_
          refine WpOps.pn 1 rfl trivial ?_
          have hH := hH.nil 35 1
          refine WpOps.nil ?_
          refine WpC.seq ?_
          refine WpC.seqR ?_
          refine WpOps.pn 1 rfl trivial ?_
          refine WpOps.nil ?_
          refine WpC.blockK (fun x : (List (List GTok)) × ((Option (Nat × Nat))) => [(2, (iA many_1)), (7, (bA r_1)), (10, (AV.rows 1 (List.map (cL 6 cGTok) r_2.1))), (12, (.lit (.pointer (some ⟨g_3, 0, none⟩)))), (17, (.own (List.map (cL 6 cGTok) x.1).length x.2))]) (fun x H' => (emendlaw13_ChoiceSame_j5 many_1 r_1 r_2 r_3) x.1 = some r ∧ Holds H0 [.own 35 1 x.2 (List.map (cL 6 cGTok) x.1), .many (arP g_3 r_3.2)] H') ?_ ?_
          ·
            obtain ⟨o_3, ho_3, hk_3⟩ := Sh.bind_some h
            refine WpC.loopS (emendlaw13_ChoiceSame_b6 many_1 r_2) (fun (s : Int × List (List GTok)) (a : (Option (Nat × Nat))) => [(2, (iA many_1)), (7, (bA r_1)), (10, (AV.rows 1 (List.map (cL 6 cGTok) r_2.1))), (12, (.lit (.pointer (some ⟨g_3, 0, none⟩)))), (17, (.own (List.map (cL 6 cGTok) s.2).length a)), (18, (iA s.1))]) (fun (s : Int × List (List GTok)) (a : (Option (Nat × Nat))) H' => Holds H0 [.own 35 1 a (List.map (cL 6 cGTok) s.2), .many (arP g_3 r_3.2)] H') o_3 ((0 : Int), ([] : List (List GTok))) none ho_3 ⟨rfl, rfl, rfl, rfl, rfl, rfl, trivial⟩ hH ?_
            rintro ⟨i_3, other_1⟩ p_4 st_3 env H' h hd_3 hH
            refine WpC.seq ?_
            refine WpC.seqR ?_
            refine WpOps.pn 3 rfl trivial ?_
            refine WpOps.nil ?_
            refine WpC.condB rfl (fun hb => ?_) (fun hb => ?_)
            ·
              replace h := Sh.ite_pos hb h
              refine WpC.skipD ?_
              refine ⟨_, Heap.le_refl _, ?_⟩
              refine WpC.seq ?_
              refine WpC.block ?_
              refine WpC.regionD ?_
              obtain ⟨y_6, hy_6, h⟩ := Sh.bind_some h
              refine WpOps.pn 2 rfl trivial ?_
              refine WpOps.consE (v := (.rop ((cL 6 cGTok) y_6))) rfl rfl (Exact.ixr (cL 6 cGTok) hy_6 rfl rfl rfl rfl (by kernel_rfl) (by decide)) ?_
              refine WpOps.consE (v := (AV.rows 6 (List.map cGTok y_6))) rfl rfl (Exact.load_rop rfl rfl rfl) ?_
              refine WpOps.consE (v := (AV.rows 1 (List.map (cL 6 cGTok) ([y_6] : List (List GTok))))) rfl rfl (Exact.litSlice rfl (by kernel_rfl)) ?_
              obtain ⟨c_5, h⟩ := Sh.chk_some h
              refine WpOps.consG rfl rfl (WpO.pushT (cL 6 cGTok) other_1 ([y_6] : List (List GTok)) (i := 0) rfl ek24 hH rfl rfl rfl (.rows _) (fun y _ => (one_cL _ _) y) (by simp) c_5 (by decide) fun p_5 H' hH => ?_)
              refine WpOps.pn 1 rfl trivial ?_
              refine WpOps.nil ?_
              refine ⟨_, Heap.le_refl _, ?_⟩
              refine WpC.regionD ?_
              obtain ⟨c_6, h⟩ := Sh.chk_some h
              refine WpOps.pn 3 rfl c_6 ?_
              refine WpOps.nil ?_
              obtain rfl := Sh.some_inj h
              exact ⟨_, (Heap.le_refl _), ((i_3 + (1 : Int)), (other_1 ++ ([y_6] : List (List GTok)))), p_5, rfl, ⟨rfl, rfl, rfl, rfl, rfl, rfl, trivial⟩, hH⟩
            ·
              replace h := Sh.ite_neg hb h
              obtain rfl := Sh.some_inj h
              have e := hd_3 _ rfl
              subst e
              refine WpC.exit ?_
              exact ⟨(other_1, p_4), ⟨rfl, rfl, rfl, rfl, rfl, trivial⟩, hk_3, hH⟩
          ·
            rintro ⟨other_2, p_6⟩ env H' ⟨h, hH⟩
            try dsimp only at h
            refine ⟨_, Heap.le_refl _, ?_⟩
            refine WpC.freeze (t := 17) (i := 0) hH rfl rfl (fun H' hH => ?_)
            refine WpC.seqR ?_
            obtain ⟨r_4, hr_4, h⟩ := Sh.bind_some h
            refine WpOps.pn 2 rfl trivial ?_
            refine WpOps.consG rfl rfl (WpO.callT (v := (.tup [(AV.rows 7 (List.map cGChoice_CTok r_4.1.1)), (iA r_4.1.2)])) rfl rfl rfl hH (i := 0) rfl (fun H1 hl hh => w_choice_Merge hh hr_4) fun H' hH => ?_)
            refine WpOps.pn 5 rfl trivial ?_
            refine WpOps.nil ?_
            refine WpC.seqR ?_
            refine WpOps.pn 1 rfl trivial ?_
            obtain ⟨b_5, g_6, h⟩ := Sh.bind_some h
            refine WpOps.cutB 9 123 (bA b_5) rfl ?_ ?_
            ·
              refine WpOps.pn 1 rfl trivial ?_
              refine WpOps.split 115 rfl (fun hb => ?_) (fun hb => ?_)
              ·
                replace g_6 := Sh.ite_pos hb g_6
                refine WpOps.pn 5 rfl trivial ?_
                refine WpOps.at 120 (len_map _ _) ?_
                refine WpOps.pn 3 rfl trivial ?_
                refine WpOps.nil ?_
                obtain rfl := Sh.some_inj g_6
                exact ⟨rfl, rfl⟩
              ·
                replace g_6 := Sh.ite_neg hb g_6
                refine WpOps.pn 8 rfl trivial ?_
                refine WpOps.nil ?_
                obtain rfl := Sh.some_inj g_6
                exact ⟨rfl, rfl⟩
            intro env
            obtain ⟨b_6, g_7, h⟩ := Sh.bind_some h
            refine WpOps.cutB 13 136 (bA b_6) rfl ?_ ?_
            ·
              refine WpOps.pn 1 rfl trivial ?_
              refine WpOps.split 124 rfl (fun hb => ?_) (fun hb => ?_)
              ·
                replace g_7 := Sh.ite_pos hb g_7
                refine WpOps.pn 2 rfl trivial ?_
                obtain ⟨b_7, g_8, g_7⟩ := Sh.bind_some g_7
                refine WpOps.cutB 9 135 (bA b_7) rfl ?_ ?_
                ·
                  refine WpOps.pn 1 rfl trivial ?_
                  refine WpOps.split 127 rfl (fun hb => ?_) (fun hb => ?_)
                  ·
                    replace g_8 := Sh.ite_pos hb g_8
                    refine WpOps.pn 8 rfl trivial ?_
                    refine WpOps.nil ?_
                    obtain rfl := Sh.some_inj g_8
                    exact ⟨rfl, rfl⟩
                  ·
                    replace g_8 := Sh.ite_neg hb g_8
                    refine WpOps.pn 2 rfl trivial ?_
                    obtain ⟨b_8, g_9, g_8⟩ := Sh.bind_some g_8
                    refine WpOps.cutB 5 134 (bA b_8) rfl ?_ ?_
                    ·
                      refine WpOps.pn 1 rfl trivial ?_
                      refine WpOps.split 130 rfl (fun hb => ?_) (fun hb => ?_)
                      ·
                        replace g_9 := Sh.ite_pos hb g_9
                        refine WpOps.pn 2 rfl trivial ?_
                        refine WpOps.at 132 (len_map _ _) ?_
                        refine WpOps.pn 2 rfl trivial ?_
                        refine WpOps.nil ?_
                        obtain rfl := Sh.some_inj g_9
                        exact ⟨rfl, rfl⟩
                      ·
                        replace g_9 := Sh.ite_neg hb g_9
                        refine WpOps.pn 4 rfl trivial ?_
                        refine WpOps.nil ?_
                        obtain rfl := Sh.some_inj g_9
                        exact ⟨rfl, rfl⟩
                    intro env
                    refine WpOps.pn 1 rfl trivial ?_
                    refine WpOps.nil ?_
                    obtain rfl := Sh.some_inj g_8
                    exact ⟨rfl, rfl⟩
                intro env
                refine WpOps.pn 1 rfl trivial ?_
                refine WpOps.nil ?_
                obtain rfl := Sh.some_inj g_7
                exact ⟨rfl, rfl⟩
              ·
                replace g_7 := Sh.ite_neg hb g_7
                refine WpOps.pn 12 rfl trivial ?_
                refine WpOps.nil ?_
                obtain rfl := Sh.some_inj g_7
                exact ⟨rfl, rfl⟩
            intro env
            refine WpOps.pn 1 rfl trivial ?_
            refine WpOps.nil ?_
            refine WpC.lose (i := 0) hH rfl (fun H' hH => ?_)
            obtain rfl := Sh.some_inj h
            refine WpC.ret ?_
            exact VEnds.ret1 rfl rfl ⟨rfl, hH⟩

theorem w_choice_Keep {H0 H : Heap} {g_1 : Nat} {a_1 : GArena} {l_1 : List GChoice_CTok} {n_1 : Int} (hH : Holds H0 [.many (arP g_1 a_1)] H) {r : (List GChoice_CTok) × GArena} (h : choice_Keep a_1 l_1 n_1 = some r) : TCall Tryd.prog 20 [(.lit (.pointer (some ⟨g_1, 0, none⟩))), (AV.rows 7 (List.map cGChoice_CTok l_1)), (iA n_1)] H (fun v H' => v = (AV.rows 7 (List.map cGChoice_CTok r.1)) ∧ Holds H0 [.many (arP g_1 r.2)] H') noE := by
  refine TCall.body Tryd.func20 rfl rfl ?_
  refine WpC.seqR ?_
  refine WpOps.pn 1 rfl trivial ?_
  refine WpOps.nil ?_
  refine WpC.seqR ?_
  refine WpOps.pn 1 rfl trivial ?_
  have hH := hH.nil 43 7
  refine WpOps.nil ?_
  refine WpC.seq ?_
  refine WpC.seqR ?_
  refine WpOps.pn 2 rfl trivial ?_
  refine WpOps.at 13 (len_map _ _) ?_
  refine WpOps.pn 1 rfl trivial ?_
  refine WpOps.nil ?_
  refine WpC.blockK (fun x : (List GChoice_CTok × GArena) × ((Option (Nat × Nat))) => [(7, (.own (List.map cGChoice_CTok x.1.1).length x.2))]) (fun x H' => choice_Keep_j1 x.1 = some r ∧ Holds H0 [.own 43 7 x.2 (List.map cGChoice_CTok x.1.1), .many (arP g_1 x.1.2)] H') ?_ ?_
  ·
    obtain ⟨o_1, ho_1, hk_1⟩ := Sh.bind_some h
    refine WpC.loopS (choice_Keep_b2 l_1 n_1) (fun (s : Int × List GChoice_CTok × GArena) (a : (Option (Nat × Nat))) => [(0, (.lit (.pointer (some ⟨g_1, 0, none⟩)))), (2, (iA n_1)), (7, (.own (List.map cGChoice_CTok s.2.1).length a)), (12, (AV.rows 7 (List.map cGChoice_CTok l_1))), (13, (iA (l_1.length : Int))), (14, (iA s.1))]) (fun (s : Int × List GChoice_CTok × GArena) (a : (Option (Nat × Nat))) H' => Holds H0 [.own 43 7 a (List.map cGChoice_CTok s.2.1), .many (arP g_1 s.2.2)] H') o_1 ((0 : Int), ([] : List GChoice_CTok), a_1) none ho_1 ⟨rfl, rfl, rfl, rfl, rfl, rfl, trivial⟩ hH ?_
    rintro ⟨t14_1, out_1, a_2⟩ p_1 st_1 env H' h hd_1 hH
    refine WpC.seqR ?_
    refine WpOps.pn 1 rfl trivial ?_
    refine WpOps.nil ?_
    refine WpC.seq ?_
    refine WpC.condB rfl (fun hb => ?_) (fun hb => ?_)
    ·
      replace h := Sh.ite_pos hb h
      refine WpC.skipD ?_
      refine ⟨_, Heap.le_refl _, ?_⟩
      refine WpC.seq ?_
      refine WpC.block ?_
      refine WpC.seqR ?_
      obtain ⟨y_1, hy_1, h⟩ := Sh.bind_some h
      refine WpOps.consE (v := (.rop (cGChoice_CTok y_1))) rfl rfl (Exact.ixr cGChoice_CTok hy_1 rfl rfl rfl rfl (by kernel_rfl) (by decide)) ?_
      refine WpOps.consE (v := (AV.agg (cGChoice_CTok y_1))) rfl rfl (Exact.load_rop rfl rfl rfl) ?_
      refine WpOps.consG rfl rfl (WpO.allocT (z := cGChoice_CTok (GChoice_CTok.mk (GTok.mk (0 : Int) ([] : List UInt8) (0 : Int) (0 : Int) (0 : Int) false) (0 : Int))) rfl rfl hH fun g_2 H' hH => ?_)
      refine WpOps.consG rfl rfl (WpO.putT (cs' := (cGChoice_CTok y_1)) (v := (AV.agg (cGChoice_CTok y_1))) rfl rfl hH (i := 0) rfl rfl rfl rfl rfl rfl rfl fun H' hH => ?_)
      refine WpOps.nil ?_
      refine WpC.seqR ?_
      refine WpOps.pn 2 rfl trivial ?_
      refine WpOps.consE (v := (iA y_1.cond)) rfl rfl (Exact.load rfl rfl (hH.cell (i := 0) rfl) rfl rfl) ?_
      obtain ⟨r_1, hr_1, h⟩ := Sh.bind_some h
      refine WpOps.pn 1 rfl trivial ?_
      refine WpOps.consG rfl rfl (WpO.callT (v := (.tup [(iA r_1.1.1), (iA r_1.1.2)])) rfl rfl rfl hH (i := 2) rfl (fun H1 hl hh => w_bdd_And hh hr_1) fun H' hH => ?_)
      refine WpOps.pn 5 rfl trivial ?_
      refine WpOps.nil ?_
      refine WpC.seqR ?_
      refine WpOps.pn 2 rfl trivial ?_
      refine WpOps.nil ?_
      refine WpC.condB rfl (fun hb => ?_) (fun hb => ?_)
      ·
        replace h := Sh.ite_pos hb h
        refine WpC.regionD ?_
        refine WpOps.pn 2 rfl trivial ?_
        refine WpOps.consE (v := (AV.agg (cGTok y_1.t))) rfl rfl (Exact.load rfl rfl (hH.cell (i := 0) rfl) rfl rfl) ?_
        refine WpOps.pn 2 rfl trivial ?_
        refine WpOps.consE (v := (AV.rows 7 (List.map cGChoice_CTok ([(GChoice_CTok.mk y_1.t r_1.1.1)] : List GChoice_CTok)))) rfl rfl (Exact.litSlice rfl (by kernel_rfl)) ?_
        obtain ⟨c_1, h⟩ := Sh.chk_some h
        refine WpOps.consG rfl rfl (WpO.pushT cGChoice_CTok out_1 ([(GChoice_CTok.mk y_1.t r_1.1.1)] : List GChoice_CTok) (i := 1) rfl ek31 hH rfl rfl rfl (.rows _) (fun y _ => one_cGChoice_CTok y) (by simp) c_1 (by decide) fun p_2 H' hH => ?_)
        refine WpOps.pn 1 rfl trivial ?_
        refine WpOps.nil ?_
        refine ⟨_, Heap.le_refl _, ?_⟩
        refine WpC.regionD ?_
        obtain ⟨c_2, h⟩ := Sh.chk_some h
        refine WpOps.pn 2 rfl c_2 ?_
        refine WpOps.nil ?_
        obtain ⟨_, hle_1, hH⟩ := hH.lose_ (i := 0) rfl
        obtain rfl := Sh.some_inj h
        exact ⟨_, hle_1, ((t14_1 + (1 : Int)), (out_1 ++ ([(GChoice_CTok.mk y_1.t r_1.1.1)] : List GChoice_CTok)), r_1.2), p_2, rfl, ⟨rfl, rfl, rfl, rfl, rfl, rfl, trivial⟩, hH⟩
      ·
        replace h := Sh.ite_neg hb h
        refine WpC.skipD ?_
        refine ⟨_, Heap.le_refl _, ?_⟩
        refine WpC.regionD ?_
        obtain ⟨c_3, h⟩ := Sh.chk_some h
        refine WpOps.pn 2 rfl c_3 ?_
        refine WpOps.nil ?_
        obtain ⟨_, hle_2, hH⟩ := hH.lose_ (i := 0) rfl
        obtain rfl := Sh.some_inj h
        exact ⟨_, hle_2, ((t14_1 + (1 : Int)), out_1, r_1.2), p_1, rfl, ⟨rfl, rfl, rfl, rfl, rfl, rfl, trivial⟩, hH⟩
    ·
      replace h := Sh.ite_neg hb h
      obtain rfl := Sh.some_inj h
      have e := hd_1 _ rfl
      subst e
      refine WpC.exit ?_
      exact ⟨((out_1, a_2), p_1), ⟨rfl, trivial⟩, hk_1, hH⟩
  ·
    rintro ⟨⟨out_2, a_3⟩, p_3⟩ env H' ⟨h, hH⟩
    try dsimp only at h
    refine ⟨_, Heap.le_refl _, ?_⟩
    refine WpC.seqR ?_
    refine WpOps.pn 2 rfl trivial ?_
    refine WpOps.nil ?_
    refine WpC.freeze (t := 6) (i := 0) hH rfl rfl (fun H' hH => ?_)
    obtain rfl := Sh.some_inj h
    refine WpC.ret ?_
    exact VEnds.ret1 rfl rfl ⟨rfl, hH⟩

theorem w_emendlaw13_ChoiceKeeps {H0 : Heap} (hG : Glob H0) {vars_1 : Int} {texts_1 : List (List UInt8)} {i_1 : Int} {k_1 : Int} {both_1 : Bool} {r : Bool} (h : emendlaw13_ChoiceKeeps vars_1 texts_1 i_1 k_1 both_1 = some r) : TCall Tryd.prog 5 [(iA vars_1), (AV.rows 1 (List.map cS texts_1)), (iA i_1), (iA k_1), (bA both_1)] H0 (fun v H' => v = (bA r) ∧ H' = H0) noE := by
  refine id (TCall.body Tryd.func5 rfl rfl ?_)
  have hH : Holds H0 [] H0 := rfl
  refine WpC.seqR ?_
  refine WpOps.pn 1 rfl trivial ?_
  refine WpOps.nil ?_
  refine WpC.seqR ?_
  obtain ⟨r_1, hr_1, h⟩ := Sh.bind_some h
  refine WpOps.consE (v := (bA r_1)) rfl rfl (Exact.call rfl rfl rfl (w_emendlaw13_awake (hG.up hH) hr_1)) ?_
  refine WpOps.pn 1 rfl trivial ?_
  refine WpOps.nil ?_
  refine WpC.seqR ?_
  obtain ⟨r_2, hr_2, h⟩ := Sh.bind_some h
  refine WpOps.pn 2 rfl trivial ?_
  refine WpOps.consE (v := (.tup [(AV.rows 1 (List.map (cL 6 cGTok) r_2.1)), (bA r_2.2)])) rfl rfl (Exact.call rfl rfl rfl (w_emendlaw13_lists (hG.up hH) hr_2)) ?_
  refine WpOps.pn 5 rfl trivial ?_
  refine WpOps.nil ?_
  refine WpC.seq ?_
  refine WpC.seqR ?_
  refine WpOps.pn 2 rfl trivial ?_
  obtain ⟨b_1, g_1, h⟩ := Sh.bind_some h
  refine WpOps.cutB 4 43 (bA b_1) rfl ?_ ?_
  ·
    refine WpOps.pn 1 rfl trivial ?_
    refine WpOps.split 40 rfl (fun hb => ?_) (fun hb => ?_)
    ·
      replace g_1 := Sh.ite_pos hb g_1
      refine WpOps.pn 3 rfl trivial ?_
      refine WpOps.nil ?_
      obtain rfl := Sh.some_inj g_1
      exact ⟨rfl, rfl⟩
    ·
      replace g_1 := Sh.ite_neg hb g_1
      refine WpOps.pn 3 rfl trivial ?_
      refine WpOps.nil ?_
      obtain rfl := Sh.some_inj g_1
      exact ⟨rfl, rfl⟩
  intro env
  obtain ⟨b_2, g_2, h⟩ := Sh.bind_some h
  refine WpOps.cutB 4 47 (bA b_2) rfl ?_ ?_
  ·
    refine WpOps.pn 1 rfl trivial ?_
    refine WpOps.split 44 rfl (fun hb => ?_) (fun hb => ?_)
    ·
      replace g_2 := Sh.ite_pos hb g_2
      refine WpOps.pn 3 rfl trivial ?_
      refine WpOps.nil ?_
      obtain rfl := Sh.some_inj g_2
      exact ⟨rfl, rfl⟩
    ·
      replace g_2 := Sh.ite_neg hb g_2
      refine WpOps.pn 3 rfl trivial ?_
      refine WpOps.nil ?_
      obtain rfl := Sh.some_inj g_2
      exact ⟨rfl, rfl⟩
  intro env
  obtain ⟨b_3, g_3, h⟩ := Sh.bind_some h
  refine WpOps.cutB 5 52 (bA b_3) rfl ?_ ?_
  ·
    refine WpOps.pn 1 rfl trivial ?_
    refine WpOps.split 48 rfl (fun hb => ?_) (fun hb => ?_)
    ·
      replace g_3 := Sh.ite_pos hb g_3
      refine WpOps.pn 4 rfl trivial ?_
      refine WpOps.nil ?_
      obtain rfl := Sh.some_inj g_3
      exact ⟨rfl, rfl⟩
    ·
      replace g_3 := Sh.ite_neg hb g_3
      refine WpOps.pn 4 rfl trivial ?_
      refine WpOps.nil ?_
      obtain rfl := Sh.some_inj g_3
      exact ⟨rfl, rfl⟩
  intro env
  obtain ⟨b_4, g_4, h⟩ := Sh.bind_some h
  refine WpOps.cutB 5 57 (bA b_4) rfl ?_ ?_
  ·
    refine WpOps.pn 1 rfl trivial ?_
    refine WpOps.split 53 rfl (fun hb => ?_) (fun hb => ?_)
    ·
      replace g_4 := Sh.ite_pos hb g_4
      refine WpOps.pn 4 rfl trivial ?_
      refine WpOps.nil ?_
      obtain rfl := Sh.some_inj g_4
      exact ⟨rfl, rfl⟩
    ·
      replace g_4 := Sh.ite_neg hb g_4
      refine WpOps.pn 4 rfl trivial ?_
      refine WpOps.nil ?_
      obtain rfl := Sh.some_inj g_4
      exact ⟨rfl, rfl⟩
  intro env
  refine WpOps.nil ?_
  refine WpC.condB rfl (fun hb => ?_) (fun hb => ?_)
  ·
    replace h := Sh.ite_pos hb h
    refine WpC.seqR ?_
    refine WpOps.pn 2 rfl trivial ?_
    refine WpOps.nil ?_
    obtain rfl := Sh.some_inj h
    refine WpC.ret ?_
    exact VEnds.ret1 rfl rfl ⟨rfl, hH⟩
  ·
    replace h := Sh.ite_neg hb h
    refine WpC.skipD ?_
    refine ⟨_, Heap.le_refl _, ?_⟩
    refine WpC.seqR ?_
    obtain ⟨c_1, h⟩ := Sh.chk_some h
    refine WpOps.pn 1 rfl trivial ?_
    refine WpOps.consG rfl rfl (WpO.callM (F := fun g => .tup [.lit (.pointer (some ⟨g, 0, none⟩)), iA (0 : Int)]) (p := fun g => arP g (newG (vars_1).toNat)) rfl rfl rfl hH (w_bdd_New c_1) fun g_5 H' hH => ?_)
    refine WpOps.pn 5 rfl trivial ?_
    refine WpOps.nil ?_
    refine WpC.seq ?_
    refine WpC.seqR ?_
    refine WpOps.pn 2 rfl trivial ?_
    refine WpOps.nil ?_
    refine WpC.condF rfl ?_
    refine WpC.skipD ?_
    refine ⟨_, Heap.le_refl _, ?_⟩
    refine WpC.seqR ?_
    obtain ⟨r_3, hr_3, h⟩ := Sh.bind_some h
    refine WpOps.pn 2 rfl trivial ?_
    refine WpOps.consG rfl rfl (WpO.callT (v := (.tup [(iA r_3.1.1), (iA r_3.1.2)])) rfl rfl rfl hH (i := 0) rfl (fun H1 hl hh => w_bdd_Var hh hr_3) fun H' hH => ?_)
    refine WpOps.pn 5 rfl trivial ?_
    refine WpOps.nil ?_
    refine WpC.seqR ?_
    obtain ⟨r_4, hr_4, h⟩ := Sh.bind_some h
    refine WpOps.pn 2 rfl trivial ?_
    refine WpOps.consG rfl rfl (WpO.callT (v := (.tup [(iA r_4.1.1), (iA r_4.1.2)])) rfl rfl rfl hH (i := 0) rfl (fun H1 hl hh => w_bdd_Var hh hr_4) fun H' hH => ?_)
    refine WpOps.pn 5 rfl trivial ?_
    refine WpOps.nil ?_
    refine WpC.seqR ?_
    obtain ⟨r_5, hr_5, h⟩ := Sh.bind_some h
    refine WpOps.pn 3 rfl trivial ?_
    refine WpOps.consG rfl rfl (WpO.callT (v := (.tup [(iA r_5.1.1), (iA r_5.1.2)])) rfl rfl rfl hH (i := 0) rfl (fun H1 hl hh => w_bdd_Or hh hr_5) fun H' hH => ?_)
    refine WpOps.pn 5 rfl trivial ?_
    refine WpOps.nil ?_
    refine WpC.seqK (fun x : (Int × GArena) × (Unit) => [(2, (iA i_1)), (3, (iA k_1)), (4, (bA both_1)), (11, (bA r_1)), (12, (AV.rows 1 (List.map (cL 6 cGTok) r_2.1))), (14, (.lit (.pointer (some ⟨g_5, 0, none⟩)))), (20, (iA x.1.1))]) (fun x H' => (emendlaw13_ChoiceKeeps_j1 i_1 k_1 both_1 r_1 r_2) x.1 = some r ∧ Holds H0 [.many (arP g_5 x.1.2)] H') ?_ ?_
    ·
      refine WpC.seqR ?_
      refine WpOps.pn 1 rfl trivial ?_
      refine WpOps.nil ?_
      refine WpC.condB rfl (fun hb => ?_) (fun hb => ?_)
      ·
        replace h := Sh.ite_pos hb h
        refine WpC.regionD ?_
        obtain ⟨r_6, hr_6, h⟩ := Sh.bind_some h
        refine WpOps.pn 3 rfl trivial ?_
        refine WpOps.consG rfl rfl (WpO.callT (v := (.tup [(iA r_6.1.1), (iA r_6.1.2)])) rfl rfl rfl hH (i := 0) rfl (fun H1 hl hh => w_bdd_And hh hr_6) fun H' hH => ?_)
        refine WpOps.pn 4 rfl trivial ?_
        refine WpOps.nil ?_
        exact ⟨_, (Heap.le_refl _), ((r_6.1.1, r_6.2), ()), ⟨rfl, rfl, rfl, rfl, rfl, rfl, rfl, trivial⟩, h, hH⟩
      ·
        replace h := Sh.ite_neg hb h
        refine WpC.skipD ?_
        exact ⟨_, (Heap.le_refl _), ((r_5.1.1, r_5.2), ()), ⟨rfl, rfl, rfl, rfl, rfl, rfl, rfl, trivial⟩, h, hH⟩
    ·
      rintro ⟨⟨n_1, a_1⟩, _⟩ env H' ⟨h, hH⟩
      try dsimp only at h
      refine WpC.seqR ?_
      obtain ⟨r_7, hr_7, h⟩ := Sh.bind_some h
      refine WpOps.pn 2 rfl trivial ?_
      refine WpOps.consG rfl rfl (WpO.callT (v := (.tup [(AV.rows 7 (List.map cGChoice_CTok r_7.1.1)), (iA r_7.1.2)])) rfl rfl rfl hH (i := 0) rfl (fun H1 hl hh => w_choice_Merge hh hr_7) fun H' hH => ?_)
      refine WpOps.pn 5 rfl trivial ?_
      refine WpOps.nil ?_
      refine WpC.seqR ?_
      obtain ⟨r_8, hr_8, h⟩ := Sh.bind_some h
      refine WpOps.pn 3 rfl trivial ?_
      refine WpOps.consG rfl rfl (WpO.callT (v := (AV.rows 7 (List.map cGChoice_CTok r_8.1))) rfl rfl rfl hH (i := 0) rfl (fun H1 hl hh => w_choice_Keep hh hr_8) fun H' hH => ?_)
      refine WpOps.pn 1 rfl trivial ?_
      refine WpOps.nil ?_
      refine WpC.seq ?_
      refine WpC.seqR ?_
      refine WpOps.pn 1 rfl trivial ?_
      refine WpOps.nil ?_
      refine WpC.blockK (fun x : (Unit) × (Unit) => [(11, (bA r_1)), (23, (iA r_7.1.2)), (24, (AV.rows 7 (List.map cGChoice_CTok r_8.1)))]) (fun x H' => (emendlaw13_ChoiceKeeps_j2 r_1 r_7 r_8) x.1 = some r ∧ Holds H0 [] H') ?_ ?_
      ·
        obtain ⟨o_1, ho_1, hk_1⟩ := Sh.bind_some h
        refine WpC.loopS (emendlaw13_ChoiceKeeps_b3 i_1 k_1 both_1 r_2 r_8) (fun (s : Int × GArena) (a : Unit) => [(2, (iA i_1)), (3, (iA k_1)), (4, (bA both_1)), (11, (bA r_1)), (12, (AV.rows 1 (List.map (cL 6 cGTok) r_2.1))), (14, (.lit (.pointer (some ⟨g_5, 0, none⟩)))), (23, (iA r_7.1.2)), (24, (AV.rows 7 (List.map cGChoice_CTok r_8.1))), (25, (iA s.1))]) (fun (s : Int × GArena) (a : Unit) H' => Holds H0 [.many (arP g_5 s.2)] H') o_1 ((0 : Int), r_8.2) () ho_1 ⟨rfl, rfl, rfl, rfl, rfl, rfl, rfl, rfl, rfl, trivial⟩ hH ?_
        rintro ⟨set_1, a_2⟩ _ st_1 env H' h hd_1 hH
        refine WpC.seq ?_
        refine WpC.seqR ?_
        refine WpOps.pn 3 rfl trivial ?_
        refine WpOps.at 105 (len_map _ _) ?_
        refine WpOps.pn 1 rfl trivial ?_
        refine WpOps.nil ?_
        refine WpC.condB rfl (fun hb => ?_) (fun hb => ?_)
        ·
          replace h := Sh.ite_pos hb h
          refine WpC.skipD ?_
          refine ⟨_, Heap.le_refl _, ?_⟩
          refine WpC.seq ?_
          refine WpC.block ?_
          refine WpC.seqR ?_
          obtain ⟨r_9, hr_9, h⟩ := Sh.bind_some h
          refine WpOps.pn 3 rfl trivial ?_
          refine WpOps.consG rfl rfl (WpO.callT (v := (AV.rows 6 (List.map cGTok r_9.1))) rfl rfl rfl hH (i := 0) rfl (fun H1 hl hh => w_choice_Select hh hr_9) fun H' hH => ?_)
          refine WpOps.pn 1 rfl trivial ?_
          refine WpOps.nil ?_
          refine WpC.seqR ?_
          obtain ⟨c_2, h⟩ := Sh.chk_some h
          refine WpOps.pn 6 rfl c_2 ?_
          refine WpOps.nil ?_
          refine WpC.seqR ?_
          obtain ⟨c_3, h⟩ := Sh.chk_some h
          refine WpOps.pn 6 rfl c_3 ?_
          refine WpOps.nil ?_
          refine WpC.seqR ?_
          refine WpOps.pn 1 rfl trivial ?_
          obtain ⟨b_5, g_6, h⟩ := Sh.bind_some h
          refine WpOps.cutB 3 126 (bA b_5) rfl ?_ ?_
          ·
            refine WpOps.pn 1 rfl trivial ?_
            refine WpOps.split 124 rfl (fun hb => ?_) (fun hb => ?_)
            ·
              replace g_6 := Sh.ite_pos hb g_6
              refine WpOps.pn 2 rfl trivial ?_
              refine WpOps.nil ?_
              obtain rfl := Sh.some_inj g_6
              exact ⟨rfl, rfl⟩
            ·
              replace g_6 := Sh.ite_neg hb g_6
              refine WpOps.pn 2 rfl trivial ?_
              refine WpOps.nil ?_
              obtain rfl := Sh.some_inj g_6
              exact ⟨rfl, rfl⟩
          intro env
          obtain ⟨b_6, g_7, h⟩ := Sh.bind_some h
          refine WpOps.cutB 10 136 (bA b_6) rfl ?_ ?_
          ·
            refine WpOps.pn 1 rfl trivial ?_
            refine WpOps.split 127 rfl (fun hb => ?_) (fun hb => ?_)
            ·
              replace g_7 := Sh.ite_pos hb g_7
              refine WpOps.pn 9 rfl trivial ?_
              refine WpOps.nil ?_
              obtain rfl := Sh.some_inj g_7
              exact ⟨rfl, rfl⟩
            ·
              replace g_7 := Sh.ite_neg hb g_7
              refine WpOps.pn 2 rfl trivial ?_
              obtain ⟨b_7, g_8, g_7⟩ := Sh.bind_some g_7
              refine WpOps.cutB 6 135 (bA b_7) rfl ?_ ?_
              ·
                refine WpOps.pn 1 rfl trivial ?_
                refine WpOps.split 130 rfl (fun hb => ?_) (fun hb => ?_)
                ·
                  replace g_8 := Sh.ite_pos hb g_8
                  refine WpOps.pn 1 rfl trivial ?_
                  obtain ⟨b_8, g_9, g_8⟩ := Sh.bind_some g_8
                  refine WpOps.cutB 3 134 (bA b_8) rfl ?_ ?_
                  ·
                    refine WpOps.pn 1 rfl trivial ?_
                    refine WpOps.split 132 rfl (fun hb => ?_) (fun hb => ?_)
                    ·
                      replace g_9 := Sh.ite_pos hb g_9
                      refine WpOps.pn 2 rfl trivial ?_
                      refine WpOps.nil ?_
                      obtain rfl := Sh.some_inj g_9
                      exact ⟨rfl, rfl⟩
                    ·
                      replace g_9 := Sh.ite_neg hb g_9
                      refine WpOps.pn 2 rfl trivial ?_
                      refine WpOps.nil ?_
                      obtain rfl := Sh.some_inj g_9
                      exact ⟨rfl, rfl⟩
                  intro env
                  refine WpOps.pn 1 rfl trivial ?_
                  refine WpOps.nil ?_
                  obtain rfl := Sh.some_inj g_8
                  exact ⟨rfl, rfl⟩
                ·
                  replace g_8 := Sh.ite_neg hb g_8
                  refine WpOps.pn 5 rfl trivial ?_
                  refine WpOps.nil ?_
                  obtain rfl := Sh.some_inj g_8
                  exact ⟨rfl, rfl⟩
              intro env
              refine WpOps.pn 1 rfl trivial ?_
              refine WpOps.nil ?_
              obtain rfl := Sh.some_inj g_7
              exact ⟨rfl, rfl⟩
          intro env
          refine WpOps.pn 1 rfl trivial ?_
          refine WpOps.nil ?_
          refine WpC.seqR ?_
          refine WpOps.pn 1 rfl trivial ?_
          obtain ⟨b_9, g_10, h⟩ := Sh.bind_some h
          refine WpOps.cutB 9 146 (bA b_9) rfl ?_ ?_
          ·
            refine WpOps.pn 1 rfl trivial ?_
            refine WpOps.split 138 rfl (fun hb => ?_) (fun hb => ?_)
            ·
              replace g_10 := Sh.ite_pos hb g_10
              obtain ⟨y_1, hy_1, g_10⟩ := Sh.bind_some g_10
              refine WpOps.pn 3 rfl trivial ?_
              refine WpOps.consE (v := (.rop ((cL 6 cGTok) y_1))) rfl rfl (Exact.ixr (cL 6 cGTok) hy_1 rfl rfl rfl rfl (by kernel_rfl) (by decide)) ?_
              refine WpOps.consE (v := (AV.rows 6 (List.map cGTok y_1))) rfl rfl (Exact.load_rop rfl rfl rfl) ?_
              obtain ⟨r_10, hr_10, g_10⟩ := Sh.bind_some g_10
              refine WpOps.consE (v := (bA r_10)) rfl rfl (Exact.call rfl rfl rfl (w_emendref03_Same hr_10)) ?_
              refine WpOps.pn 2 rfl trivial ?_
              refine WpOps.nil ?_
              obtain rfl := Sh.some_inj g_10
              exact ⟨rfl, rfl⟩
            ·
              replace g_10 := Sh.ite_neg hb g_10
              refine WpOps.pn 8 rfl trivial ?_
              refine WpOps.nil ?_
              obtain rfl := Sh.some_inj g_10
              exact ⟨rfl, rfl⟩
          intro env
          obtain ⟨b_10, g_11, h⟩ := Sh.bind_some h
          refine WpOps.cutB 9 155 (bA b_10) rfl ?_ ?_
          ·
            refine WpOps.pn 1 rfl trivial ?_
            refine WpOps.split 147 rfl (fun hb => ?_) (fun hb => ?_)
            ·
              replace g_11 := Sh.ite_pos hb g_11
              refine WpOps.pn 8 rfl trivial ?_
              refine WpOps.nil ?_
              obtain rfl := Sh.some_inj g_11
              exact ⟨rfl, rfl⟩
            ·
              replace g_11 := Sh.ite_neg hb g_11
              refine WpOps.pn 2 rfl trivial ?_
              obtain ⟨b_11, g_12, g_11⟩ := Sh.bind_some g_11
              refine WpOps.cutB 5 154 (bA b_11) rfl ?_ ?_
              ·
                refine WpOps.pn 1 rfl trivial ?_
                refine WpOps.split 150 rfl (fun hb => ?_) (fun hb => ?_)
                ·
                  replace g_12 := Sh.ite_pos hb g_12
                  refine WpOps.pn 2 rfl trivial ?_
                  refine WpOps.at 152 (len_map _ _) ?_
                  refine WpOps.pn 2 rfl trivial ?_
                  refine WpOps.nil ?_
                  obtain rfl := Sh.some_inj g_12
                  exact ⟨rfl, rfl⟩
                ·
                  replace g_12 := Sh.ite_neg hb g_12
                  refine WpOps.pn 4 rfl trivial ?_
                  refine WpOps.nil ?_
                  obtain rfl := Sh.some_inj g_12
                  exact ⟨rfl, rfl⟩
              intro env
              refine WpOps.pn 1 rfl trivial ?_
              refine WpOps.nil ?_
              obtain rfl := Sh.some_inj g_11
              exact ⟨rfl, rfl⟩
          intro env
          refine WpOps.nil ?_
          refine WpC.condB rfl (fun hb => ?_) (fun hb => ?_)
          ·
            replace h := Sh.ite_pos hb h
            refine WpC.seqR ?_
            refine WpOps.pn 1 rfl trivial ?_
            refine WpOps.nil ?_
            refine WpC.lose (i := 0) hH rfl (fun H' hH => ?_)
            obtain rfl := Sh.some_inj h
            have e := hd_1 _ rfl
            subst e
            have h := hk_1
            obtain rfl := Sh.some_inj h
            refine WpC.ret ?_
            exact VEnds.ret1 rfl rfl ⟨rfl, hH⟩
          ·
            replace h := Sh.ite_neg hb h
            refine WpC.skipD ?_
            refine ⟨_, Heap.le_refl _, ?_⟩
            refine WpC.regionD ?_
            obtain ⟨c_4, h⟩ := Sh.chk_some h
            refine WpOps.pn 3 rfl c_4 ?_
            refine WpOps.nil ?_
            obtain rfl := Sh.some_inj h
            exact ⟨_, (Heap.le_refl _), ((set_1 + (1 : Int)), r_9.2), (), rfl, ⟨rfl, rfl, rfl, rfl, rfl, rfl, rfl, rfl, rfl, trivial⟩, hH⟩
        ·
          replace h := Sh.ite_neg hb h
          refine WpC.lose (i := 0) hH rfl (fun H' hH => ?_)
          obtain rfl := Sh.some_inj h
          have e := hd_1 _ rfl
          subst e
          refine WpC.exit ?_
          exact ⟨((), ()), ⟨rfl, rfl, rfl, trivial⟩, hk_1, hH⟩
      ·
        rintro ⟨_, _⟩ env H' ⟨h, hH⟩
        try dsimp only at h
        refine ⟨_, Heap.le_refl _, ?_⟩
        refine WpC.seq ?_
        refine WpC.seqR ?_
        refine WpOps.pn 1 rfl trivial ?_
        refine WpOps.nil ?_
        refine WpC.blockK (fun x : (Unit) × (Unit) => [(11, (bA r_1)), (23, (iA r_7.1.2))]) (fun x H' => (emendlaw13_ChoiceKeeps_j4 r_1 r_7) x.1 = some r ∧ Holds H0 [] H') ?_ ?_
        ·
          obtain ⟨o_2, ho_2, hk_2⟩ := Sh.bind_some h
          refine WpC.loopS (emendlaw13_ChoiceKeeps_b5 r_8) (fun (s : Int) (a : Unit) => [(11, (bA r_1)), (23, (iA r_7.1.2)), (24, (AV.rows 7 (List.map cGChoice_CTok r_8.1))), (30, (iA s))]) (fun (s : Int) (a : Unit) H' => Holds H0 [] H') o_2 (0 : Int) () ho_2 ⟨rfl, rfl, rfl, rfl, trivial⟩ hH ?_
          rintro j_1 _ st_2 env H' h hd_2 hH
          refine WpC.seq ?_
          refine WpC.seqR ?_
          refine WpOps.pn 3 rfl trivial ?_
          refine WpOps.at 158 (len_map _ _) ?_
          refine WpOps.pn 1 rfl trivial ?_
          refine WpOps.nil ?_
          refine WpC.condB rfl (fun hb => ?_) (fun hb => ?_)
          ·
            replace h := Sh.ite_pos hb h
            refine WpC.skipD ?_
            refine ⟨_, Heap.le_refl _, ?_⟩
            refine WpC.seq ?_
            refine WpC.block ?_
            refine WpC.seqR ?_
            obtain ⟨y_2, hy_2, h⟩ := Sh.bind_some h
            refine WpOps.pn 2 rfl trivial ?_
            refine WpOps.consE (v := (.rop (cGChoice_CTok y_2))) rfl rfl (Exact.ixr cGChoice_CTok hy_2 rfl rfl rfl rfl (by kernel_rfl) (by decide)) ?_
            refine WpOps.pn 1 rfl trivial ?_
            refine WpOps.consE (v := (iA y_2.cond)) rfl rfl (Exact.load_rop rfl rfl rfl) ?_
            refine WpOps.pn 1 rfl trivial ?_
            refine WpOps.nil ?_
            refine WpC.condB rfl (fun hb => ?_) (fun hb => ?_)
            ·
              replace h := Sh.ite_pos hb h
              refine WpC.seqR ?_
              refine WpOps.pn 1 rfl trivial ?_
              refine WpOps.nil ?_
              obtain rfl := Sh.some_inj h
              have e := hd_2 _ rfl
              subst e
              have h := hk_2
              obtain rfl := Sh.some_inj h
              refine WpC.ret ?_
              exact VEnds.ret1 rfl rfl ⟨rfl, hH⟩
            ·
              replace h := Sh.ite_neg hb h
              refine WpC.skipD ?_
              refine ⟨_, Heap.le_refl _, ?_⟩
              refine WpC.regionD ?_
              obtain ⟨c_5, h⟩ := Sh.chk_some h
              refine WpOps.pn 3 rfl c_5 ?_
              refine WpOps.nil ?_
              obtain rfl := Sh.some_inj h
              exact ⟨_, (Heap.le_refl _), (j_1 + (1 : Int)), (), rfl, ⟨rfl, rfl, rfl, rfl, trivial⟩, hH⟩
          ·
            replace h := Sh.ite_neg hb h
            obtain rfl := Sh.some_inj h
            have e := hd_2 _ rfl
            subst e
            refine WpC.exit ?_
            exact ⟨((), ()), ⟨rfl, rfl, trivial⟩, hk_2, hH⟩
        ·
          rintro ⟨_, _⟩ env H' ⟨h, hH⟩
          try dsimp only at h
          refine ⟨_, Heap.le_refl _, ?_⟩
          refine WpC.seqR ?_
          refine WpOps.pn 1 rfl trivial ?_
          obtain ⟨b_12, g_13, h⟩ := Sh.bind_some h
          refine WpOps.cutB 4 172 (bA b_12) rfl ?_ ?_
          ·
            refine WpOps.pn 1 rfl trivial ?_
            refine WpOps.split 169 rfl (fun hb => ?_) (fun hb => ?_)
            ·
              replace g_13 := Sh.ite_pos hb g_13
              refine WpOps.pn 3 rfl trivial ?_
              refine WpOps.nil ?_
              obtain rfl := Sh.some_inj g_13
              exact ⟨rfl, rfl⟩
            ·
              replace g_13 := Sh.ite_neg hb g_13
              refine WpOps.pn 3 rfl trivial ?_
              refine WpOps.nil ?_
              obtain rfl := Sh.some_inj g_13
              exact ⟨rfl, rfl⟩
          intro env
          refine WpOps.pn 1 rfl trivial ?_
          refine WpOps.nil ?_
          obtain rfl := Sh.some_inj h
          refine WpC.ret ?_
          exact VEnds.ret1 rfl rfl ⟨rfl, hH⟩

theorem w_choice_Where {H0 H : Heap} {g_1 : Nat} {a_1 : GArena} {l_1 : List GChoice_CTok} {file_1 : Int} {from_1 : Int} {to_1 : Int} (hH : Holds H0 [.many (arP g_1 a_1)] H) {r : (Int) × GArena} (h : choice_Where a_1 l_1 file_1 from_1 to_1 = some r) : TCall Tryd.prog 22 [(.lit (.pointer (some ⟨g_1, 0, none⟩))), (AV.rows 7 (List.map cGChoice_CTok l_1)), (iA file_1), (iA from_1), (iA to_1)] H (fun v H' => v = (iA r.1) ∧ Holds H0 [.many (arP g_1 r.2)] H') noE := by
  refine TCall.body Tryd.func22 rfl rfl ?_
  refine WpC.seqR ?_
  refine WpOps.pn 1 rfl trivial ?_
  refine WpOps.nil ?_
  refine WpC.seqR ?_
  refine WpOps.pn 1 rfl trivial ?_
  refine WpOps.nil ?_
  refine WpC.seq ?_
  refine WpC.seqR ?_
  refine WpOps.pn 2 rfl trivial ?_
  refine WpOps.at 15 (len_map _ _) ?_
  refine WpOps.pn 1 rfl trivial ?_
  refine WpOps.nil ?_
  refine WpC.blockK (fun x : (Int × GArena) × (Unit) => [(11, (iA x.1.1))]) (fun x H' => choice_Where_j1 x.1 = some r ∧ Holds H0 [.many (arP g_1 x.1.2)] H') ?_ ?_
  ·
    obtain ⟨o_1, ho_1, hk_1⟩ := Sh.bind_some h
    refine WpC.loopS (choice_Where_b2 l_1 file_1 from_1 to_1) (fun (s : Int × Int × GArena) (a : Unit) => [(0, (.lit (.pointer (some ⟨g_1, 0, none⟩)))), (2, (iA file_1)), (3, (iA from_1)), (4, (iA to_1)), (11, (iA s.1)), (14, (AV.rows 7 (List.map cGChoice_CTok l_1))), (15, (iA (l_1.length : Int))), (16, (iA s.2.1))]) (fun (s : Int × Int × GArena) (a : Unit) H' => Holds H0 [.many (arP g_1 s.2.2)] H') o_1 ((0 : Int), (0 : Int), a_1) () ho_1 ⟨rfl, rfl, rfl, rfl, rfl, rfl, rfl, rfl, trivial⟩ hH ?_
    rintro ⟨out_1, t16_1, a_2⟩ _ st_1 env H' h hd_1 hH
    refine WpC.seqR ?_
    refine WpOps.pn 1 rfl trivial ?_
    refine WpOps.nil ?_
    refine WpC.seq ?_
    refine WpC.condB rfl (fun hb => ?_) (fun hb => ?_)
    ·
      replace h := Sh.ite_pos hb h
      refine WpC.skipD ?_
      refine ⟨_, Heap.le_refl _, ?_⟩
      refine WpC.seq ?_
      refine WpC.block ?_
      refine WpC.seqR ?_
      obtain ⟨y_1, hy_1, h⟩ := Sh.bind_some h
      refine WpOps.consE (v := (.rop (cGChoice_CTok y_1))) rfl rfl (Exact.ixr cGChoice_CTok hy_1 rfl rfl rfl rfl (by kernel_rfl) (by decide)) ?_
      refine WpOps.consE (v := (AV.agg (cGChoice_CTok y_1))) rfl rfl (Exact.load_rop rfl rfl rfl) ?_
      refine WpOps.consG rfl rfl (WpO.allocT (z := cGChoice_CTok (GChoice_CTok.mk (GTok.mk (0 : Int) ([] : List UInt8) (0 : Int) (0 : Int) (0 : Int) false) (0 : Int))) rfl rfl hH fun g_2 H' hH => ?_)
      refine WpOps.consG rfl rfl (WpO.putT (cs' := (cGChoice_CTok y_1)) (v := (AV.agg (cGChoice_CTok y_1))) rfl rfl hH (i := 0) rfl rfl rfl rfl rfl rfl rfl fun H' hH => ?_)
      refine WpOps.nil ?_
      refine WpC.seqR ?_
      refine WpOps.pn 2 rfl trivial ?_
      refine WpOps.consE (v := (iA y_1.t.file_)) rfl rfl (Exact.load rfl rfl (hH.cell (i := 0) rfl) rfl rfl) ?_
      refine WpOps.pn 2 rfl trivial ?_
      obtain ⟨b_1, g_3, h⟩ := Sh.bind_some h
      refine WpOps.cutB 7 31 (bA b_1) rfl ?_ ?_
      ·
        refine WpOps.pn 1 rfl trivial ?_
        refine WpOps.split 25 rfl (fun hb => ?_) (fun hb => ?_)
        ·
          replace g_3 := Sh.ite_pos hb g_3
          refine WpOps.pn 2 rfl trivial ?_
          refine WpOps.consE (v := (iA y_1.t.from_)) rfl rfl (Exact.load rfl rfl (hH.cell (i := 0) rfl) rfl rfl) ?_
          refine WpOps.pn 3 rfl trivial ?_
          refine WpOps.nil ?_
          obtain rfl := Sh.some_inj g_3
          exact ⟨rfl, rfl⟩
        ·
          replace g_3 := Sh.ite_neg hb g_3
          refine WpOps.pn 6 rfl trivial ?_
          refine WpOps.nil ?_
          obtain rfl := Sh.some_inj g_3
          exact ⟨rfl, rfl⟩
      intro env
      obtain ⟨b_2, g_4, h⟩ := Sh.bind_some h
      refine WpOps.cutB 7 38 (bA b_2) rfl ?_ ?_
      ·
        refine WpOps.pn 1 rfl trivial ?_
        refine WpOps.split 32 rfl (fun hb => ?_) (fun hb => ?_)
        ·
          replace g_4 := Sh.ite_pos hb g_4
          refine WpOps.pn 2 rfl trivial ?_
          refine WpOps.consE (v := (iA y_1.t.to)) rfl rfl (Exact.load rfl rfl (hH.cell (i := 0) rfl) rfl rfl) ?_
          refine WpOps.pn 3 rfl trivial ?_
          refine WpOps.nil ?_
          obtain rfl := Sh.some_inj g_4
          exact ⟨rfl, rfl⟩
        ·
          replace g_4 := Sh.ite_neg hb g_4
          refine WpOps.pn 6 rfl trivial ?_
          refine WpOps.nil ?_
          obtain rfl := Sh.some_inj g_4
          exact ⟨rfl, rfl⟩
      intro env
      refine WpOps.nil ?_
      refine WpC.condB rfl (fun hb => ?_) (fun hb => ?_)
      ·
        replace h := Sh.ite_pos hb h
        refine WpC.regionD ?_
        refine WpOps.pn 3 rfl trivial ?_
        refine WpOps.consE (v := (iA y_1.cond)) rfl rfl (Exact.load rfl rfl (hH.cell (i := 0) rfl) rfl rfl) ?_
        obtain ⟨r_1, hr_1, h⟩ := Sh.bind_some h
        refine WpOps.consG rfl rfl (WpO.callT (v := (.tup [(iA r_1.1.1), (iA r_1.1.2)])) rfl rfl rfl hH (i := 1) rfl (fun H1 hl hh => w_bdd_Or hh hr_1) fun H' hH => ?_)
        refine WpOps.pn 4 rfl trivial ?_
        refine WpOps.nil ?_
        refine ⟨_, Heap.le_refl _, ?_⟩
        refine WpC.regionD ?_
        obtain ⟨c_1, h⟩ := Sh.chk_some h
        refine WpOps.pn 2 rfl c_1 ?_
        refine WpOps.nil ?_
        obtain ⟨_, hle_1, hH⟩ := hH.lose_ (i := 0) rfl
        obtain rfl := Sh.some_inj h
        exact ⟨_, hle_1, (r_1.1.1, (t16_1 + (1 : Int)), r_1.2), (), rfl, ⟨rfl, rfl, rfl, rfl, rfl, rfl, rfl, rfl, trivial⟩, hH⟩
      ·
        replace h := Sh.ite_neg hb h
        refine WpC.skipD ?_
        refine ⟨_, Heap.le_refl _, ?_⟩
        refine WpC.regionD ?_
        obtain ⟨c_2, h⟩ := Sh.chk_some h
        refine WpOps.pn 2 rfl c_2 ?_
        refine WpOps.nil ?_
        obtain ⟨_, hle_2, hH⟩ := hH.lose_ (i := 0) rfl
        obtain rfl := Sh.some_inj h
        exact ⟨_, hle_2, (out_1, (t16_1 + (1 : Int)), a_2), (), rfl, ⟨rfl, rfl, rfl, rfl, rfl, rfl, rfl, rfl, trivial⟩, hH⟩
    ·
      replace h := Sh.ite_neg hb h
      obtain rfl := Sh.some_inj h
      have e := hd_1 _ rfl
      subst e
      refine WpC.exit ?_
      exact ⟨((out_1, a_2), ()), ⟨rfl, trivial⟩, hk_1, hH⟩
  ·
    rintro ⟨⟨out_2, a_3⟩, _⟩ env H' ⟨h, hH⟩
    try dsimp only at h
    refine ⟨_, Heap.le_refl _, ?_⟩
    refine WpC.seqR ?_
    refine WpOps.pn 2 rfl trivial ?_
    refine WpOps.nil ?_
    obtain rfl := Sh.some_inj h
    refine WpC.ret ?_
    exact VEnds.ret1 rfl rfl ⟨rfl, hH⟩

theorem w_emendlaw13_ChoiceWhere {H0 : Heap} (hG : Glob H0) {vars_1 : Int} {texts_1 : List (List UInt8)} {file_1 : Int} {from_1 : Int} {to_1 : Int} {r : Bool} (h : emendlaw13_ChoiceWhere vars_1 texts_1 file_1 from_1 to_1 = some r) : TCall Tryd.prog 6 [(iA vars_1), (AV.rows 1 (List.map cS texts_1)), (iA file_1), (iA from_1), (iA to_1)] H0 (fun v H' => v = (bA r) ∧ H' = H0) noE := by
  refine id (TCall.body Tryd.func6 rfl rfl ?_)
  have hH : Holds H0 [] H0 := rfl
  refine WpC.seqR ?_
  refine WpOps.pn 1 rfl trivial ?_
  refine WpOps.nil ?_
  refine WpC.seqR ?_
  obtain ⟨r_1, hr_1, h⟩ := Sh.bind_some h
  refine WpOps.consE (v := (bA r_1)) rfl rfl (Exact.call rfl rfl rfl (w_emendlaw13_awake (hG.up hH) hr_1)) ?_
  refine WpOps.pn 1 rfl trivial ?_
  refine WpOps.nil ?_
  refine WpC.seq ?_
  refine WpC.seqR ?_
  refine WpOps.pn 2 rfl trivial ?_
  obtain ⟨b_1, g_1, h⟩ := Sh.bind_some h
  refine WpOps.cutB 4 32 (bA b_1) rfl ?_ ?_
  ·
    refine WpOps.pn 1 rfl trivial ?_
    refine WpOps.split 29 rfl (fun hb => ?_) (fun hb => ?_)
    ·
      replace g_1 := Sh.ite_pos hb g_1
      refine WpOps.pn 3 rfl trivial ?_
      refine WpOps.nil ?_
      obtain rfl := Sh.some_inj g_1
      exact ⟨rfl, rfl⟩
    ·
      replace g_1 := Sh.ite_neg hb g_1
      refine WpOps.pn 3 rfl trivial ?_
      refine WpOps.nil ?_
      obtain rfl := Sh.some_inj g_1
      exact ⟨rfl, rfl⟩
  intro env
  refine WpOps.nil ?_
  refine WpC.condB rfl (fun hb => ?_) (fun hb => ?_)
  ·
    replace h := Sh.ite_pos hb h
    refine WpC.seqR ?_
    refine WpOps.pn 2 rfl trivial ?_
    refine WpOps.nil ?_
    obtain rfl := Sh.some_inj h
    refine WpC.ret ?_
    exact VEnds.ret1 rfl rfl ⟨rfl, hH⟩
  ·
    replace h := Sh.ite_neg hb h
    refine WpC.skipD ?_
    refine ⟨_, Heap.le_refl _, ?_⟩
    refine WpC.seqR ?_
    refine WpOps.pn 1 rfl trivial ?_
    have hH := hH.nil 35 1
    refine WpOps.nil ?_
    refine WpC.seq ?_
    refine WpC.seqR ?_
    refine WpOps.pn 1 rfl trivial ?_
    refine WpOps.nil ?_
    refine WpC.blockK (fun x : (List (List GTok)) × ((Option (Nat × Nat))) => [(0, (iA vars_1)), (2, (iA file_1)), (3, (iA from_1)), (4, (iA to_1)), (11, (bA r_1)), (12, (.own (List.map (cL 6 cGTok) x.1).length x.2))]) (fun x H' => (emendlaw13_ChoiceWhere_j1 vars_1 file_1 from_1 to_1 r_1) x.1 = some r ∧ Holds H0 [.own 35 1 x.2 (List.map (cL 6 cGTok) x.1)] H') ?_ ?_
    ·
      obtain ⟨o_1, ho_1, hk_1⟩ := Sh.bind_some h
      refine WpC.loopS (emendlaw13_ChoiceWhere_b2 vars_1 texts_1 r_1) (fun (s : Int × List (List GTok)) (a : (Option (Nat × Nat))) => [(0, (iA vars_1)), (1, (AV.rows 1 (List.map cS texts_1))), (2, (iA file_1)), (3, (iA from_1)), (4, (iA to_1)), (11, (bA r_1)), (12, (.own (List.map (cL 6 cGTok) s.2).length a)), (13, (iA s.1))]) (fun (s : Int × List (List GTok)) (a : (Option (Nat × Nat))) H' => Holds H0 [.own 35 1 a (List.map (cL 6 cGTok) s.2)] H') o_1 ((0 : Int), ([] : List (List GTok))) none ho_1 ⟨rfl, rfl, rfl, rfl, rfl, rfl, rfl, rfl, trivial⟩ hH ?_
      rintro ⟨i_1, l_1⟩ p_1 st_1 env H' h hd_1 hH
      refine WpC.seq ?_
      refine WpC.seqR ?_
      obtain ⟨c_1, h⟩ := Sh.chk_some h
      refine WpOps.pn 4 rfl c_1 ?_
      refine WpOps.nil ?_
      refine WpC.condB rfl (fun hb => ?_) (fun hb => ?_)
      ·
        replace h := Sh.ite_pos hb h
        refine WpC.skipD ?_
        refine ⟨_, Heap.le_refl _, ?_⟩
        refine WpC.seq ?_
        refine WpC.block ?_
        refine WpC.seqR ?_
        refine WpOps.pn 1 rfl trivial ?_
        refine WpOps.nil ?_
        refine WpC.seqK (fun x : (List UInt8) × (Unit) => [(0, (iA vars_1)), (1, (AV.rows 1 (List.map cS texts_1))), (2, (iA file_1)), (3, (iA from_1)), (4, (iA to_1)), (11, (bA r_1)), (12, (.own (List.map (cL 6 cGTok) l_1).length p_1)), (13, (iA i_1)), (14, (sA x.1))]) (fun x H' => (emendlaw13_ChoiceWhere_j3 r_1 i_1 l_1) x.1 = some st_1 ∧ Holds H0 [.own 35 1 p_1 (List.map (cL 6 cGTok) l_1)] H') ?_ ?_
        ·
          refine WpC.seqR ?_
          refine WpOps.pn 3 rfl trivial ?_
          refine WpOps.at 42 (len_map _ _) ?_
          refine WpOps.pn 1 rfl trivial ?_
          refine WpOps.nil ?_
          refine WpC.condB rfl (fun hb => ?_) (fun hb => ?_)
          ·
            replace h := Sh.ite_pos hb h
            refine WpC.regionD ?_
            obtain ⟨y_1, hy_1, h⟩ := Sh.bind_some h
            refine WpOps.pn 2 rfl trivial ?_
            refine WpOps.consE (v := (.rop (cS y_1))) rfl rfl (Exact.ixr cS hy_1 rfl rfl rfl rfl (by kernel_rfl) (by decide)) ?_
            refine WpOps.consE (v := (sA y_1)) rfl rfl (Exact.load_rop rfl rfl rfl) ?_
            refine WpOps.pn 1 rfl trivial ?_
            refine WpOps.nil ?_
            exact ⟨_, (Heap.le_refl _), (y_1, ()), ⟨rfl, rfl, rfl, rfl, rfl, rfl, rfl, rfl, rfl, trivial⟩, h, hH⟩
          ·
            replace h := Sh.ite_neg hb h
            refine WpC.skipD ?_
            exact ⟨_, (Heap.le_refl _), (([] : List UInt8), ()), ⟨rfl, rfl, rfl, rfl, rfl, rfl, rfl, rfl, rfl, trivial⟩, h, hH⟩
        ·
          rintro ⟨s_1, _⟩ env H' ⟨h, hH⟩
          try dsimp only at h
          refine WpC.seq ?_
          refine WpC.seqR ?_
          refine WpOps.pn 3 rfl trivial ?_
          refine WpOps.nil ?_
          refine WpC.condB rfl (fun hb => ?_) (fun hb => ?_)
          ·
            replace h := Sh.ite_pos hb h
            refine WpC.seqR ?_
            refine WpOps.pn 2 rfl trivial ?_
            refine WpOps.nil ?_
            refine WpC.lose (i := 0) hH rfl (fun H' hH => ?_)
            obtain rfl := Sh.some_inj h
            have e := hd_1 _ rfl
            subst e
            have h := hk_1
            obtain rfl := Sh.some_inj h
            refine WpC.ret ?_
            exact VEnds.ret1 rfl rfl ⟨rfl, hH⟩
          ·
            replace h := Sh.ite_neg hb h
            refine WpC.skipD ?_
            refine ⟨_, Heap.le_refl _, ?_⟩
            refine WpC.regionD ?_
            obtain ⟨c_2, h⟩ := Sh.chk_some h
            obtain ⟨r_2, hr_2, h⟩ := Sh.bind_some h
            refine WpOps.pn 4 rfl c_2 ?_
            refine WpOps.consE (v := (AV.rows 6 (List.map cGTok r_2))) rfl rfl (Exact.call rfl rfl rfl (w_pptok_Tokens (hG.up hH) hr_2)) ?_
            refine WpOps.consE (v := (AV.rows 1 (List.map (cL 6 cGTok) ([r_2] : List (List GTok))))) rfl rfl (Exact.litSlice rfl (by kernel_rfl)) ?_
            obtain ⟨c_3, h⟩ := Sh.chk_some h
            refine WpOps.consG rfl rfl (WpO.pushT (cL 6 cGTok) l_1 ([r_2] : List (List GTok)) (i := 0) rfl ek24 hH rfl rfl rfl (.rows _) (fun y _ => (one_cL _ _) y) (by simp) c_3 (by decide) fun p_2 H' hH => ?_)
            refine WpOps.pn 1 rfl trivial ?_
            refine WpOps.nil ?_
            refine ⟨_, Heap.le_refl _, ?_⟩
            refine WpC.regionD ?_
            obtain ⟨c_4, h⟩ := Sh.chk_some h
            refine WpOps.pn 3 rfl c_4 ?_
            refine WpOps.nil ?_
            obtain rfl := Sh.some_inj h
            exact ⟨_, (Heap.le_refl _), ((i_1 + (1 : Int)), (l_1 ++ ([r_2] : List (List GTok)))), p_2, rfl, ⟨rfl, rfl, rfl, rfl, rfl, rfl, rfl, rfl, trivial⟩, hH⟩
      ·
        replace h := Sh.ite_neg hb h
        obtain rfl := Sh.some_inj h
        have e := hd_1 _ rfl
        subst e
        refine WpC.exit ?_
        exact ⟨(l_1, p_1), ⟨rfl, rfl, rfl, rfl, rfl, rfl, trivial⟩, hk_1, hH⟩
    ·
      rintro ⟨l_2, p_3⟩ env H' ⟨h, hH⟩
      try dsimp only at h
      refine ⟨_, Heap.le_refl _, ?_⟩
      refine WpC.seqR ?_
      obtain ⟨c_5, h⟩ := Sh.chk_some h
      refine WpOps.pn 1 rfl trivial ?_
      refine WpOps.consG rfl rfl (WpO.callM (F := fun g => .tup [.lit (.pointer (some ⟨g, 0, none⟩)), iA (0 : Int)]) (p := fun g => arP g (newG (vars_1).toNat)) rfl rfl rfl hH (w_bdd_New c_5) fun g_2 H' hH => ?_)
      refine WpOps.pn 5 rfl trivial ?_
      refine WpOps.nil ?_
      refine WpC.seq ?_
      refine WpC.seqR ?_
      refine WpOps.pn 2 rfl trivial ?_
      refine WpOps.nil ?_
      refine WpC.condF rfl ?_
      refine WpC.skipD ?_
      refine ⟨_, Heap.le_refl _, ?_⟩
      refine WpC.freeze (t := 12) (i := 1) hH rfl rfl (fun H' hH => ?_)
      refine WpC.seqR ?_
      obtain ⟨r_3, hr_3, h⟩ := Sh.bind_some h
      refine WpOps.pn 2 rfl trivial ?_
      refine WpOps.consG rfl rfl (WpO.callT (v := (.tup [(AV.rows 7 (List.map cGChoice_CTok r_3.1.1)), (iA r_3.1.2)])) rfl rfl rfl hH (i := 0) rfl (fun H1 hl hh => w_choice_Merge hh hr_3) fun H' hH => ?_)
      refine WpOps.pn 5 rfl trivial ?_
      refine WpOps.nil ?_
      refine WpC.seqR ?_
      obtain ⟨r_4, hr_4, h⟩ := Sh.bind_some h
      refine WpOps.pn 5 rfl trivial ?_
      refine WpOps.consG rfl rfl (WpO.callT (v := (iA r_4.1)) rfl rfl rfl hH (i := 0) rfl (fun H1 hl hh => w_choice_Where hh hr_4) fun H' hH => ?_)
      refine WpOps.pn 1 rfl trivial ?_
      refine WpOps.nil ?_
      refine WpC.seq ?_
      refine WpC.seqR ?_
      refine WpOps.pn 1 rfl trivial ?_
      refine WpOps.nil ?_
      refine WpC.blockK (fun x : (Unit) × (Unit) => [(11, (bA r_1)), (18, (iA r_3.1.2))]) (fun x H' => (emendlaw13_ChoiceWhere_j4 r_1 r_3) x.1 = some r ∧ Holds H0 [] H') ?_ ?_
      ·
        obtain ⟨o_2, ho_2, hk_2⟩ := Sh.bind_some h
        refine WpC.loopS (emendlaw13_ChoiceWhere_b5 file_1 from_1 to_1 l_2 r_4) (fun (s : Int × GArena) (a : Unit) => [(2, (iA file_1)), (3, (iA from_1)), (4, (iA to_1)), (11, (bA r_1)), (12, (AV.rows 1 (List.map (cL 6 cGTok) l_2))), (15, (.lit (.pointer (some ⟨g_2, 0, none⟩)))), (18, (iA r_3.1.2)), (19, (iA r_4.1)), (20, (iA s.1))]) (fun (s : Int × GArena) (a : Unit) H' => Holds H0 [.many (arP g_2 s.2)] H') o_2 ((0 : Int), r_4.2) () ho_2 ⟨rfl, rfl, rfl, rfl, rfl, rfl, rfl, rfl, rfl, trivial⟩ hH ?_
        rintro ⟨set_1, a_1⟩ _ st_2 env H' h hd_2 hH
        refine WpC.seq ?_
        refine WpC.seqR ?_
        refine WpOps.pn 3 rfl trivial ?_
        refine WpOps.at 80 (len_map _ _) ?_
        refine WpOps.pn 1 rfl trivial ?_
        refine WpOps.nil ?_
        refine WpC.condB rfl (fun hb => ?_) (fun hb => ?_)
        ·
          replace h := Sh.ite_pos hb h
          refine WpC.skipD ?_
          refine ⟨_, Heap.le_refl _, ?_⟩
          refine WpC.seq ?_
          refine WpC.block ?_
          refine WpC.seqR ?_
          refine WpOps.pn 1 rfl trivial ?_
          refine WpOps.nil ?_
          refine WpC.seq ?_
          refine WpC.seqR ?_
          refine WpOps.pn 1 rfl trivial ?_
          refine WpOps.nil ?_
          refine WpC.blockK (fun x : (Bool) × (Unit) => [(2, (iA file_1)), (3, (iA from_1)), (4, (iA to_1)), (11, (bA r_1)), (12, (AV.rows 1 (List.map (cL 6 cGTok) l_2))), (15, (.lit (.pointer (some ⟨g_2, 0, none⟩)))), (18, (iA r_3.1.2)), (19, (iA r_4.1)), (20, (iA set_1)), (21, (bA x.1))]) (fun x H' => (emendlaw13_ChoiceWhere_j6 r_4 set_1 a_1) x.1 = some st_2 ∧ Holds H0 [.many (arP g_2 a_1)] H') ?_ ?_
          ·
            obtain ⟨o_3, ho_3, hk_3⟩ := Sh.bind_some h
            refine WpC.loopS (emendlaw13_ChoiceWhere_b7 file_1 from_1 to_1 l_2 set_1) (fun (s : Bool × Int) (a : Unit) => [(2, (iA file_1)), (3, (iA from_1)), (4, (iA to_1)), (11, (bA r_1)), (12, (AV.rows 1 (List.map (cL 6 cGTok) l_2))), (15, (.lit (.pointer (some ⟨g_2, 0, none⟩)))), (18, (iA r_3.1.2)), (19, (iA r_4.1)), (20, (iA set_1)), (21, (bA s.1)), (22, (iA s.2))]) (fun (s : Bool × Int) (a : Unit) H' => Holds H0 [.many (arP g_2 a_1)] H') o_3 (false, (0 : Int)) () ho_3 ⟨rfl, rfl, rfl, rfl, rfl, rfl, rfl, rfl, rfl, rfl, rfl, trivial⟩ hH ?_
            rintro ⟨in_1, i_2⟩ _ st_3 env H' h hd_3 hH
            refine WpC.seq ?_
            refine WpC.seqR ?_
            obtain ⟨y_2, hy_2, h⟩ := Sh.bind_some h
            refine WpOps.pn 3 rfl trivial ?_
            refine WpOps.consE (v := (.rop ((cL 6 cGTok) y_2))) rfl rfl (Exact.ixr (cL 6 cGTok) hy_2 rfl rfl rfl rfl (by kernel_rfl) (by decide)) ?_
            refine WpOps.consE (v := (AV.rows 6 (List.map cGTok y_2))) rfl rfl (Exact.load_rop rfl rfl rfl) ?_
            refine WpOps.pn 1 rfl trivial ?_
            refine WpOps.at 89 (len_map _ _) ?_
            refine WpOps.pn 1 rfl trivial ?_
            refine WpOps.nil ?_
            refine WpC.condB rfl (fun hb => ?_) (fun hb => ?_)
            ·
              replace h := Sh.ite_pos hb h
              refine WpC.skipD ?_
              refine ⟨_, Heap.le_refl _, ?_⟩
              refine WpC.seq ?_
              refine WpC.block ?_
              refine WpC.seqR ?_
              obtain ⟨y_3, hy_3, h⟩ := Sh.bind_some h
              refine WpOps.pn 2 rfl trivial ?_
              refine WpOps.consE (v := (.rop ((cL 6 cGTok) y_3))) rfl rfl (Exact.ixr (cL 6 cGTok) hy_3 rfl rfl rfl rfl (by kernel_rfl) (by decide)) ?_
              refine WpOps.consE (v := (AV.rows 6 (List.map cGTok y_3))) rfl rfl (Exact.load_rop rfl rfl rfl) ?_
              obtain ⟨y_4, hy_4, h⟩ := Sh.bind_some h
              refine WpOps.pn 1 rfl trivial ?_
              refine WpOps.consE (v := (.rop (cGTok y_4))) rfl rfl (Exact.ixr cGTok hy_4 rfl rfl rfl rfl (by kernel_rfl) (by decide)) ?_
              refine WpOps.consE (v := (AV.agg (cGTok y_4))) rfl rfl (Exact.load_rop rfl rfl rfl) ?_
              refine WpOps.consG rfl rfl (WpO.allocT (z := cGTok (GTok.mk (0 : Int) ([] : List UInt8) (0 : Int) (0 : Int) (0 : Int) false)) rfl rfl hH fun g_3 H' hH => ?_)
              refine WpOps.consG rfl rfl (WpO.putT (cs' := (cGTok y_4)) (v := (AV.agg (cGTok y_4))) rfl rfl hH (i := 0) rfl rfl rfl rfl rfl rfl rfl fun H' hH => ?_)
              refine WpOps.nil ?_
              refine WpC.regionD ?_
              refine WpOps.pn 1 rfl trivial ?_
              obtain ⟨b_2, g_4, h⟩ := Sh.bind_some h
              refine WpOps.cutB 18 118 (bA b_2) rfl ?_ ?_
              ·
                refine WpOps.pn 1 rfl trivial ?_
                refine WpOps.split 101 rfl (fun hb => ?_) (fun hb => ?_)
                ·
                  replace g_4 := Sh.ite_pos hb g_4
                  refine WpOps.pn 17 rfl trivial ?_
                  refine WpOps.nil ?_
                  obtain rfl := Sh.some_inj g_4
                  exact ⟨rfl, rfl⟩
                ·
                  replace g_4 := Sh.ite_neg hb g_4
                  refine WpOps.pn 1 rfl trivial ?_
                  refine WpOps.consE (v := (iA y_4.file_)) rfl rfl (Exact.load rfl rfl (hH.cell (i := 0) rfl) rfl rfl) ?_
                  refine WpOps.pn 2 rfl trivial ?_
                  obtain ⟨b_3, g_5, g_4⟩ := Sh.bind_some g_4
                  refine WpOps.cutB 6 111 (bA b_3) rfl ?_ ?_
                  ·
                    refine WpOps.pn 1 rfl trivial ?_
                    refine WpOps.split 106 rfl (fun hb => ?_) (fun hb => ?_)
                    ·
                      replace g_5 := Sh.ite_pos hb g_5
                      refine WpOps.pn 1 rfl trivial ?_
                      refine WpOps.consE (v := (iA y_4.from_)) rfl rfl (Exact.load rfl rfl (hH.cell (i := 0) rfl) rfl rfl) ?_
                      refine WpOps.pn 3 rfl trivial ?_
                      refine WpOps.nil ?_
                      obtain rfl := Sh.some_inj g_5
                      exact ⟨rfl, rfl⟩
                    ·
                      replace g_5 := Sh.ite_neg hb g_5
                      refine WpOps.pn 5 rfl trivial ?_
                      refine WpOps.nil ?_
                      obtain rfl := Sh.some_inj g_5
                      exact ⟨rfl, rfl⟩
                  intro env
                  obtain ⟨b_4, g_6, g_4⟩ := Sh.bind_some g_4
                  refine WpOps.cutB 6 117 (bA b_4) rfl ?_ ?_
                  ·
                    refine WpOps.pn 1 rfl trivial ?_
                    refine WpOps.split 112 rfl (fun hb => ?_) (fun hb => ?_)
                    ·
                      replace g_6 := Sh.ite_pos hb g_6
                      refine WpOps.pn 1 rfl trivial ?_
                      refine WpOps.consE (v := (iA y_4.to)) rfl rfl (Exact.load rfl rfl (hH.cell (i := 0) rfl) rfl rfl) ?_
                      refine WpOps.pn 3 rfl trivial ?_
                      refine WpOps.nil ?_
                      obtain rfl := Sh.some_inj g_6
                      exact ⟨rfl, rfl⟩
                    ·
                      replace g_6 := Sh.ite_neg hb g_6
                      refine WpOps.pn 5 rfl trivial ?_
                      refine WpOps.nil ?_
                      obtain rfl := Sh.some_inj g_6
                      exact ⟨rfl, rfl⟩
                  intro env
                  refine WpOps.pn 1 rfl trivial ?_
                  refine WpOps.nil ?_
                  obtain rfl := Sh.some_inj g_4
                  exact ⟨rfl, rfl⟩
              intro env
              refine WpOps.pn 1 rfl trivial ?_
              refine WpOps.nil ?_
              refine ⟨_, Heap.le_refl _, ?_⟩
              refine WpC.regionD ?_
              obtain ⟨c_6, h⟩ := Sh.chk_some h
              refine WpOps.pn 3 rfl c_6 ?_
              refine WpOps.nil ?_
              obtain ⟨_, hle_1, hH⟩ := hH.lose_ (i := 0) rfl
              obtain rfl := Sh.some_inj h
              exact ⟨_, hle_1, (b_2, (i_2 + (1 : Int))), (), rfl, ⟨rfl, rfl, rfl, rfl, rfl, rfl, rfl, rfl, rfl, rfl, rfl, trivial⟩, hH⟩
            ·
              replace h := Sh.ite_neg hb h
              obtain rfl := Sh.some_inj h
              have e := hd_3 _ rfl
              subst e
              refine WpC.exit ?_
              exact ⟨(in_1, ()), ⟨rfl, rfl, rfl, rfl, rfl, rfl, rfl, rfl, rfl, rfl, trivial⟩, hk_3, hH⟩
          ·
            rintro ⟨in_2, _⟩ env H' ⟨h, hH⟩
            try dsimp only at h
            refine ⟨_, Heap.le_refl _, ?_⟩
            refine WpC.seqR ?_
            obtain ⟨r_5, hr_5, h⟩ := Sh.bind_some h
            refine WpOps.pn 3 rfl trivial ?_
            refine WpOps.consG rfl rfl (WpO.callT (v := (.tup [(bA r_5.1.1), (iA r_5.1.2)])) rfl rfl rfl hH (i := 0) rfl (fun H1 hl hh => w_bdd_Holds hh hr_5) fun H' hH => ?_)
            refine WpOps.pn 5 rfl trivial ?_
            refine WpOps.nil ?_
            refine WpC.seqR ?_
            refine WpOps.pn 2 rfl trivial ?_
            obtain ⟨b_5, g_7, h⟩ := Sh.bind_some h
            refine WpOps.cutB 5 132 (bA b_5) rfl ?_ ?_
            ·
              refine WpOps.pn 1 rfl trivial ?_
              refine WpOps.split 128 rfl (fun hb => ?_) (fun hb => ?_)
              ·
                replace g_7 := Sh.ite_pos hb g_7
                refine WpOps.pn 4 rfl trivial ?_
                refine WpOps.nil ?_
                obtain rfl := Sh.some_inj g_7
                exact ⟨rfl, rfl⟩
              ·
                replace g_7 := Sh.ite_neg hb g_7
                refine WpOps.pn 4 rfl trivial ?_
                refine WpOps.nil ?_
                obtain rfl := Sh.some_inj g_7
                exact ⟨rfl, rfl⟩
            intro env
            refine WpOps.nil ?_
            refine WpC.condB rfl (fun hb => ?_) (fun hb => ?_)
            ·
              replace h := Sh.ite_pos hb h
              refine WpC.seqR ?_
              refine WpOps.pn 1 rfl trivial ?_
              refine WpOps.nil ?_
              refine WpC.lose (i := 0) hH rfl (fun H' hH => ?_)
              obtain rfl := Sh.some_inj h
              have e := hd_2 _ rfl
              subst e
              have h := hk_2
              obtain rfl := Sh.some_inj h
              refine WpC.ret ?_
              exact VEnds.ret1 rfl rfl ⟨rfl, hH⟩
            ·
              replace h := Sh.ite_neg hb h
              refine WpC.skipD ?_
              refine ⟨_, Heap.le_refl _, ?_⟩
              refine WpC.regionD ?_
              obtain ⟨c_7, h⟩ := Sh.chk_some h
              refine WpOps.pn 3 rfl c_7 ?_
              refine WpOps.nil ?_
              obtain rfl := Sh.some_inj h
              exact ⟨_, (Heap.le_refl _), ((set_1 + (1 : Int)), r_5.2), (), rfl, ⟨rfl, rfl, rfl, rfl, rfl, rfl, rfl, rfl, rfl, trivial⟩, hH⟩
        ·
          replace h := Sh.ite_neg hb h
          refine WpC.lose (i := 0) hH rfl (fun H' hH => ?_)
          obtain rfl := Sh.some_inj h
          have e := hd_2 _ rfl
          subst e
          refine WpC.exit ?_
          exact ⟨((), ()), ⟨rfl, rfl, trivial⟩, hk_2, hH⟩
      ·
        rintro ⟨_, _⟩ env H' ⟨h, hH⟩
        try dsimp only at h
        refine ⟨_, Heap.le_refl _, ?_⟩
        refine WpC.seqR ?_
        refine WpOps.pn 1 rfl trivial ?_
        obtain ⟨b_6, g_8, h⟩ := Sh.bind_some h
        refine WpOps.cutB 4 137 (bA b_6) rfl ?_ ?_
        ·
          refine WpOps.pn 1 rfl trivial ?_
          refine WpOps.split 134 rfl (fun hb => ?_) (fun hb => ?_)
          ·
            replace g_8 := Sh.ite_pos hb g_8
            refine WpOps.pn 3 rfl trivial ?_
            refine WpOps.nil ?_
            obtain rfl := Sh.some_inj g_8
            exact ⟨rfl, rfl⟩
          ·
            replace g_8 := Sh.ite_neg hb g_8
            refine WpOps.pn 3 rfl trivial ?_
            refine WpOps.nil ?_
            obtain rfl := Sh.some_inj g_8
            exact ⟨rfl, rfl⟩
        intro env
        refine WpOps.pn 1 rfl trivial ?_
        refine WpOps.nil ?_
        obtain rfl := Sh.some_inj h
        refine WpC.ret ?_
        exact VEnds.ret1 rfl rfl ⟨rfl, hH⟩

theorem w_emendlaw13_ChoiceTwice {H0 : Heap} (hG : Glob H0) {vars_1 : Int} {texts_1 : List (List UInt8)} {i_1 : Int} {k_1 : Int} {r : Bool} (h : emendlaw13_ChoiceTwice vars_1 texts_1 i_1 k_1 = some r) : TCall Tryd.prog 7 [(iA vars_1), (AV.rows 1 (List.map cS texts_1)), (iA i_1), (iA k_1)] H0 (fun v H' => v = (bA r) ∧ H' = H0) noE := by
  refine id (TCall.body Tryd.func7 rfl rfl ?_)
  have hH : Holds H0 [] H0 := rfl
  refine WpC.seqR ?_
  refine WpOps.pn 1 rfl trivial ?_
  refine WpOps.nil ?_
  refine WpC.seqR ?_
  obtain ⟨r_1, hr_1, h⟩ := Sh.bind_some h
  refine WpOps.consE (v := (bA r_1)) rfl rfl (Exact.call rfl rfl rfl (w_emendlaw13_awake (hG.up hH) hr_1)) ?_
  refine WpOps.pn 1 rfl trivial ?_
  refine WpOps.nil ?_
  refine WpC.seqR ?_
  obtain ⟨r_2, hr_2, h⟩ := Sh.bind_some h
  refine WpOps.pn 2 rfl trivial ?_
  refine WpOps.consE (v := (.tup [(AV.rows 1 (List.map (cL 6 cGTok) r_2.1)), (bA r_2.2)])) rfl rfl (Exact.call rfl rfl rfl (w_emendlaw13_lists (hG.up hH) hr_2)) ?_
  refine WpOps.pn 5 rfl trivial ?_
  refine WpOps.nil ?_
  refine WpC.seq ?_
  refine WpC.seqR ?_
  refine WpOps.pn 2 rfl trivial ?_
  obtain ⟨b_1, g_1, h⟩ := Sh.bind_some h
  refine WpOps.cutB 4 38 (bA b_1) rfl ?_ ?_
  ·
    refine WpOps.pn 1 rfl trivial ?_
    refine WpOps.split 35 rfl (fun hb => ?_) (fun hb => ?_)
    ·
      replace g_1 := Sh.ite_pos hb g_1
      refine WpOps.pn 3 rfl trivial ?_
      refine WpOps.nil ?_
      obtain rfl := Sh.some_inj g_1
      exact ⟨rfl, rfl⟩
    ·
      replace g_1 := Sh.ite_neg hb g_1
      refine WpOps.pn 3 rfl trivial ?_
      refine WpOps.nil ?_
      obtain rfl := Sh.some_inj g_1
      exact ⟨rfl, rfl⟩
  intro env
  obtain ⟨b_2, g_2, h⟩ := Sh.bind_some h
  refine WpOps.cutB 4 42 (bA b_2) rfl ?_ ?_
  ·
    refine WpOps.pn 1 rfl trivial ?_
    refine WpOps.split 39 rfl (fun hb => ?_) (fun hb => ?_)
    ·
      replace g_2 := Sh.ite_pos hb g_2
      refine WpOps.pn 3 rfl trivial ?_
      refine WpOps.nil ?_
      obtain rfl := Sh.some_inj g_2
      exact ⟨rfl, rfl⟩
    ·
      replace g_2 := Sh.ite_neg hb g_2
      refine WpOps.pn 3 rfl trivial ?_
      refine WpOps.nil ?_
      obtain rfl := Sh.some_inj g_2
      exact ⟨rfl, rfl⟩
  intro env
  obtain ⟨b_3, g_3, h⟩ := Sh.bind_some h
  refine WpOps.cutB 5 47 (bA b_3) rfl ?_ ?_
  ·
    refine WpOps.pn 1 rfl trivial ?_
    refine WpOps.split 43 rfl (fun hb => ?_) (fun hb => ?_)
    ·
      replace g_3 := Sh.ite_pos hb g_3
      refine WpOps.pn 4 rfl trivial ?_
      refine WpOps.nil ?_
      obtain rfl := Sh.some_inj g_3
      exact ⟨rfl, rfl⟩
    ·
      replace g_3 := Sh.ite_neg hb g_3
      refine WpOps.pn 4 rfl trivial ?_
      refine WpOps.nil ?_
      obtain rfl := Sh.some_inj g_3
      exact ⟨rfl, rfl⟩
  intro env
  obtain ⟨b_4, g_4, h⟩ := Sh.bind_some h
  refine WpOps.cutB 5 52 (bA b_4) rfl ?_ ?_
  ·
    refine WpOps.pn 1 rfl trivial ?_
    refine WpOps.split 48 rfl (fun hb => ?_) (fun hb => ?_)
    ·
      replace g_4 := Sh.ite_pos hb g_4
      refine WpOps.pn 4 rfl trivial ?_
      refine WpOps.nil ?_
      obtain rfl := Sh.some_inj g_4
      exact ⟨rfl, rfl⟩
    ·
      replace g_4 := Sh.ite_neg hb g_4
      refine WpOps.pn 4 rfl trivial ?_
      refine WpOps.nil ?_
      obtain rfl := Sh.some_inj g_4
      exact ⟨rfl, rfl⟩
  intro env
  refine WpOps.nil ?_
  refine WpC.condB rfl (fun hb => ?_) (fun hb => ?_)
  ·
    replace h := Sh.ite_pos hb h
    refine WpC.seqR ?_
    refine WpOps.pn 2 rfl trivial ?_
    refine WpOps.nil ?_
    obtain rfl := Sh.some_inj h
    refine WpC.ret ?_
    exact VEnds.ret1 rfl rfl ⟨rfl, hH⟩
  ·
    replace h := Sh.ite_neg hb h
    refine WpC.skipD ?_
    refine ⟨_, Heap.le_refl _, ?_⟩
    refine WpC.seqR ?_
    obtain ⟨c_1, h⟩ := Sh.chk_some h
    refine WpOps.pn 1 rfl trivial ?_
    refine WpOps.consG rfl rfl (WpO.callM (F := fun g => .tup [.lit (.pointer (some ⟨g, 0, none⟩)), iA (0 : Int)]) (p := fun g => arP g (newG (vars_1).toNat)) rfl rfl rfl hH (w_bdd_New c_1) fun g_5 H' hH => ?_)
    refine WpOps.pn 5 rfl trivial ?_
    refine WpOps.nil ?_
    refine WpC.seq ?_
    refine WpC.seqR ?_
    refine WpOps.pn 2 rfl trivial ?_
    refine WpOps.nil ?_
    refine WpC.condF rfl ?_
    refine WpC.skipD ?_
    refine ⟨_, Heap.le_refl _, ?_⟩
    refine WpC.seqR ?_
    obtain ⟨r_3, hr_3, h⟩ := Sh.bind_some h
    refine WpOps.pn 2 rfl trivial ?_
    refine WpOps.consG rfl rfl (WpO.callT (v := (.tup [(iA r_3.1.1), (iA r_3.1.2)])) rfl rfl rfl hH (i := 0) rfl (fun H1 hl hh => w_bdd_Var hh hr_3) fun H' hH => ?_)
    refine WpOps.pn 5 rfl trivial ?_
    refine WpOps.nil ?_
    refine WpC.seqR ?_
    obtain ⟨r_4, hr_4, h⟩ := Sh.bind_some h
    refine WpOps.pn 2 rfl trivial ?_
    refine WpOps.consG rfl rfl (WpO.callT (v := (.tup [(iA r_4.1.1), (iA r_4.1.2)])) rfl rfl rfl hH (i := 0) rfl (fun H1 hl hh => w_bdd_Var hh hr_4) fun H' hH => ?_)
    refine WpOps.pn 5 rfl trivial ?_
    refine WpOps.nil ?_
    refine WpC.seqR ?_
    obtain ⟨r_5, hr_5, h⟩ := Sh.bind_some h
    refine WpOps.pn 3 rfl trivial ?_
    refine WpOps.consG rfl rfl (WpO.callT (v := (.tup [(iA r_5.1.1), (iA r_5.1.2)])) rfl rfl rfl hH (i := 0) rfl (fun H1 hl hh => w_bdd_And hh hr_5) fun H' hH => ?_)
    refine WpOps.pn 5 rfl trivial ?_
    refine WpOps.nil ?_
    refine WpC.seqR ?_
    obtain ⟨r_6, hr_6, h⟩ := Sh.bind_some h
    refine WpOps.pn 2 rfl trivial ?_
    refine WpOps.consG rfl rfl (WpO.callT (v := (.tup [(AV.rows 7 (List.map cGChoice_CTok r_6.1.1)), (iA r_6.1.2)])) rfl rfl rfl hH (i := 0) rfl (fun H1 hl hh => w_choice_Merge hh hr_6) fun H' hH => ?_)
    refine WpOps.pn 5 rfl trivial ?_
    refine WpOps.nil ?_
    refine WpC.seqR ?_
    obtain ⟨r_7, hr_7, h⟩ := Sh.bind_some h
    refine WpOps.pn 4 rfl trivial ?_
    refine WpOps.consG rfl rfl (WpO.callT (v := (AV.rows 7 (List.map cGChoice_CTok r_7.1))) rfl rfl rfl hH (i := 0) rfl (fun H1 hl hh => w_choice_Keep hh hr_7) fun H' hH => ?_)
    obtain ⟨r_8, hr_8, h⟩ := Sh.bind_some h
    refine WpOps.pn 1 rfl trivial ?_
    refine WpOps.consG rfl rfl (WpO.callT (v := (AV.rows 7 (List.map cGChoice_CTok r_8.1))) rfl rfl rfl hH (i := 0) rfl (fun H1 hl hh => w_choice_Keep hh hr_8) fun H' hH => ?_)
    refine WpOps.pn 1 rfl trivial ?_
    refine WpOps.nil ?_
    refine WpC.seqR ?_
    obtain ⟨r_9, hr_9, h⟩ := Sh.bind_some h
    refine WpOps.pn 4 rfl trivial ?_
    refine WpOps.consG rfl rfl (WpO.callT (v := (AV.rows 7 (List.map cGChoice_CTok r_9.1))) rfl rfl rfl hH (i := 0) rfl (fun H1 hl hh => w_choice_Keep hh hr_9) fun H' hH => ?_)
    obtain ⟨r_10, hr_10, h⟩ := Sh.bind_some h
    refine WpOps.pn 1 rfl trivial ?_
    refine WpOps.consG rfl rfl (WpO.callT (v := (AV.rows 7 (List.map cGChoice_CTok r_10.1))) rfl rfl rfl hH (i := 0) rfl (fun H1 hl hh => w_choice_Keep hh hr_10) fun H' hH => ?_)
    refine WpOps.pn 1 rfl trivial ?_
    refine WpOps.nil ?_
    refine WpC.seqR ?_
    obtain ⟨r_11, hr_11, h⟩ := Sh.bind_some h
    refine WpOps.pn 3 rfl trivial ?_
    refine WpOps.consG rfl rfl (WpO.callT (v := (AV.rows 7 (List.map cGChoice_CTok r_11.1))) rfl rfl rfl hH (i := 0) rfl (fun H1 hl hh => w_choice_Keep hh hr_11) fun H' hH => ?_)
    refine WpOps.pn 1 rfl trivial ?_
    refine WpOps.nil ?_
    refine WpC.seq ?_
    refine WpC.seqR ?_
    refine WpOps.pn 2 rfl trivial ?_
    obtain ⟨b_5, g_6, h⟩ := Sh.bind_some h
    refine WpOps.cutB 7 112 (bA b_5) rfl ?_ ?_
    ·
      refine WpOps.pn 1 rfl trivial ?_
      refine WpOps.split 106 rfl (fun hb => ?_) (fun hb => ?_)
      ·
        replace g_6 := Sh.ite_pos hb g_6
        refine WpOps.pn 6 rfl trivial ?_
        refine WpOps.nil ?_
        obtain rfl := Sh.some_inj g_6
        exact ⟨rfl, rfl⟩
      ·
        replace g_6 := Sh.ite_neg hb g_6
        refine WpOps.pn 2 rfl trivial ?_
        refine WpOps.at 108 (len_map _ _) ?_
        refine WpOps.pn 2 rfl trivial ?_
        refine WpOps.at 110 (len_map _ _) ?_
        refine WpOps.pn 2 rfl trivial ?_
        refine WpOps.nil ?_
        obtain rfl := Sh.some_inj g_6
        exact ⟨rfl, rfl⟩
    intro env
    obtain ⟨b_6, g_7, h⟩ := Sh.bind_some h
    refine WpOps.cutB 7 119 (bA b_6) rfl ?_ ?_
    ·
      refine WpOps.pn 1 rfl trivial ?_
      refine WpOps.split 113 rfl (fun hb => ?_) (fun hb => ?_)
      ·
        replace g_7 := Sh.ite_pos hb g_7
        refine WpOps.pn 6 rfl trivial ?_
        refine WpOps.nil ?_
        obtain rfl := Sh.some_inj g_7
        exact ⟨rfl, rfl⟩
      ·
        replace g_7 := Sh.ite_neg hb g_7
        refine WpOps.pn 2 rfl trivial ?_
        refine WpOps.at 115 (len_map _ _) ?_
        refine WpOps.pn 2 rfl trivial ?_
        refine WpOps.at 117 (len_map _ _) ?_
        refine WpOps.pn 2 rfl trivial ?_
        refine WpOps.nil ?_
        obtain rfl := Sh.some_inj g_7
        exact ⟨rfl, rfl⟩
    intro env
    refine WpOps.nil ?_
    refine WpC.condB rfl (fun hb => ?_) (fun hb => ?_)
    ·
      replace h := Sh.ite_pos hb h
      refine WpC.seqR ?_
      refine WpOps.pn 1 rfl trivial ?_
      refine WpOps.nil ?_
      refine WpC.lose (i := 0) hH rfl (fun H' hH => ?_)
      obtain rfl := Sh.some_inj h
      refine WpC.ret ?_
      exact VEnds.ret1 rfl rfl ⟨rfl, hH⟩
    ·
      replace h := Sh.ite_neg hb h
      refine WpC.skipD ?_
      refine ⟨_, Heap.le_refl _, ?_⟩
      refine WpC.seq ?_
      refine WpC.seqR ?_
      refine WpOps.pn 1 rfl trivial ?_
      refine WpOps.nil ?_
      refine WpC.lose (i := 0) hH rfl (fun H' hH => ?_)
      refine WpC.blockK (fun x : (Unit) × (Unit) => [(9, (bA r_1))]) (fun x H' => (emendlaw13_ChoiceTwice_j1 r_1) x.1 = some r ∧ Holds H0 [] H') ?_ ?_
      ·
        obtain ⟨o_1, ho_1, hk_1⟩ := Sh.bind_some h
        refine WpC.loopS (emendlaw13_ChoiceTwice_b2 r_8 r_10 r_11) (fun (s : Int) (a : Unit) => [(9, (bA r_1)), (22, (AV.rows 7 (List.map cGChoice_CTok r_8.1))), (23, (AV.rows 7 (List.map cGChoice_CTok r_10.1))), (24, (AV.rows 7 (List.map cGChoice_CTok r_11.1))), (25, (iA s))]) (fun (s : Int) (a : Unit) H' => Holds H0 [] H') o_1 (0 : Int) () ho_1 ⟨rfl, rfl, rfl, rfl, rfl, trivial⟩ hH ?_
        rintro j_1 _ st_1 env H' h hd_1 hH
        refine WpC.seq ?_
        refine WpC.seqR ?_
        refine WpOps.pn 3 rfl trivial ?_
        refine WpOps.at 122 (len_map _ _) ?_
        refine WpOps.pn 1 rfl trivial ?_
        refine WpOps.nil ?_
        refine WpC.condB rfl (fun hb => ?_) (fun hb => ?_)
        ·
          replace h := Sh.ite_pos hb h
          refine WpC.skipD ?_
          refine ⟨_, Heap.le_refl _, ?_⟩
          refine WpC.seq ?_
          refine WpC.block ?_
          refine WpC.seqD [] [0, 1, 2, 3, 4, 5, 6, 7, 8, 9, 10, 11, 12, 13, 14, 15, 16, 17, 18, 19, 20, 21, 22, 23, 24, 25, 26, 27, 28, 29, 30, 31, 32, 33, 34, 35, 36, 37, 38, 39, 40, 41, 42, 43, 44, 45, 46, 47, 48, 49] (by kernel_rfl) (by kernel_rfl) ?_
          obtain ⟨y_1, hy_1, h⟩ := Sh.bind_some h
          refine WpPi.pn 2 rfl trivial ?_
          refine WpPi.consI (v := (.rop (cGChoice_CTok y_1))) rfl rfl rfl rfl (fun _ => Exact.ixr cGChoice_CTok hy_1 rfl rfl rfl rfl (by kernel_rfl) (by decide)) ?_
          refine WpPi.pn 1 rfl trivial ?_
          refine WpPi.consI (v := (AV.agg (cGTok y_1.t))) rfl rfl rfl rfl (fun _ => Exact.load_rop rfl rfl rfl) ?_
          obtain ⟨y_2, hy_2, h⟩ := Sh.bind_some h
          refine WpPi.pn 2 rfl trivial ?_
          refine WpPi.consI (v := (.rop (cGChoice_CTok y_2))) rfl rfl rfl rfl (fun _ => Exact.ixr cGChoice_CTok hy_2 rfl rfl rfl rfl (by kernel_rfl) (by decide)) ?_
          refine WpPi.pn 1 rfl trivial ?_
          refine WpPi.consI (v := (AV.agg (cGTok y_2.t))) rfl rfl rfl rfl (fun _ => Exact.load_rop rfl rfl rfl) ?_
          refine WpPi.consI (v := (bA (!decide (y_1.t = y_2.t)))) rfl rfl rfl rfl (fun _ => Exact.neqStruct rfl rfl rfl (eqL_GTok y_1.t y_2.t) (by kernel_rfl) rfl (by kernel_rfl)) ?_
          obtain ⟨b_7, g_8, h⟩ := Sh.bind_some h
          refine WpPi.cutB 13 149 (bA b_7) rfl ?_ ?_
          ·
            refine WpPi.pn 1 rfl trivial ?_
            refine WpPi.split 137 rfl (fun hb => ?_) (fun hb => ?_)
            ·
              replace g_8 := Sh.ite_pos hb g_8
              refine WpPi.pn 2 rfl trivial ?_
              refine WpPi.skip rfl rfl rfl ?_
              refine WpPi.pn 1 rfl trivial ?_
              refine WpPi.skip rfl rfl rfl ?_
              refine WpPi.pn 2 rfl trivial ?_
              refine WpPi.skip rfl rfl rfl ?_
              refine WpPi.pn 1 rfl trivial ?_
              refine WpPi.skip rfl rfl rfl ?_
              refine WpPi.pn 2 rfl trivial ?_
              refine WpPi.nil ?_
              obtain rfl := Sh.some_inj g_8
              exact ⟨rfl, rfl⟩
            ·
              replace g_8 := Sh.ite_neg hb g_8
              obtain ⟨y_3, hy_3, g_8⟩ := Sh.bind_some g_8
              refine WpPi.pn 2 rfl trivial ?_
              refine WpPi.consI (v := (.rop (cGChoice_CTok y_3))) rfl rfl rfl rfl (fun _ => Exact.ixr cGChoice_CTok hy_3 rfl rfl rfl rfl (by kernel_rfl) (by decide)) ?_
              refine WpPi.pn 1 rfl trivial ?_
              refine WpPi.consI (v := (AV.agg (cGTok y_3.t))) rfl rfl rfl rfl (fun _ => Exact.load_rop rfl rfl rfl) ?_
              obtain ⟨y_4, hy_4, g_8⟩ := Sh.bind_some g_8
              refine WpPi.pn 2 rfl trivial ?_
              refine WpPi.consI (v := (.rop (cGChoice_CTok y_4))) rfl rfl rfl rfl (fun _ => Exact.ixr cGChoice_CTok hy_4 rfl rfl rfl rfl (by kernel_rfl) (by decide)) ?_
              refine WpPi.pn 1 rfl trivial ?_
              refine WpPi.consI (v := (AV.agg (cGTok y_4.t))) rfl rfl rfl rfl (fun _ => Exact.load_rop rfl rfl rfl) ?_
              refine WpPi.consI (v := (bA (!decide (y_3.t = y_4.t)))) rfl rfl rfl rfl (fun _ => Exact.neqStruct rfl rfl rfl (eqL_GTok y_3.t y_4.t) (by kernel_rfl) rfl (by kernel_rfl)) ?_
              refine WpPi.pn 1 rfl trivial ?_
              refine WpPi.nil ?_
              obtain rfl := Sh.some_inj g_8
              exact ⟨rfl, rfl⟩
          intro env
          obtain ⟨b_8, g_9, h⟩ := Sh.bind_some h
          refine WpPi.cutB 13 162 (bA b_8) rfl ?_ ?_
          ·
            refine WpPi.pn 1 rfl trivial ?_
            refine WpPi.split 150 rfl (fun hb => ?_) (fun hb => ?_)
            ·
              replace g_9 := Sh.ite_pos hb g_9
              refine WpPi.pn 2 rfl trivial ?_
              refine WpPi.skip rfl rfl rfl ?_
              refine WpPi.pn 1 rfl trivial ?_
              refine WpPi.skip rfl rfl rfl ?_
              refine WpPi.pn 2 rfl trivial ?_
              refine WpPi.skip rfl rfl rfl ?_
              refine WpPi.pn 1 rfl trivial ?_
              refine WpPi.skip rfl rfl rfl ?_
              refine WpPi.pn 2 rfl trivial ?_
              refine WpPi.nil ?_
              obtain rfl := Sh.some_inj g_9
              exact ⟨rfl, rfl⟩
            ·
              replace g_9 := Sh.ite_neg hb g_9
              obtain ⟨y_5, hy_5, g_9⟩ := Sh.bind_some g_9
              refine WpPi.pn 2 rfl trivial ?_
              refine WpPi.consI (v := (.rop (cGChoice_CTok y_5))) rfl rfl rfl rfl (fun _ => Exact.ixr cGChoice_CTok hy_5 rfl rfl rfl rfl (by kernel_rfl) (by decide)) ?_
              refine WpPi.pn 1 rfl trivial ?_
              refine WpPi.consI (v := (iA y_5.cond)) rfl rfl rfl rfl (fun _ => Exact.load_rop rfl rfl rfl) ?_
              obtain ⟨y_6, hy_6, g_9⟩ := Sh.bind_some g_9
              refine WpPi.pn 2 rfl trivial ?_
              refine WpPi.consI (v := (.rop (cGChoice_CTok y_6))) rfl rfl rfl rfl (fun _ => Exact.ixr cGChoice_CTok hy_6 rfl rfl rfl rfl (by kernel_rfl) (by decide)) ?_
              refine WpPi.pn 1 rfl trivial ?_
              refine WpPi.consI (v := (iA y_6.cond)) rfl rfl rfl rfl (fun _ => Exact.load_rop rfl rfl rfl) ?_
              refine WpPi.pn 2 rfl trivial ?_
              refine WpPi.nil ?_
              obtain rfl := Sh.some_inj g_9
              exact ⟨rfl, rfl⟩
          intro env
          obtain ⟨b_9, g_10, h⟩ := Sh.bind_some h
          refine WpPi.cutB 13 175 (bA b_9) rfl ?_ ?_
          ·
            refine WpPi.pn 1 rfl trivial ?_
            refine WpPi.split 163 rfl (fun hb => ?_) (fun hb => ?_)
            ·
              replace g_10 := Sh.ite_pos hb g_10
              refine WpPi.pn 2 rfl trivial ?_
              refine WpPi.skip rfl rfl rfl ?_
              refine WpPi.pn 1 rfl trivial ?_
              refine WpPi.skip rfl rfl rfl ?_
              refine WpPi.pn 2 rfl trivial ?_
              refine WpPi.skip rfl rfl rfl ?_
              refine WpPi.pn 1 rfl trivial ?_
              refine WpPi.skip rfl rfl rfl ?_
              refine WpPi.pn 2 rfl trivial ?_
              refine WpPi.nil ?_
              obtain rfl := Sh.some_inj g_10
              exact ⟨rfl, rfl⟩
            ·
              replace g_10 := Sh.ite_neg hb g_10
              obtain ⟨y_7, hy_7, g_10⟩ := Sh.bind_some g_10
              refine WpPi.pn 2 rfl trivial ?_
              refine WpPi.consI (v := (.rop (cGChoice_CTok y_7))) rfl rfl rfl rfl (fun _ => Exact.ixr cGChoice_CTok hy_7 rfl rfl rfl rfl (by kernel_rfl) (by decide)) ?_
              refine WpPi.pn 1 rfl trivial ?_
              refine WpPi.consI (v := (iA y_7.cond)) rfl rfl rfl rfl (fun _ => Exact.load_rop rfl rfl rfl) ?_
              obtain ⟨y_8, hy_8, g_10⟩ := Sh.bind_some g_10
              refine WpPi.pn 2 rfl trivial ?_
              refine WpPi.consI (v := (.rop (cGChoice_CTok y_8))) rfl rfl rfl rfl (fun _ => Exact.ixr cGChoice_CTok hy_8 rfl rfl rfl rfl (by kernel_rfl) (by decide)) ?_
              refine WpPi.pn 1 rfl trivial ?_
              refine WpPi.consI (v := (iA y_8.cond)) rfl rfl rfl rfl (fun _ => Exact.load_rop rfl rfl rfl) ?_
              refine WpPi.pn 2 rfl trivial ?_
              refine WpPi.nil ?_
              obtain rfl := Sh.some_inj g_10
              exact ⟨rfl, rfl⟩
          intro env
          refine WpPi.nil ?_
          refine WpC.condB rfl (fun hb => ?_) (fun hb => ?_)
          ·
            replace h := Sh.ite_pos hb h
            refine WpC.seqR ?_
            refine WpOps.pn 1 rfl trivial ?_
            refine WpOps.nil ?_
            obtain rfl := Sh.some_inj h
            have e := hd_1 _ rfl
            subst e
            have h := hk_1
            obtain rfl := Sh.some_inj h
            refine WpC.ret ?_
            exact VEnds.ret1 rfl rfl ⟨rfl, hH⟩
          ·
            replace h := Sh.ite_neg hb h
            refine WpC.skipD ?_
            refine ⟨_, Heap.le_refl _, ?_⟩
            refine WpC.regionD ?_
            obtain ⟨c_2, h⟩ := Sh.chk_some h
            refine WpOps.pn 3 rfl c_2 ?_
            refine WpOps.nil ?_
            obtain rfl := Sh.some_inj h
            exact ⟨_, (Heap.le_refl _), (j_1 + (1 : Int)), (), rfl, ⟨rfl, rfl, rfl, rfl, rfl, trivial⟩, hH⟩
        ·
          replace h := Sh.ite_neg hb h
          obtain rfl := Sh.some_inj h
          have e := hd_1 _ rfl
          subst e
          refine WpC.exit ?_
          exact ⟨((), ()), ⟨rfl, trivial⟩, hk_1, hH⟩
      ·
        rintro ⟨_, _⟩ env H' ⟨h, hH⟩
        try dsimp only at h
        refine ⟨_, Heap.le_refl _, ?_⟩
        refine WpC.seqR ?_
        refine WpOps.pn 2 rfl trivial ?_
        refine WpOps.nil ?_
        obtain rfl := Sh.some_inj h
        refine WpC.ret ?_
        exact VEnds.ret1 rfl rfl ⟨rfl, hH⟩

end Go.Proofs.YtffgaoehhmgbjaaDoor
