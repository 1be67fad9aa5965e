/-
  The code computes what the plain functions say. Printed by a tool.
-/
import Derived.Test.YtghnfeflknfclaaDoorWb
set_option linter.unusedVariables false
set_option linter.unusedSimpArgs false
set_option maxRecDepth 20000
set_option maxHeartbeats 8000000
namespace Go.Proofs.YtghnfeflknfclaaDoor
open Go Go.Vc Go.Sh
attribute [local irreducible] WpC WpOps WpPi WpO Exact TCall VEnds Sh.loopS DEnds

theorem w_emendref03_Alike {H0 : Heap} {a_1 : List GTok} {b_1 : List GTok} {r : Bool} (h : emendref03_Alike a_1 b_1 = some r) : TCall Tryd.prog 68 [(AV.rows 6 (List.map cGTok a_1)), (AV.rows 6 (List.map cGTok b_1))] H0 (fun v H' => v = (bA r) ∧ H' = H0) noE := by
  refine id (TCall.body Tryd.func68 rfl rfl ?_)
  have hH : Holds H0 [] H0 := rfl
  refine WpC.seqR ?_
  refine WpOps.pn 1 rfl trivial ?_
  refine WpOps.nil ?_
  refine WpC.seq ?_
  refine WpC.seqR ?_
  refine WpOps.pn 2 rfl trivial ?_
  refine WpOps.at 7 (len_map _ _) ?_
  refine WpOps.pn 2 rfl trivial ?_
  refine WpOps.at 9 (len_map _ _) ?_
  refine WpOps.pn 1 rfl trivial ?_
  refine WpOps.nil ?_
  refine WpC.condB rfl (fun hb => ?_) (fun hb => ?_)
  ·
    replace h := Sh.ite_pos hb h
    refine WpC.seqR ?_
    refine WpOps.pn 1 rfl trivial ?_
    refine WpOps.nil ?_
    obtain rfl := Sh.some_inj h
    refine WpC.ret ?_
    exact VEnds.ret1 rfl rfl ⟨rfl, hH⟩
  ·
    replace h := Sh.ite_neg hb h
    refine WpC.skipD ?_
    refine ⟨_, Heap.le_refl _, ?_⟩
    refine WpC.seq ?_
    refine WpC.seqR ?_
    refine WpOps.pn 1 rfl trivial ?_
    refine WpOps.nil ?_
    refine WpC.blockK (fun x : (Unit) × (Unit) => []) (fun x H' => emendref03_Alike_j1 x.1 = some r ∧ Holds H0 [] H') ?_ ?_
    ·
      obtain ⟨o_1, ho_1, hk_1⟩ := Sh.bind_some h
      refine WpC.loopS (emendref03_Alike_b2 a_1 b_1) (fun (s : Int) (a : Unit) => [(0, (AV.rows 6 (List.map cGTok a_1))), (1, (AV.rows 6 (List.map cGTok b_1))), (5, (iA s))]) (fun (s : Int) (a : Unit) H' => Holds H0 [] H') o_1 (0 : Int) () ho_1 ⟨rfl, rfl, rfl, trivial⟩ hH ?_
      rintro i_1 _ st_1 env H' h hd_1 hH
      refine WpC.seq ?_
      refine WpC.seqR ?_
      refine WpOps.pn 3 rfl trivial ?_
      refine WpOps.at 13 (len_map _ _) ?_
      refine WpOps.pn 1 rfl trivial ?_
      refine WpOps.nil ?_
      refine WpC.condB rfl (fun hb => ?_) (fun hb => ?_)
      ·
        replace h := Sh.ite_pos hb h
        refine WpC.skipD ?_
        refine ⟨_, Heap.le_refl _, ?_⟩
        refine WpC.seq ?_
        refine WpC.block ?_
        refine WpC.seqD [] [0, 1, 2, 3, 4, 5, 6, 7, 8, 9, 10, 11, 12, 13, 14, 15, 16, 17, 18, 19, 20, 21, 22, 23, 24, 25, 26, 27, 28, 29, 30, 31, 32, 33, 34, 35, 36] (by kernel_rfl) (by kernel_rfl) ?_
        obtain ⟨y_1, hy_1, h⟩ := Sh.bind_some h
        refine WpPi.pn 2 rfl trivial ?_
        refine WpPi.consI (v := (.rop (cGTok y_1))) rfl rfl rfl rfl (fun _ => Exact.ixr cGTok hy_1 rfl rfl rfl rfl (by kernel_rfl) (by decide)) ?_
        refine WpPi.pn 1 rfl trivial ?_
        refine WpPi.consI (v := (iA y_1.kind)) rfl rfl rfl rfl (fun _ => Exact.load_rop rfl rfl rfl) ?_
        obtain ⟨y_2, hy_2, h⟩ := Sh.bind_some h
        refine WpPi.pn 2 rfl trivial ?_
        refine WpPi.consI (v := (.rop (cGTok y_2))) rfl rfl rfl rfl (fun _ => Exact.ixr cGTok hy_2 rfl rfl rfl rfl (by kernel_rfl) (by decide)) ?_
        refine WpPi.pn 1 rfl trivial ?_
        refine WpPi.consI (v := (iA y_2.kind)) rfl rfl rfl rfl (fun _ => Exact.load_rop rfl rfl rfl) ?_
        refine WpPi.pn 1 rfl trivial ?_
        obtain ⟨b_2, g_1, h⟩ := Sh.bind_some h
        refine WpPi.cutB 13 40 (bA b_2) rfl ?_ ?_
        ·
          refine WpPi.pn 1 rfl trivial ?_
          refine WpPi.split 28 rfl (fun hb => ?_) (fun hb => ?_)
          ·
            replace g_1 := Sh.ite_pos hb g_1
            refine WpPi.pn 2 rfl trivial ?_
            refine WpPi.skip rfl rfl rfl ?_
            refine WpPi.pn 1 rfl trivial ?_
            refine WpPi.skip rfl rfl rfl ?_
            refine WpPi.pn 2 rfl trivial ?_
            refine WpPi.skip rfl rfl rfl ?_
            refine WpPi.pn 1 rfl trivial ?_
            refine WpPi.skip rfl rfl rfl ?_
            refine WpPi.pn 2 rfl trivial ?_
            refine WpPi.nil ?_
            obtain rfl := Sh.some_inj g_1
            exact ⟨rfl, rfl⟩
          ·
            replace g_1 := Sh.ite_neg hb g_1
            obtain ⟨y_3, hy_3, g_1⟩ := Sh.bind_some g_1
            refine WpPi.pn 2 rfl trivial ?_
            refine WpPi.consI (v := (.rop (cGTok y_3))) rfl rfl rfl rfl (fun _ => Exact.ixr cGTok hy_3 rfl rfl rfl rfl (by kernel_rfl) (by decide)) ?_
            refine WpPi.pn 1 rfl trivial ?_
            refine WpPi.consI (v := (sA y_3.text)) rfl rfl rfl rfl (fun _ => Exact.load_rop rfl rfl rfl) ?_
            obtain ⟨y_4, hy_4, g_1⟩ := Sh.bind_some g_1
            refine WpPi.pn 2 rfl trivial ?_
            refine WpPi.consI (v := (.rop (cGTok y_4))) rfl rfl rfl rfl (fun _ => Exact.ixr cGTok hy_4 rfl rfl rfl rfl (by kernel_rfl) (by decide)) ?_
            refine WpPi.pn 1 rfl trivial ?_
            refine WpPi.consI (v := (sA y_4.text)) rfl rfl rfl rfl (fun _ => Exact.load_rop rfl rfl rfl) ?_
            refine WpPi.pn 2 rfl trivial ?_
            refine WpPi.nil ?_
            obtain rfl := Sh.some_inj g_1
            exact ⟨rfl, rfl⟩
        intro env
        obtain ⟨b_3, g_2, h⟩ := Sh.bind_some h
        refine WpPi.cutB 13 53 (bA b_3) rfl ?_ ?_
        ·
          refine WpPi.pn 1 rfl trivial ?_
          refine WpPi.split 41 rfl (fun hb => ?_) (fun hb => ?_)
          ·
            replace g_2 := Sh.ite_pos hb g_2
            refine WpPi.pn 2 rfl trivial ?_
            refine WpPi.skip rfl rfl rfl ?_
            refine WpPi.pn 1 rfl trivial ?_
            refine WpPi.skip rfl rfl rfl ?_
            refine WpPi.pn 2 rfl trivial ?_
            refine WpPi.skip rfl rfl rfl ?_
            refine WpPi.pn 1 rfl trivial ?_
            refine WpPi.skip rfl rfl rfl ?_
            refine WpPi.pn 2 rfl trivial ?_
            refine WpPi.nil ?_
            obtain rfl := Sh.some_inj g_2
            exact ⟨rfl, rfl⟩
          ·
            replace g_2 := Sh.ite_neg hb g_2
            obtain ⟨y_5, hy_5, g_2⟩ := Sh.bind_some g_2
            refine WpPi.pn 2 rfl trivial ?_
            refine WpPi.consI (v := (.rop (cGTok y_5))) rfl rfl rfl rfl (fun _ => Exact.ixr cGTok hy_5 rfl rfl rfl rfl (by kernel_rfl) (by decide)) ?_
            refine WpPi.pn 1 rfl trivial ?_
            refine WpPi.consI (v := (bA y_5.blank)) rfl rfl rfl rfl (fun _ => Exact.load_rop rfl rfl rfl) ?_
            obtain ⟨y_6, hy_6, g_2⟩ := Sh.bind_some g_2
            refine WpPi.pn 2 rfl trivial ?_
            refine WpPi.consI (v := (.rop (cGTok y_6))) rfl rfl rfl rfl (fun _ => Exact.ixr cGTok hy_6 rfl rfl rfl rfl (by kernel_rfl) (by decide)) ?_
            refine WpPi.pn 1 rfl trivial ?_
            refine WpPi.consI (v := (bA y_6.blank)) rfl rfl rfl rfl (fun _ => Exact.load_rop rfl rfl rfl) ?_
            refine WpPi.pn 2 rfl trivial ?_
            refine WpPi.nil ?_
            obtain rfl := Sh.some_inj g_2
            exact ⟨rfl, rfl⟩
        intro env
        refine WpPi.nil ?_
        refine WpC.condB rfl (fun hb => ?_) (fun hb => ?_)
        ·
          replace h := Sh.ite_pos hb h
          refine WpC.seqR ?_
          refine WpOps.pn 1 rfl trivial ?_
          refine WpOps.nil ?_
          obtain rfl := Sh.some_inj h
          have e := hd_1 _ rfl
          subst e
          have h := hk_1
          obtain rfl := Sh.some_inj h
          refine WpC.ret ?_
          exact VEnds.ret1 rfl rfl ⟨rfl, hH⟩
        ·
          replace h := Sh.ite_neg hb h
          refine WpC.skipD ?_
          refine ⟨_, Heap.le_refl _, ?_⟩
          refine WpC.regionD ?_
          obtain ⟨c_1, h⟩ := Sh.chk_some h
          refine WpOps.pn 3 rfl c_1 ?_
          refine WpOps.nil ?_
          obtain rfl := Sh.some_inj h
          exact ⟨_, (Heap.le_refl _), (i_1 + (1 : Int)), (), rfl, ⟨rfl, rfl, rfl, trivial⟩, hH⟩
      ·
        replace h := Sh.ite_neg hb h
        obtain rfl := Sh.some_inj h
        have e := hd_1 _ rfl
        subst e
        refine WpC.exit ?_
        exact ⟨((), ()), trivial, hk_1, hH⟩
    ·
      rintro ⟨_, _⟩ env H' ⟨h, hH⟩
      try dsimp only at h
      refine ⟨_, Heap.le_refl _, ?_⟩
      refine WpC.seqR ?_
      refine WpOps.pn 1 rfl trivial ?_
      refine WpOps.nil ?_
      obtain rfl := Sh.some_inj h
      refine WpC.ret ?_
      exact VEnds.ret1 rfl rfl ⟨rfl, hH⟩

theorem w_emendref06_bare {H0 : Heap} {l_1 : List GTok} {r : List GTok} (h : emendref06_bare l_1 = some r) : TCall Tryd.prog 69 [(AV.rows 6 (List.map cGTok l_1))] H0 (fun v H' => v = (AV.rows 6 (List.map cGTok r)) ∧ H' = H0) noE := by
  refine id (TCall.body Tryd.func69 rfl rfl ?_)
  have hH : Holds H0 [] H0 := rfl
  refine WpC.seqR ?_
  refine WpOps.pn 1 rfl trivial ?_
  refine WpOps.nil ?_
  refine WpC.seqR ?_
  refine WpOps.consG rfl rfl (WpO.litT (size := 6) cGTok ([] : List GTok) rfl rfl (by kernel_rfl) rfl hH fun g_1 H' hH => ?_)
  obtain ⟨c_1, h⟩ := Sh.chk_some h
  refine WpOps.pn 1 rfl trivial ?_
  refine WpOps.consG rfl rfl (WpO.pushS cGTok ([] : List GTok) l_1 (i := 0) rfl ek25 hH rfl rfl rfl (.rows _) (fun y _ => one_cGTok y) c_1 (by decide) fun g_2 cp_1 H' hH => ?_)
  refine WpOps.pn 1 rfl trivial ?_
  refine WpOps.nil ?_
  refine WpC.seqK (fun x : (List GTok) × ((Option (Nat × Nat))) => [(3, (.own (List.map cGTok x.1).length x.2))]) (fun x H' => emendref06_bare_j1 x.1 = some r ∧ Holds H0 [.own 38 6 x.2 (List.map cGTok x.1)] H') ?_ ?_
  ·
    refine WpC.seqR ?_
    refine WpOps.pn 2 rfl trivial ?_
    refine WpOps.at 8 (len_map _ _) ?_
    refine WpOps.pn 1 rfl trivial ?_
    refine WpOps.nil ?_
    refine WpC.condB rfl (fun hb => ?_) (fun hb => ?_)
    ·
      replace h := Sh.ite_pos hb h
      refine WpC.regionD ?_
      obtain ⟨y_1, hy_1, h⟩ := Sh.bind_some h
      refine WpOps.pn 1 rfl trivial ?_
      refine WpOps.consE rfl rfl (Exact.ixo (size := 6) cGTok hy_1 rfl rfl rfl rfl (by kernel_rfl) (by decide)) ?_
      refine WpOps.pn 1 rfl trivial ?_
      refine WpOps.consG rfl rfl (WpO.setT (off := 5) (i := 0) cGTok (y' := (GTok.mk y_1.kind y_1.text y_1.file_ y_1.from_ y_1.to false)) (v := (bA false)) hy_1 hH rfl rfl rfl rfl rfl rfl rfl rfl rfl fun H' hH => ?_)
      refine WpOps.at 3 (own_set cGTok (([] : List GTok) ++ l_1) ((0 : Int)).toNat (GTok.mk y_1.kind y_1.text y_1.file_ y_1.from_ y_1.to false) _) ?_
      refine WpOps.at 7 (own_set cGTok (([] : List GTok) ++ l_1) ((0 : Int)).toNat (GTok.mk y_1.kind y_1.text y_1.file_ y_1.from_ y_1.to false) _) ?_
      refine WpOps.at 10 (own_set cGTok (([] : List GTok) ++ l_1) ((0 : Int)).toNat (GTok.mk y_1.kind y_1.text y_1.file_ y_1.from_ y_1.to false) _) ?_
      refine WpOps.nil ?_
      exact ⟨_, (Heap.le_refl _), (((([] : List GTok) ++ l_1).set ((0 : Int)).toNat (GTok.mk y_1.kind y_1.text y_1.file_ y_1.from_ y_1.to false)), (some (g_2, cp_1))), ⟨rfl, trivial⟩, h, hH⟩
    ·
      replace h := Sh.ite_neg hb h
      refine WpC.skipD ?_
      exact ⟨_, (Heap.le_refl _), ((([] : List GTok) ++ l_1), (some (g_2, cp_1))), ⟨rfl, trivial⟩, h, hH⟩
  ·
    rintro ⟨out_1, p_1⟩ env H' ⟨h, hH⟩
    try dsimp only at h
    refine WpC.seqR ?_
    refine WpOps.pn 2 rfl trivial ?_
    refine WpOps.nil ?_
    refine WpC.freeze (t := 2) (i := 0) hH rfl rfl (fun H' hH => ?_)
    obtain rfl := Sh.some_inj h
    refine WpC.ret ?_
    exact VEnds.ret1 rfl rfl ⟨rfl, hH⟩

theorem w_emendref06_Same {H0 : Heap} {a_1 : GMacro} {b_1 : GMacro} {r : Bool} (h : emendref06_Same a_1 b_1 = some r) : TCall Tryd.prog 37 [(AV.agg (cGMacro a_1)), (AV.agg (cGMacro b_1))] H0 (fun v H' => v = (bA r) ∧ H' = H0) noE := by
  refine id (TCall.body Tryd.func37 rfl rfl ?_)
  have hH : Holds H0 [] H0 := rfl
  refine WpC.seqR ?_
  refine WpOps.consG rfl rfl (WpO.boxT (v := (AV.agg (cGMacro a_1))) rfl rfl hH fun g_1 H' hH => ?_)
  refine WpOps.consG rfl rfl (WpO.boxT (v := (AV.agg (cGMacro b_1))) rfl rfl hH fun g_2 H' hH => ?_)
  refine WpOps.pn 1 rfl trivial ?_
  refine WpOps.nil ?_
  refine WpC.seq ?_
  refine WpC.seqR ?_
  refine WpOps.pn 1 rfl trivial ?_
  refine WpOps.consE (v := (sA a_1.name)) rfl rfl (Exact.load rfl rfl (hH.cell (i := 1) rfl) rfl rfl) ?_
  refine WpOps.pn 1 rfl trivial ?_
  refine WpOps.consE (v := (sA b_1.name)) rfl rfl (Exact.load rfl rfl (hH.cell (i := 0) rfl) rfl rfl) ?_
  refine WpOps.pn 1 rfl trivial ?_
  obtain ⟨b_2, g_3, h⟩ := Sh.bind_some h
  refine WpOps.cutB 7 17 (bA b_2) rfl ?_ ?_
  ·
    refine WpOps.pn 1 rfl trivial ?_
    refine WpOps.split 11 rfl (fun hb => ?_) (fun hb => ?_)
    ·
      replace g_3 := Sh.ite_pos hb g_3
      refine WpOps.pn 6 rfl trivial ?_
      refine WpOps.nil ?_
      obtain rfl := Sh.some_inj g_3
      exact ⟨rfl, rfl⟩
    ·
      replace g_3 := Sh.ite_neg hb g_3
      refine WpOps.pn 1 rfl trivial ?_
      refine WpOps.consE (v := (bA a_1.func)) rfl rfl (Exact.load rfl rfl (hH.cell (i := 1) rfl) rfl rfl) ?_
      refine WpOps.pn 1 rfl trivial ?_
      refine WpOps.consE (v := (bA b_1.func)) rfl rfl (Exact.load rfl rfl (hH.cell (i := 0) rfl) rfl rfl) ?_
      refine WpOps.pn 2 rfl trivial ?_
      refine WpOps.nil ?_
      obtain rfl := Sh.some_inj g_3
      exact ⟨rfl, rfl⟩
  intro env
  obtain ⟨b_3, g_4, h⟩ := Sh.bind_some h
  refine WpOps.cutB 7 24 (bA b_3) rfl ?_ ?_
  ·
    refine WpOps.pn 1 rfl trivial ?_
    refine WpOps.split 18 rfl (fun hb => ?_) (fun hb => ?_)
    ·
      replace g_4 := Sh.ite_pos hb g_4
      refine WpOps.pn 6 rfl trivial ?_
      refine WpOps.nil ?_
      obtain rfl := Sh.some_inj g_4
      exact ⟨rfl, rfl⟩
    ·
      replace g_4 := Sh.ite_neg hb g_4
      refine WpOps.pn 1 rfl trivial ?_
      refine WpOps.consE (v := (bA a_1.variadic)) rfl rfl (Exact.load rfl rfl (hH.cell (i := 1) rfl) rfl rfl) ?_
      refine WpOps.pn 1 rfl trivial ?_
      refine WpOps.consE (v := (bA b_1.variadic)) rfl rfl (Exact.load rfl rfl (hH.cell (i := 0) rfl) rfl rfl) ?_
      refine WpOps.pn 2 rfl trivial ?_
      refine WpOps.nil ?_
      obtain rfl := Sh.some_inj g_4
      exact ⟨rfl, rfl⟩
  intro env
  obtain ⟨b_4, g_5, h⟩ := Sh.bind_some h
  refine WpOps.cutB 9 33 (bA b_4) rfl ?_ ?_
  ·
    refine WpOps.pn 1 rfl trivial ?_
    refine WpOps.split 25 rfl (fun hb => ?_) (fun hb => ?_)
    ·
      replace g_5 := Sh.ite_pos hb g_5
      refine WpOps.pn 8 rfl trivial ?_
      refine WpOps.nil ?_
      obtain rfl := Sh.some_inj g_5
      exact ⟨rfl, rfl⟩
    ·
      replace g_5 := Sh.ite_neg hb g_5
      refine WpOps.pn 1 rfl trivial ?_
      refine WpOps.consE (v := (AV.rows 1 (List.map cS a_1.params))) rfl rfl (Exact.load rfl rfl (hH.cell (i := 1) rfl) rfl rfl) ?_
      refine WpOps.pn 1 rfl trivial ?_
      refine WpOps.at 28 (len_map _ _) ?_
      refine WpOps.pn 1 rfl trivial ?_
      refine WpOps.consE (v := (AV.rows 1 (List.map cS b_1.params))) rfl rfl (Exact.load rfl rfl (hH.cell (i := 0) rfl) rfl rfl) ?_
      refine WpOps.pn 1 rfl trivial ?_
      refine WpOps.at 31 (len_map _ _) ?_
      refine WpOps.pn 2 rfl trivial ?_
      refine WpOps.nil ?_
      obtain rfl := Sh.some_inj g_5
      exact ⟨rfl, rfl⟩
  intro env
  refine WpOps.nil ?_
  refine WpC.condB rfl (fun hb => ?_) (fun hb => ?_)
  ·
    replace h := Sh.ite_pos hb h
    refine WpC.seqR ?_
    refine WpOps.pn 1 rfl trivial ?_
    refine WpOps.nil ?_
    refine WpC.lose (i := 0) hH rfl (fun H' hH => ?_)
    refine WpC.lose (i := 0) hH rfl (fun H' hH => ?_)
    obtain rfl := Sh.some_inj h
    refine WpC.ret ?_
    exact VEnds.ret1 rfl rfl ⟨rfl, hH⟩
  ·
    replace h := Sh.ite_neg hb h
    refine WpC.skipD ?_
    refine ⟨_, Heap.le_refl _, ?_⟩
    refine WpC.seq ?_
    refine WpC.seqR ?_
    refine WpOps.pn 1 rfl trivial ?_
    refine WpOps.nil ?_
    refine WpC.blockK (fun x : (Unit) × (Unit) => [(2, (.lit (.pointer (some ⟨g_1, 0, none⟩)))), (3, (.lit (.pointer (some ⟨g_2, 0, none⟩))))]) (fun x H' => (emendref06_Same_j1 a_1 b_1) x.1 = some r ∧ Holds H0 [.cell g_2 44 (cGMacro b_1), .cell g_1 44 (cGMacro a_1)] H') ?_ ?_
    ·
      obtain ⟨o_1, ho_1, hk_1⟩ := Sh.bind_some h
      refine WpC.loopS (emendref06_Same_b2 a_1 b_1) (fun (s : Int) (a : Unit) => [(2, (.lit (.pointer (some ⟨g_1, 0, none⟩)))), (3, (.lit (.pointer (some ⟨g_2, 0, none⟩)))), (5, (iA s))]) (fun (s : Int) (a : Unit) H' => Holds H0 [.cell g_2 44 (cGMacro b_1), .cell g_1 44 (cGMacro a_1)] H') o_1 (0 : Int) () ho_1 ⟨rfl, rfl, rfl, trivial⟩ hH ?_
      rintro i_1 _ st_1 env H' h hd_1 hH
      refine WpC.seq ?_
      refine WpC.seqR ?_
      refine WpOps.pn 2 rfl trivial ?_
      refine WpOps.consE (v := (AV.rows 1 (List.map cS a_1.params))) rfl rfl (Exact.load rfl rfl (hH.cell (i := 1) rfl) rfl rfl) ?_
      refine WpOps.pn 1 rfl trivial ?_
      refine WpOps.at 37 (len_map _ _) ?_
      refine WpOps.pn 1 rfl trivial ?_
      refine WpOps.nil ?_
      refine WpC.condB rfl (fun hb => ?_) (fun hb => ?_)
      ·
        replace h := Sh.ite_pos hb h
        refine WpC.skipD ?_
        refine ⟨_, Heap.le_refl _, ?_⟩
        refine WpC.seq ?_
        refine WpC.block ?_
        refine WpC.seqD [.I, .S, .I, .I, .I, .I, .S] [0, 1, 2, 3, 4, 5, 6, 7, 8, 9, 10] (by kernel_rfl) (by kernel_rfl) ?_
        refine WpPi.pn 1 rfl trivial ?_
        refine WpPi.consS (v := (AV.rows 1 (List.map cS a_1.params))) rfl rfl rfl rfl (Exact.load rfl rfl (hH.cell (i := 1) rfl) rfl rfl) ?_
        obtain ⟨y_1, hy_1, h⟩ := Sh.bind_some h
        refine WpPi.pn 1 rfl trivial ?_
        refine WpPi.consI (v := (.rop (cS y_1))) rfl rfl rfl rfl (fun _ => Exact.ixr cS hy_1 rfl rfl rfl rfl (by kernel_rfl) (by decide)) ?_
        refine WpPi.consI (v := (sA y_1)) rfl rfl rfl rfl (fun _ => Exact.load_rop rfl rfl rfl) ?_
        refine WpPi.pn 1 rfl trivial ?_
        refine WpPi.consS (v := (AV.rows 1 (List.map cS b_1.params))) rfl rfl rfl rfl (Exact.load rfl rfl (hH.cell (i := 0) rfl) rfl rfl) ?_
        obtain ⟨y_2, hy_2, h⟩ := Sh.bind_some h
        refine WpPi.pn 1 rfl trivial ?_
        refine WpPi.consI (v := (.rop (cS y_2))) rfl rfl rfl rfl (fun _ => Exact.ixr cS hy_2 rfl rfl rfl rfl (by kernel_rfl) (by decide)) ?_
        refine WpPi.consI (v := (sA y_2)) rfl rfl rfl rfl (fun _ => Exact.load_rop rfl rfl rfl) ?_
        refine WpPi.pn 1 rfl trivial ?_
        refine WpPi.nil ?_
        refine WpC.condB rfl (fun hb => ?_) (fun hb => ?_)
        ·
          replace h := Sh.ite_pos hb h
          refine WpC.seqR ?_
          refine WpOps.pn 1 rfl trivial ?_
          refine WpOps.nil ?_
          refine WpC.lose (i := 0) hH rfl (fun H' hH => ?_)
          refine WpC.lose (i := 0) hH rfl (fun H' hH => ?_)
          obtain rfl := Sh.some_inj h
          have e := hd_1 _ rfl
          subst e
          have h := hk_1
          obtain rfl := Sh.some_inj h
          refine WpC.ret ?_
          exact VEnds.ret1 rfl rfl ⟨rfl, hH⟩
        ·
          replace h := Sh.ite_neg hb h
          refine WpC.skipD ?_
          refine ⟨_, Heap.le_refl _, ?_⟩
          refine WpC.regionD ?_
          obtain ⟨c_1, h⟩ := Sh.chk_some h
          refine WpOps.pn 3 rfl c_1 ?_
          refine WpOps.nil ?_
          obtain rfl := Sh.some_inj h
          exact ⟨_, (Heap.le_refl _), (i_1 + (1 : Int)), (), rfl, ⟨rfl, rfl, rfl, trivial⟩, hH⟩
      ·
        replace h := Sh.ite_neg hb h
        obtain rfl := Sh.some_inj h
        have e := hd_1 _ rfl
        subst e
        refine WpC.exit ?_
        exact ⟨((), ()), ⟨rfl, rfl, trivial⟩, hk_1, hH⟩
    ·
      rintro ⟨_, _⟩ env H' ⟨h, hH⟩
      try dsimp only at h
      refine ⟨_, Heap.le_refl _, ?_⟩
      refine WpC.seqD [.I, .S, .I, .I, .S] [0, 1, 2, 3, 4, 5, 6, 7] (by kernel_rfl) (by kernel_rfl) ?_
      refine WpPi.pn 1 rfl trivial ?_
      refine WpPi.consS (v := (AV.rows 6 (List.map cGTok a_1.body))) rfl rfl rfl rfl (Exact.load rfl rfl (hH.cell (i := 1) rfl) rfl rfl) ?_
      obtain ⟨r_1, hr_1, h⟩ := Sh.bind_some h
      refine WpPi.consI (v := (AV.rows 6 (List.map cGTok r_1))) rfl rfl rfl rfl (fun _ => Exact.call rfl rfl rfl (w_emendref06_bare hr_1)) ?_
      refine WpPi.pn 1 rfl trivial ?_
      refine WpPi.consS (v := (AV.rows 6 (List.map cGTok b_1.body))) rfl rfl rfl rfl (Exact.load rfl rfl (hH.cell (i := 0) rfl) rfl rfl) ?_
      obtain ⟨r_2, hr_2, h⟩ := Sh.bind_some h
      refine WpPi.consI (v := (AV.rows 6 (List.map cGTok r_2))) rfl rfl rfl rfl (fun _ => Exact.call rfl rfl rfl (w_emendref06_bare hr_2)) ?_
      obtain ⟨r_3, hr_3, h⟩ := Sh.bind_some h
      refine WpPi.consI (v := (bA r_3)) rfl rfl rfl rfl (fun _ => Exact.call rfl rfl rfl (w_emendref03_Alike hr_3)) ?_
      refine WpPi.pn 1 rfl trivial ?_
      refine WpPi.nil ?_
      refine WpC.lose (i := 0) hH rfl (fun H' hH => ?_)
      refine WpC.lose (i := 0) hH rfl (fun H' hH => ?_)
      obtain rfl := Sh.some_inj h
      refine WpC.ret ?_
      exact VEnds.ret1 rfl rfl ⟨rfl, hH⟩

theorem w_emendlaw06_full {H0 : Heap} {a_1 : GMacro} {b_1 : GMacro} {r : Bool} (h : emendlaw06_full a_1 b_1 = some r) : TCall Tryd.prog 31 [(AV.agg (cGMacro a_1)), (AV.agg (cGMacro b_1))] H0 (fun v H' => v = (bA r) ∧ H' = H0) noE := by
  refine id (TCall.body Tryd.func31 rfl rfl ?_)
  have hH : Holds H0 [] H0 := rfl
  refine WpC.seqR ?_
  refine WpOps.consG rfl rfl (WpO.boxT (v := (AV.agg (cGMacro a_1))) rfl rfl hH fun g_1 H' hH => ?_)
  refine WpOps.consG rfl rfl (WpO.boxT (v := (AV.agg (cGMacro b_1))) rfl rfl hH fun g_2 H' hH => ?_)
  refine WpOps.pn 1 rfl trivial ?_
  refine WpOps.nil ?_
  refine WpC.seqR ?_
  refine WpOps.consE (v := (AV.agg (cGMacro a_1))) rfl rfl (Exact.load rfl rfl (hH.cell (i := 1) rfl) rfl rfl) ?_
  refine WpOps.consE (v := (AV.agg (cGMacro b_1))) rfl rfl (Exact.load rfl rfl (hH.cell (i := 0) rfl) rfl rfl) ?_
  obtain ⟨r_1, hr_1, h⟩ := Sh.bind_some h
  refine WpOps.consE (v := (bA r_1)) rfl rfl (Exact.call rfl rfl rfl (w_emendref06_Same hr_1)) ?_
  refine WpOps.pn 1 rfl trivial ?_
  refine WpOps.nil ?_
  refine WpC.seqR ?_
  refine WpOps.pn 1 rfl trivial ?_
  obtain ⟨b_2, g_3, h⟩ := Sh.bind_some h
  refine WpOps.cutB 7 16 (bA b_2) rfl ?_ ?_
  ·
    refine WpOps.pn 1 rfl trivial ?_
    refine WpOps.split 10 rfl (fun hb => ?_) (fun hb => ?_)
    ·
      replace g_3 := Sh.ite_pos hb g_3
      refine WpOps.pn 1 rfl trivial ?_
      refine WpOps.consE (v := (AV.rows 6 (List.map cGTok a_1.body))) rfl rfl (Exact.load rfl rfl (hH.cell (i := 1) rfl) rfl rfl) ?_
      refine WpOps.pn 1 rfl trivial ?_
      refine WpOps.consE (v := (AV.rows 6 (List.map cGTok b_1.body))) rfl rfl (Exact.load rfl rfl (hH.cell (i := 0) rfl) rfl rfl) ?_
      obtain ⟨r_2, hr_2, g_3⟩ := Sh.bind_some g_3
      refine WpOps.consE (v := (bA r_2)) rfl rfl (Exact.call rfl rfl rfl (w_emendref03_Same hr_2)) ?_
      refine WpOps.pn 1 rfl trivial ?_
      refine WpOps.nil ?_
      obtain rfl := Sh.some_inj g_3
      exact ⟨rfl, rfl⟩
    ·
      replace g_3 := Sh.ite_neg hb g_3
      refine WpOps.pn 6 rfl trivial ?_
      refine WpOps.nil ?_
      obtain rfl := Sh.some_inj g_3
      exact ⟨rfl, rfl⟩
  intro env
  refine WpOps.pn 1 rfl trivial ?_
  refine WpOps.nil ?_
  refine WpC.lose (i := 0) hH rfl (fun H' hH => ?_)
  refine WpC.lose (i := 0) hH rfl (fun H' hH => ?_)
  obtain rfl := Sh.some_inj h
  refine WpC.ret ?_
  exact VEnds.ret1 rfl rfl ⟨rfl, hH⟩

theorem w_emendlaw06_MacroDefines {H0 : Heap} (hG : Glob H0) {s_1 : List UInt8} {r : Bool} (h : emendlaw06_MacroDefines s_1 = some r) : TCall Tryd.prog 9 [(sA s_1)] H0 (fun v H' => v = (bA r) ∧ H' = H0) noE := by
  refine id (TCall.body Tryd.func9 rfl rfl ?_)
  have hH : Holds H0 [] H0 := rfl
  refine WpC.seqR ?_
  refine WpOps.pn 1 rfl trivial ?_
  refine WpOps.nil ?_
  refine WpC.seqR ?_
  obtain ⟨r_1, hr_1, h⟩ := Sh.bind_some h
  refine WpOps.consE (v := (bA r_1)) rfl rfl (Exact.call rfl rfl rfl (w_emendlaw06_awake (hG.up hH) hr_1)) ?_
  refine WpOps.pn 1 rfl trivial ?_
  refine WpOps.nil ?_
  refine WpC.seq ?_
  refine WpC.seqR ?_
  refine WpOps.pn 3 rfl trivial ?_
  refine WpOps.nil ?_
  refine WpC.condB rfl (fun hb => ?_) (fun hb => ?_)
  ·
    replace h := Sh.ite_pos hb h
    refine WpC.seqR ?_
    refine WpOps.pn 2 rfl trivial ?_
    refine WpOps.nil ?_
    obtain rfl := Sh.some_inj h
    refine WpC.ret ?_
    exact VEnds.ret1 rfl rfl ⟨rfl, hH⟩
  ·
    replace h := Sh.ite_neg hb h
    refine WpC.skipD ?_
    refine ⟨_, Heap.le_refl _, ?_⟩
    refine WpC.seqR ?_
    obtain ⟨r_2, hr_2, h⟩ := Sh.bind_some h
    refine WpOps.pn 1 rfl trivial ?_
    refine WpOps.consE (v := (.tup [(AV.agg (cGMacro r_2.1)), (iA r_2.2)])) rfl rfl (Exact.call rfl rfl rfl (w_emendlaw06_define (hG.up hH) hr_2)) ?_
    refine WpOps.pn 3 rfl trivial ?_
    refine WpOps.consG rfl rfl (WpO.allocU (z' := cGMacro (GMacro.mk ([] : List UInt8) false ([] : List (List UInt8)) false ([] : List GTok))) rfl rfl (.cons (.refl _) (.cons (.refl _) (.cons (Sub.nil _) (.cons (.refl _) (.cons (Sub.nil _) .nil))))) hH fun g_1 H' hH => ?_)
    refine WpOps.consG rfl rfl (WpO.putT (cs' := (cGMacro r_2.1)) (v := (AV.agg (cGMacro r_2.1))) rfl rfl hH (i := 0) rfl rfl rfl rfl rfl rfl rfl fun H' hH => ?_)
    refine WpOps.pn 1 rfl trivial ?_
    refine WpOps.nil ?_
    refine WpC.seqR ?_
    obtain ⟨r_3, hr_3, h⟩ := Sh.bind_some h
    refine WpOps.pn 1 rfl trivial ?_
    refine WpOps.consE (v := (AV.rows 6 (List.map cGTok r_3))) rfl rfl (Exact.call rfl rfl rfl (w_emendref03_Tokens hr_3)) ?_
    obtain ⟨r_4, hr_4, h⟩ := Sh.bind_some h
    refine WpOps.consE (v := (.tup [(AV.agg (cGMacro r_4.1)), (iA r_4.2)])) rfl rfl (Exact.call rfl rfl rfl (w_emendref06_Define hr_4)) ?_
    refine WpOps.pn 3 rfl trivial ?_
    refine WpOps.consG rfl rfl (WpO.allocU (z' := cGMacro (GMacro.mk ([] : List UInt8) false ([] : List (List UInt8)) false ([] : List GTok))) rfl rfl (.cons (.refl _) (.cons (.refl _) (.cons (Sub.nil _) (.cons (.refl _) (.cons (Sub.nil _) .nil))))) hH fun g_2 H' hH => ?_)
    refine WpOps.consG rfl rfl (WpO.putT (cs' := (cGMacro r_4.1)) (v := (AV.agg (cGMacro r_4.1))) rfl rfl hH (i := 0) rfl rfl rfl rfl rfl rfl rfl fun H' hH => ?_)
    refine WpOps.pn 1 rfl trivial ?_
    refine WpOps.nil ?_
    refine WpC.seqR ?_
    refine WpOps.pn 1 rfl trivial ?_
    obtain ⟨b_1, g_3, h⟩ := Sh.bind_some h
    refine WpOps.cutB 5 29 (bA b_1) rfl ?_ ?_
    ·
      refine WpOps.pn 1 rfl trivial ?_
      refine WpOps.split 25 rfl (fun hb => ?_) (fun hb => ?_)
      ·
        replace g_3 := Sh.ite_pos hb g_3
        refine WpOps.pn 4 rfl trivial ?_
        refine WpOps.nil ?_
        obtain rfl := Sh.some_inj g_3
        exact ⟨rfl, rfl⟩
      ·
        replace g_3 := Sh.ite_neg hb g_3
        refine WpOps.pn 4 rfl trivial ?_
        refine WpOps.nil ?_
        obtain rfl := Sh.some_inj g_3
        exact ⟨rfl, rfl⟩
    intro env
    obtain ⟨b_2, g_4, h⟩ := Sh.bind_some h
    refine WpOps.cutB 5 34 (bA b_2) rfl ?_ ?_
    ·
      refine WpOps.pn 1 rfl trivial ?_
      refine WpOps.split 30 rfl (fun hb => ?_) (fun hb => ?_)
      ·
        replace g_4 := Sh.ite_pos hb g_4
        refine WpOps.consE (v := (AV.agg (cGMacro r_2.1))) rfl rfl (Exact.load rfl rfl (hH.cell (i := 1) rfl) rfl rfl) ?_
        refine WpOps.consE (v := (AV.agg (cGMacro r_4.1))) rfl rfl (Exact.load rfl rfl (hH.cell (i := 0) rfl) rfl rfl) ?_
        obtain ⟨r_5, hr_5, g_4⟩ := Sh.bind_some g_4
        refine WpOps.consE (v := (bA r_5)) rfl rfl (Exact.call rfl rfl rfl (w_emendlaw06_full hr_5)) ?_
        refine WpOps.pn 1 rfl trivial ?_
        refine WpOps.nil ?_
        obtain rfl := Sh.some_inj g_4
        exact ⟨rfl, rfl⟩
      ·
        replace g_4 := Sh.ite_neg hb g_4
        refine WpOps.pn 4 rfl trivial ?_
        refine WpOps.nil ?_
        obtain rfl := Sh.some_inj g_4
        exact ⟨rfl, rfl⟩
    intro env
    refine WpOps.pn 1 rfl trivial ?_
    refine WpOps.nil ?_
    refine WpC.lose (i := 0) hH rfl (fun H' hH => ?_)
    refine WpC.lose (i := 0) hH rfl (fun H' hH => ?_)
    obtain rfl := Sh.some_inj h
    refine WpC.ret ?_
    exact VEnds.ret1 rfl rfl ⟨rfl, hH⟩

theorem w_emendlaw06_MacroRaw {H0 : Heap} (hG : Glob H0) {l_1 : List GTok} {r : Bool} (h : emendlaw06_MacroRaw l_1 = some r) : TCall Tryd.prog 10 [(AV.rows 6 (List.map cGTok l_1))] H0 (fun v H' => v = (bA r) ∧ H' = H0) noE := by
  refine id (TCall.body Tryd.func10 rfl rfl ?_)
  have hH : Holds H0 [] H0 := rfl
  refine WpC.seqR ?_
  refine WpOps.pn 1 rfl trivial ?_
  refine WpOps.nil ?_
  refine WpC.seqR ?_
  obtain ⟨r_1, hr_1, h⟩ := Sh.bind_some h
  refine WpOps.consE (v := (bA r_1)) rfl rfl (Exact.call rfl rfl rfl (w_emendlaw06_awake (hG.up hH) hr_1)) ?_
  refine WpOps.pn 1 rfl trivial ?_
  refine WpOps.nil ?_
  refine WpC.seqR ?_
  obtain ⟨r_2, hr_2, h⟩ := Sh.bind_some h
  refine WpOps.pn 1 rfl trivial ?_
  refine WpOps.consE (v := (.tup [(AV.agg (cGMacro r_2.1)), (iA r_2.2)])) rfl rfl (Exact.call rfl rfl rfl (w_macro_Define hr_2)) ?_
  refine WpOps.pn 3 rfl trivial ?_
  refine WpOps.consG rfl rfl (WpO.allocU (z' := cGMacro (GMacro.mk ([] : List UInt8) false ([] : List (List UInt8)) false ([] : List GTok))) rfl rfl (.cons (.refl _) (.cons (.refl _) (.cons (Sub.nil _) (.cons (.refl _) (.cons (Sub.nil _) .nil))))) hH fun g_1 H' hH => ?_)
  refine WpOps.consG rfl rfl (WpO.putT (cs' := (cGMacro r_2.1)) (v := (AV.agg (cGMacro r_2.1))) rfl rfl hH (i := 0) rfl rfl rfl rfl rfl rfl rfl fun H' hH => ?_)
  refine WpOps.pn 1 rfl trivial ?_
  refine WpOps.nil ?_
  refine WpC.seqR ?_
  obtain ⟨r_3, hr_3, h⟩ := Sh.bind_some h
  refine WpOps.pn 1 rfl trivial ?_
  refine WpOps.consE (v := (.tup [(AV.agg (cGMacro r_3.1)), (iA r_3.2)])) rfl rfl (Exact.call rfl rfl rfl (w_emendref06_Define hr_3)) ?_
  refine WpOps.pn 3 rfl trivial ?_
  refine WpOps.consG rfl rfl (WpO.allocU (z' := cGMacro (GMacro.mk ([] : List UInt8) false ([] : List (List UInt8)) false ([] : List GTok))) rfl rfl (.cons (.refl _) (.cons (.refl _) (.cons (Sub.nil _) (.cons (.refl _) (.cons (Sub.nil _) .nil))))) hH fun g_2 H' hH => ?_)
  refine WpOps.consG rfl rfl (WpO.putT (cs' := (cGMacro r_3.1)) (v := (AV.agg (cGMacro r_3.1))) rfl rfl hH (i := 0) rfl rfl rfl rfl rfl rfl rfl fun H' hH => ?_)
  refine WpOps.pn 1 rfl trivial ?_
  refine WpOps.nil ?_
  refine WpC.seqR ?_
  refine WpOps.pn 1 rfl trivial ?_
  obtain ⟨b_1, g_3, h⟩ := Sh.bind_some h
  refine WpOps.cutB 5 24 (bA b_1) rfl ?_ ?_
  ·
    refine WpOps.pn 1 rfl trivial ?_
    refine WpOps.split 20 rfl (fun hb => ?_) (fun hb => ?_)
    ·
      replace g_3 := Sh.ite_pos hb g_3
      refine WpOps.pn 4 rfl trivial ?_
      refine WpOps.nil ?_
      obtain rfl := Sh.some_inj g_3
      exact ⟨rfl, rfl⟩
    ·
      replace g_3 := Sh.ite_neg hb g_3
      refine WpOps.pn 4 rfl trivial ?_
      refine WpOps.nil ?_
      obtain rfl := Sh.some_inj g_3
      exact ⟨rfl, rfl⟩
  intro env
  obtain ⟨b_2, g_4, h⟩ := Sh.bind_some h
  refine WpOps.cutB 5 29 (bA b_2) rfl ?_ ?_
  ·
    refine WpOps.pn 1 rfl trivial ?_
    refine WpOps.split 25 rfl (fun hb => ?_) (fun hb => ?_)
    ·
      replace g_4 := Sh.ite_pos hb g_4
      refine WpOps.consE (v := (AV.agg (cGMacro r_2.1))) rfl rfl (Exact.load rfl rfl (hH.cell (i := 1) rfl) rfl rfl) ?_
      refine WpOps.consE (v := (AV.agg (cGMacro r_3.1))) rfl rfl (Exact.load rfl rfl (hH.cell (i := 0) rfl) rfl rfl) ?_
      obtain ⟨r_4, hr_4, g_4⟩ := Sh.bind_some g_4
      refine WpOps.consE (v := (bA r_4)) rfl rfl (Exact.call rfl rfl rfl (w_emendlaw06_full hr_4)) ?_
      refine WpOps.pn 1 rfl trivial ?_
      refine WpOps.nil ?_
      obtain rfl := Sh.some_inj g_4
      exact ⟨rfl, rfl⟩
    ·
      replace g_4 := Sh.ite_neg hb g_4
      refine WpOps.pn 4 rfl trivial ?_
      refine WpOps.nil ?_
      obtain rfl := Sh.some_inj g_4
      exact ⟨rfl, rfl⟩
  intro env
  refine WpOps.pn 1 rfl trivial ?_
  refine WpOps.nil ?_
  refine WpC.lose (i := 0) hH rfl (fun H' hH => ?_)
  refine WpC.lose (i := 0) hH rfl (fun H' hH => ?_)
  obtain rfl := Sh.some_inj h
  refine WpC.ret ?_
  exact VEnds.ret1 rfl rfl ⟨rfl, hH⟩

theorem w_pptok_One {H0 : Heap} (hG : Glob H0) {s_1 : List UInt8} {r : GTok × Bool} (h : pptok_One s_1 = some r) : TCall Tryd.prog 33 [(sA s_1)] H0 (fun v H' => v = (.tup [(AV.agg (cGTok r.1)), (bA r.2)]) ∧ H' = H0) noE := by
  refine TCall.up (TCall.body Tryd.func33 rfl rfl ?_)
  have hH : Holds H0 [] H0 := rfl
  refine WpC.seqR ?_
  refine WpOps.consG rfl rfl (WpO.allocT (z := cGTok (GTok.mk (0 : Int) ([] : List UInt8) (0 : Int) (0 : Int) (0 : Int) false)) rfl rfl hH fun g_1 H' hH => ?_)
  refine WpOps.pn 1 rfl trivial ?_
  refine WpOps.nil ?_
  refine WpC.seqR ?_
  obtain ⟨r_1, hr_1, h⟩ := Sh.bind_some h
  refine WpOps.pn 1 rfl trivial ?_
  refine WpOps.consE (v := (AV.rows 6 (List.map cGTok r_1))) rfl rfl (Exact.call rfl rfl rfl (w_pptok_Tokens (hG.up hH) hr_1)) ?_
  refine WpOps.pn 1 rfl trivial ?_
  refine WpOps.nil ?_
  refine WpC.seq ?_
  refine WpC.seqR ?_
  refine WpOps.pn 2 rfl trivial ?_
  refine WpOps.at 8 (len_map _ _) ?_
  refine WpOps.pn 1 rfl trivial ?_
  obtain ⟨b_1, g_2, h⟩ := Sh.bind_some h
  refine WpOps.cutB 7 16 (bA b_1) rfl ?_ ?_
  ·
    refine WpOps.pn 1 rfl trivial ?_
    refine WpOps.split 10 rfl (fun hb => ?_) (fun hb => ?_)
    ·
      replace g_2 := Sh.ite_pos hb g_2
      refine WpOps.pn 6 rfl trivial ?_
      refine WpOps.nil ?_
      obtain rfl := Sh.some_inj g_2
      exact ⟨rfl, rfl⟩
    ·
      replace g_2 := Sh.ite_neg hb g_2
      obtain ⟨y_1, hy_1, g_2⟩ := Sh.bind_some g_2
      refine WpOps.pn 1 rfl trivial ?_
      refine WpOps.consE (v := (.rop (cGTok y_1))) rfl rfl (Exact.ixr cGTok hy_1 rfl rfl rfl rfl (by kernel_rfl) (by decide)) ?_
      refine WpOps.pn 1 rfl trivial ?_
      refine WpOps.consE (v := (iA y_1.kind)) rfl rfl (Exact.load_rop rfl rfl rfl) ?_
      refine WpOps.pn 2 rfl trivial ?_
      refine WpOps.nil ?_
      obtain rfl := Sh.some_inj g_2
      exact ⟨rfl, rfl⟩
  intro env
  obtain ⟨b_2, g_3, h⟩ := Sh.bind_some h
  refine WpOps.cutB 8 24 (bA b_2) rfl ?_ ?_
  ·
    refine WpOps.pn 1 rfl trivial ?_
    refine WpOps.split 17 rfl (fun hb => ?_) (fun hb => ?_)
    ·
      replace g_3 := Sh.ite_pos hb g_3
      refine WpOps.pn 7 rfl trivial ?_
      refine WpOps.nil ?_
      obtain rfl := Sh.some_inj g_3
      exact ⟨rfl, rfl⟩
    ·
      replace g_3 := Sh.ite_neg hb g_3
      obtain ⟨y_2, hy_2, g_3⟩ := Sh.bind_some g_3
      refine WpOps.pn 1 rfl trivial ?_
      refine WpOps.consE (v := (.rop (cGTok y_2))) rfl rfl (Exact.ixr cGTok hy_2 rfl rfl rfl rfl (by kernel_rfl) (by decide)) ?_
      refine WpOps.pn 1 rfl trivial ?_
      refine WpOps.consE (v := (sA y_2.text)) rfl rfl (Exact.load_rop rfl rfl rfl) ?_
      refine WpOps.pn 3 rfl trivial ?_
      refine WpOps.nil ?_
      obtain rfl := Sh.some_inj g_3
      exact ⟨rfl, rfl⟩
  intro env
  refine WpOps.nil ?_
  refine WpC.condB rfl (fun hb => ?_) (fun hb => ?_)
  ·
    replace h := Sh.ite_pos hb h
    refine WpC.seqR ?_
    refine WpOps.pn 1 rfl trivial ?_
    refine WpOps.consG rfl rfl (WpO.putT (cs' := (cGTok (GTok.mk (0 : Int) ([] : List UInt8) (0 : Int) (0 : Int) (0 : Int) false))) (v := (AV.agg (cGTok (GTok.mk (0 : Int) ([] : List UInt8) (0 : Int) (0 : Int) (0 : Int) false)))) rfl rfl hH (i := 0) rfl rfl rfl rfl rfl rfl rfl fun H' hH => ?_)
    refine WpOps.pn 1 rfl trivial ?_
    refine WpOps.nil ?_
    obtain rfl := Sh.some_inj h
    refine WpC.ret ?_
    have hr := hH
    obtain ⟨_, hle_1, hx_1⟩ := hH.lose_ (i := 0) rfl
    exact VEnds.retG rfl (.cell rfl (hH.cell (i := 0) rfl) rfl rfl (.tmp rfl .nil)) ⟨_, _, Up.drop hle_1 _, rfl, hx_1⟩
  ·
    replace h := Sh.ite_neg hb h
    refine WpC.skipD ?_
    refine ⟨_, Heap.le_refl _, ?_⟩
    refine WpC.seqR ?_
    obtain ⟨y_3, hy_3, h⟩ := Sh.bind_some h
    refine WpOps.pn 1 rfl trivial ?_
    refine WpOps.consE (v := (.rop (cGTok y_3))) rfl rfl (Exact.ixr cGTok hy_3 rfl rfl rfl rfl (by kernel_rfl) (by decide)) ?_
    refine WpOps.consE (v := (AV.agg (cGTok y_3))) rfl rfl (Exact.load_rop rfl rfl rfl) ?_
    refine WpOps.consG rfl rfl (WpO.putT (cs' := (cGTok y_3)) (v := (AV.agg (cGTok y_3))) rfl rfl hH (i := 0) rfl rfl rfl rfl rfl rfl rfl fun H' hH => ?_)
    refine WpOps.pn 1 rfl trivial ?_
    refine WpOps.nil ?_
    obtain rfl := Sh.some_inj h
    refine WpC.ret ?_
    have hr := hH
    obtain ⟨_, hle_2, hx_2⟩ := hH.lose_ (i := 0) rfl
    exact VEnds.retG rfl (.cell rfl (hH.cell (i := 0) rfl) rfl rfl (.tmp rfl .nil)) ⟨_, _, Up.drop hle_2 _, rfl, hx_2⟩

theorem w_emendlaw06_MacroParams {H0 : Heap} (hG : Glob H0) {names_1 : List (List UInt8)} {variadic_1 : Bool} {r : Bool} (h : emendlaw06_MacroParams names_1 variadic_1 = some r) : TCall Tryd.prog 11 [(AV.rows 1 (List.map cS names_1)), (bA variadic_1)] H0 (fun v H' => v = (bA r) ∧ H' = H0) noE := by
  refine id (TCall.body Tryd.func11 rfl rfl ?_)
  have hH : Holds H0 [] H0 := rfl
  refine WpC.seqR ?_
  refine WpOps.pn 1 rfl trivial ?_
  refine WpOps.nil ?_
  refine WpC.seqR ?_
  obtain ⟨r_1, hr_1, h⟩ := Sh.bind_some h
  refine WpOps.consE (v := (bA r_1)) rfl rfl (Exact.call rfl rfl rfl (w_emendlaw06_awake (hG.up hH) hr_1)) ?_
  refine WpOps.pn 1 rfl trivial ?_
  refine WpOps.nil ?_
  refine WpC.seq ?_
  refine WpC.seqR ?_
  refine WpOps.pn 2 rfl trivial ?_
  refine WpOps.at 19 (len_map _ _) ?_
  refine WpOps.pn 1 rfl trivial ?_
  refine WpOps.nil ?_
  refine WpC.condB rfl (fun hb => ?_) (fun hb => ?_)
  ·
    replace h := Sh.ite_pos hb h
    refine WpC.seqR ?_
    refine WpOps.pn 2 rfl trivial ?_
    refine WpOps.nil ?_
    obtain rfl := Sh.some_inj h
    refine WpC.ret ?_
    exact VEnds.ret1 rfl rfl ⟨rfl, hH⟩
  ·
    replace h := Sh.ite_neg hb h
    refine WpC.skipD ?_
    refine ⟨_, Heap.le_refl _, ?_⟩
    refine WpC.seqR ?_
    refine WpOps.pn 1 rfl trivial ?_
    refine WpOps.nil ?_
    refine WpC.seqR ?_
    refine WpOps.pn 1 rfl trivial ?_
    refine WpOps.nil ?_
    refine WpC.seq ?_
    refine WpC.seqR ?_
    refine WpOps.pn 1 rfl trivial ?_
    refine WpOps.nil ?_
    refine WpC.blockK (fun x : (List UInt8 × Bool) × (Unit) => [(0, (AV.rows 1 (List.map cS names_1))), (1, (bA variadic_1)), (5, (bA r_1)), (6, (sA x.1.1)), (7, (bA x.1.2))]) (fun x H' => (emendlaw06_MacroParams_j1 names_1 variadic_1 r_1) x.1 = some r ∧ Holds H0 [] H') ?_ ?_
    ·
      obtain ⟨o_1, ho_1, hk_1⟩ := Sh.bind_some h
      refine WpC.loopS (emendlaw06_MacroParams_b2 names_1 r_1) (fun (s : List UInt8 × Bool × Int) (a : Unit) => [(0, (AV.rows 1 (List.map cS names_1))), (1, (bA variadic_1)), (5, (bA r_1)), (6, (sA s.1)), (7, (bA s.2.1)), (8, (iA s.2.2))]) (fun (s : List UInt8 × Bool × Int) (a : Unit) H' => Holds H0 [] H') o_1 (([70, 40] : List UInt8), false, (0 : Int)) () ho_1 ⟨rfl, rfl, rfl, rfl, rfl, rfl, trivial⟩ hH ?_
      rintro ⟨s_1, twice_1, i_1⟩ _ st_1 env H' h hd_1 hH
      refine WpC.seq ?_
      refine WpC.seqR ?_
      refine WpOps.pn 3 rfl trivial ?_
      refine WpOps.at 24 (len_map _ _) ?_
      refine WpOps.pn 1 rfl trivial ?_
      refine WpOps.nil ?_
      refine WpC.condB rfl (fun hb => ?_) (fun hb => ?_)
      ·
        replace h := Sh.ite_pos hb h
        refine WpC.skipD ?_
        refine ⟨_, Heap.le_refl _, ?_⟩
        refine WpC.seq ?_
        refine WpC.block ?_
        refine WpC.seqR ?_
        obtain ⟨y_1, hy_1, h⟩ := Sh.bind_some h
        refine WpOps.pn 2 rfl trivial ?_
        refine WpOps.consE (v := (.rop (cS y_1))) rfl rfl (Exact.ixr cS hy_1 rfl rfl rfl rfl (by kernel_rfl) (by decide)) ?_
        refine WpOps.consE (v := (sA y_1)) rfl rfl (Exact.load_rop rfl rfl rfl) ?_
        obtain ⟨r_2, hr_2, h⟩ := Sh.bind_some h
        refine WpOps.consE (v := (.tup [(AV.agg (cGTok r_2.1)), (bA r_2.2)])) rfl rfl (Exact.call rfl rfl rfl (w_pptok_One (hG.up hH) hr_2)) ?_
        refine WpOps.pn 3 rfl trivial ?_
        refine WpOps.consG rfl rfl (WpO.allocT (z := cGTok (GTok.mk (0 : Int) ([] : List UInt8) (0 : Int) (0 : Int) (0 : Int) false)) rfl rfl hH fun g_1 H' hH => ?_)
        refine WpOps.consG rfl rfl (WpO.putT (cs' := (cGTok r_2.1)) (v := (AV.agg (cGTok r_2.1))) rfl rfl hH (i := 0) rfl rfl rfl rfl rfl rfl rfl fun H' hH => ?_)
        refine WpOps.pn 1 rfl trivial ?_
        refine WpOps.nil ?_
        refine WpC.seq ?_
        refine WpC.seqR ?_
        refine WpOps.pn 2 rfl trivial ?_
        obtain ⟨b_1, g_2, h⟩ := Sh.bind_some h
        refine WpOps.cutB 5 42 (bA b_1) rfl ?_ ?_
        ·
          refine WpOps.pn 1 rfl trivial ?_
          refine WpOps.split 38 rfl (fun hb => ?_) (fun hb => ?_)
          ·
            replace g_2 := Sh.ite_pos hb g_2
            refine WpOps.pn 4 rfl trivial ?_
            refine WpOps.nil ?_
            obtain rfl := Sh.some_inj g_2
            exact ⟨rfl, rfl⟩
          ·
            replace g_2 := Sh.ite_neg hb g_2
            refine WpOps.pn 1 rfl trivial ?_
            refine WpOps.consE (v := (iA r_2.1.kind)) rfl rfl (Exact.load rfl rfl (hH.cell (i := 0) rfl) rfl rfl) ?_
            refine WpOps.pn 2 rfl trivial ?_
            refine WpOps.nil ?_
            obtain rfl := Sh.some_inj g_2
            exact ⟨rfl, rfl⟩
        intro env
        obtain ⟨b_2, g_3, h⟩ := Sh.bind_some h
        refine WpOps.cutB 7 49 (bA b_2) rfl ?_ ?_
        ·
          refine WpOps.pn 1 rfl trivial ?_
          refine WpOps.split 43 rfl (fun hb => ?_) (fun hb => ?_)
          ·
            replace g_3 := Sh.ite_pos hb g_3
            refine WpOps.pn 6 rfl trivial ?_
            refine WpOps.nil ?_
            obtain rfl := Sh.some_inj g_3
            exact ⟨rfl, rfl⟩
          ·
            replace g_3 := Sh.ite_neg hb g_3
            obtain ⟨y_2, hy_2, g_3⟩ := Sh.bind_some g_3
            refine WpOps.pn 2 rfl trivial ?_
            refine WpOps.consE (v := (.rop (cS y_2))) rfl rfl (Exact.ixr cS hy_2 rfl rfl rfl rfl (by kernel_rfl) (by decide)) ?_
            refine WpOps.consE (v := (sA y_2)) rfl rfl (Exact.load_rop rfl rfl rfl) ?_
            refine WpOps.pn 2 rfl trivial ?_
            refine WpOps.nil ?_
            obtain rfl := Sh.some_inj g_3
            exact ⟨rfl, rfl⟩
        intro env
        refine WpOps.nil ?_
        refine WpC.condB rfl (fun hb => ?_) (fun hb => ?_)
        ·
          replace h := Sh.ite_pos hb h
          refine WpC.seqR ?_
          refine WpOps.pn 2 rfl trivial ?_
          refine WpOps.nil ?_
          refine WpC.lose (i := 0) hH rfl (fun H' hH => ?_)
          obtain rfl := Sh.some_inj h
          have e := hd_1 _ rfl
          subst e
          have h := hk_1
          obtain rfl := Sh.some_inj h
          refine WpC.ret ?_
          exact VEnds.ret1 rfl rfl ⟨rfl, hH⟩
        ·
          replace h := Sh.ite_neg hb h
          refine WpC.skipD ?_
          refine ⟨_, Heap.le_refl _, ?_⟩
          refine WpC.seq ?_
          refine WpC.seqR ?_
          refine WpOps.pn 1 rfl trivial ?_
          refine WpOps.nil ?_
          refine WpC.lose (i := 0) hH rfl (fun H' hH => ?_)
          refine WpC.blockK (fun x : (Bool) × (Unit) => [(0, (AV.rows 1 (List.map cS names_1))), (1, (bA variadic_1)), (5, (bA r_1)), (6, (sA s_1)), (7, (bA x.1)), (8, (iA i_1))]) (fun x H' => (emendlaw06_MacroParams_j3 names_1 s_1 i_1) x.1 = some st_1 ∧ Holds H0 [] H') ?_ ?_
          ·
            obtain ⟨o_2, ho_2, hk_2⟩ := Sh.bind_some h
            refine WpC.loopS (emendlaw06_MacroParams_b4 names_1 i_1) (fun (s : Bool × Int) (a : Unit) => [(0, (AV.rows 1 (List.map cS names_1))), (1, (bA variadic_1)), (5, (bA r_1)), (6, (sA s_1)), (7, (bA s.1)), (8, (iA i_1)), (11, (iA s.2))]) (fun (s : Bool × Int) (a : Unit) H' => Holds H0 [] H') o_2 (twice_1, (0 : Int)) () ho_2 ⟨rfl, rfl, rfl, rfl, rfl, rfl, rfl, trivial⟩ hH ?_
            rintro ⟨twice_2, k_1⟩ _ st_2 env H' h hd_2 hH
            refine WpC.seq ?_
            refine WpC.seqR ?_
            refine WpOps.pn 3 rfl trivial ?_
            refine WpOps.nil ?_
            refine WpC.condB rfl (fun hb => ?_) (fun hb => ?_)
            ·
              replace h := Sh.ite_pos hb h
              refine WpC.skipD ?_
              refine ⟨_, Heap.le_refl _, ?_⟩
              refine WpC.seq ?_
              refine WpC.block ?_
              refine WpC.drawD [] [0, 1, 2, 3, 4, 5, 6, 7, 8, 9, 10, 11, 12] (by kernel_rfl) (by kernel_rfl) ?_
              refine WpPi.pn 1 rfl trivial ?_
              obtain ⟨b_3, g_4, h⟩ := Sh.bind_some h
              refine WpPi.cutB 11 67 (bA b_3) rfl ?_ ?_
              ·
                refine WpPi.pn 1 rfl trivial ?_
                refine WpPi.split 57 rfl (fun hb => ?_) (fun hb => ?_)
                ·
                  replace g_4 := Sh.ite_pos hb g_4
                  refine WpPi.pn 2 rfl trivial ?_
                  refine WpPi.skip rfl rfl rfl ?_
                  refine WpPi.skip rfl rfl rfl ?_
                  refine WpPi.pn 2 rfl trivial ?_
                  refine WpPi.skip rfl rfl rfl ?_
                  refine WpPi.skip rfl rfl rfl ?_
                  refine WpPi.pn 2 rfl trivial ?_
                  refine WpPi.nil ?_
                  obtain rfl := Sh.some_inj g_4
                  exact ⟨rfl, rfl⟩
                ·
                  replace g_4 := Sh.ite_neg hb g_4
                  obtain ⟨y_3, hy_3, g_4⟩ := Sh.bind_some g_4
                  refine WpPi.pn 2 rfl trivial ?_
                  refine WpPi.consI (v := (.rop (cS y_3))) rfl rfl rfl rfl (fun _ => Exact.ixr cS hy_3 rfl rfl rfl rfl (by kernel_rfl) (by decide)) ?_
                  refine WpPi.consI (v := (sA y_3)) rfl rfl rfl rfl (fun _ => Exact.load_rop rfl rfl rfl) ?_
                  obtain ⟨y_4, hy_4, g_4⟩ := Sh.bind_some g_4
                  refine WpPi.pn 2 rfl trivial ?_
                  refine WpPi.consI (v := (.rop (cS y_4))) rfl rfl rfl rfl (fun _ => Exact.ixr cS hy_4 rfl rfl rfl rfl (by kernel_rfl) (by decide)) ?_
                  refine WpPi.consI (v := (sA y_4)) rfl rfl rfl rfl (fun _ => Exact.load_rop rfl rfl rfl) ?_
                  refine WpPi.pn 2 rfl trivial ?_
                  refine WpPi.nil ?_
                  obtain rfl := Sh.some_inj g_4
                  exact ⟨rfl, rfl⟩
              intro env
              refine WpPi.pn 1 rfl trivial ?_
              refine WpPi.nil ?_
              refine ⟨_, Heap.le_refl _, ?_⟩
              refine WpC.regionD ?_
              obtain ⟨c_1, h⟩ := Sh.chk_some h
              refine WpOps.pn 3 rfl c_1 ?_
              refine WpOps.nil ?_
              obtain rfl := Sh.some_inj h
              exact ⟨_, (Heap.le_refl _), (b_3, (k_1 + (1 : Int))), (), rfl, ⟨rfl, rfl, rfl, rfl, rfl, rfl, rfl, trivial⟩, hH⟩
            ·
              replace h := Sh.ite_neg hb h
              obtain rfl := Sh.some_inj h
              have e := hd_2 _ rfl
              subst e
              refine WpC.exit ?_
              exact ⟨(twice_2, ()), ⟨rfl, rfl, rfl, rfl, rfl, rfl, trivial⟩, hk_2, hH⟩
          ·
            rintro ⟨twice_3, _⟩ env H' ⟨h, hH⟩
            try dsimp only at h
            refine ⟨_, Heap.le_refl _, ?_⟩
            refine WpC.seqK (fun x : (List UInt8) × (Unit) => [(0, (AV.rows 1 (List.map cS names_1))), (1, (bA variadic_1)), (5, (bA r_1)), (6, (sA x.1)), (7, (bA twice_3)), (8, (iA i_1))]) (fun x H' => (emendlaw06_MacroParams_j5 names_1 i_1 twice_3) x.1 = some st_1 ∧ Holds H0 [] H') ?_ ?_
            ·
              refine WpC.seqR ?_
              refine WpOps.pn 2 rfl trivial ?_
              refine WpOps.nil ?_
              refine WpC.condB rfl (fun hb => ?_) (fun hb => ?_)
              ·
                replace h := Sh.ite_pos hb h
                refine WpC.regionD ?_
                obtain ⟨c_2, h⟩ := Sh.chk_some h
                refine WpOps.pn 3 rfl c_2 ?_
                refine WpOps.nil ?_
                exact ⟨_, (Heap.le_refl _), ((s_1 ++ ([44] : List UInt8)), ()), ⟨rfl, rfl, rfl, rfl, rfl, rfl, trivial⟩, h, hH⟩
              ·
                replace h := Sh.ite_neg hb h
                refine WpC.skipD ?_
                exact ⟨_, (Heap.le_refl _), (s_1, ()), ⟨rfl, rfl, rfl, rfl, rfl, rfl, trivial⟩, h, hH⟩
            ·
              rintro ⟨s_2, _⟩ env H' ⟨h, hH⟩
              try dsimp only at h
              refine WpC.regionD ?_
              obtain ⟨y_5, hy_5, h⟩ := Sh.bind_some h
              refine WpOps.pn 3 rfl trivial ?_
              refine WpOps.consE (v := (.rop (cS y_5))) rfl rfl (Exact.ixr cS hy_5 rfl rfl rfl rfl (by kernel_rfl) (by decide)) ?_
              refine WpOps.consE (v := (sA y_5)) rfl rfl (Exact.load_rop rfl rfl rfl) ?_
              obtain ⟨c_3, h⟩ := Sh.chk_some h
              refine WpOps.pn 2 rfl c_3 ?_
              refine WpOps.nil ?_
              refine ⟨_, Heap.le_refl _, ?_⟩
              refine WpC.regionD ?_
              obtain ⟨c_4, h⟩ := Sh.chk_some h
              refine WpOps.pn 3 rfl c_4 ?_
              refine WpOps.nil ?_
              obtain rfl := Sh.some_inj h
              exact ⟨_, (Heap.le_refl _), ((s_2 ++ y_5), twice_3, (i_1 + (1 : Int))), (), rfl, ⟨rfl, rfl, rfl, rfl, rfl, rfl, trivial⟩, hH⟩
      ·
        replace h := Sh.ite_neg hb h
        obtain rfl := Sh.some_inj h
        have e := hd_1 _ rfl
        subst e
        refine WpC.exit ?_
        exact ⟨((s_1, twice_1), ()), ⟨rfl, rfl, rfl, rfl, rfl, trivial⟩, hk_1, hH⟩
    ·
      rintro ⟨⟨s_3, twice_4⟩, _⟩ env H' ⟨h, hH⟩
      try dsimp only at h
      refine ⟨_, Heap.le_refl _, ?_⟩
      refine WpC.seqK (fun x : (List UInt8) × (Unit) => [(0, (AV.rows 1 (List.map cS names_1))), (1, (bA variadic_1)), (5, (bA r_1)), (6, (sA x.1)), (7, (bA twice_4))]) (fun x H' => (emendlaw06_MacroParams_j6 names_1 variadic_1 r_1 twice_4) x.1 = some r ∧ Holds H0 [] H') ?_ ?_
      ·
        refine WpC.seqR ?_
        refine WpOps.pn 1 rfl trivial ?_
        refine WpOps.nil ?_
        refine WpC.condB rfl (fun hb => ?_) (fun hb => ?_)
        ·
          replace h := Sh.ite_pos hb h
          refine WpC.seq ?_
          refine WpC.seqR ?_
          refine WpOps.pn 2 rfl trivial ?_
          refine WpOps.at 80 (len_map _ _) ?_
          refine WpOps.pn 1 rfl trivial ?_
          refine WpOps.nil ?_
          refine WpC.condB rfl (fun hb => ?_) (fun hb => ?_)
          ·
            replace h := Sh.ite_pos hb h
            refine WpC.regionD ?_
            obtain ⟨c_5, h⟩ := Sh.chk_some h
            refine WpOps.pn 3 rfl c_5 ?_
            refine WpOps.nil ?_
            refine ⟨_, Heap.le_refl _, ?_⟩
            refine WpC.regionD ?_
            obtain ⟨c_6, h⟩ := Sh.chk_some h
            refine WpOps.pn 3 rfl c_6 ?_
            refine WpOps.nil ?_
            exact ⟨_, (Heap.le_refl _), (((s_3 ++ ([44] : List UInt8)) ++ ([46, 46, 46] : List UInt8)), ()), ⟨rfl, rfl, rfl, rfl, rfl, trivial⟩, h, hH⟩
          ·
            replace h := Sh.ite_neg hb h
            refine WpC.skipD ?_
            refine ⟨_, Heap.le_refl _, ?_⟩
            refine WpC.regionD ?_
            obtain ⟨c_7, h⟩ := Sh.chk_some h
            refine WpOps.pn 3 rfl c_7 ?_
            refine WpOps.nil ?_
            exact ⟨_, (Heap.le_refl _), ((s_3 ++ ([46, 46, 46] : List UInt8)), ()), ⟨rfl, rfl, rfl, rfl, rfl, trivial⟩, h, hH⟩
        ·
          replace h := Sh.ite_neg hb h
          refine WpC.skipD ?_
          exact ⟨_, (Heap.le_refl _), (s_3, ()), ⟨rfl, rfl, rfl, rfl, rfl, trivial⟩, h, hH⟩
      ·
        rintro ⟨s_4, _⟩ env H' ⟨h, hH⟩
        try dsimp only at h
        refine WpC.seqR ?_
        obtain ⟨c_8, h⟩ := Sh.chk_some h
        obtain ⟨r_3, hr_3, h⟩ := Sh.bind_some h
        refine WpOps.pn 2 rfl c_8 ?_
        refine WpOps.consE (v := (.tup [(AV.agg (cGMacro r_3.1)), (iA r_3.2)])) rfl rfl (Exact.call rfl rfl rfl (w_emendlaw06_define (hG.up hH) hr_3)) ?_
        refine WpOps.pn 3 rfl trivial ?_
        refine WpOps.consG rfl rfl (WpO.allocU (z' := cGMacro (GMacro.mk ([] : List UInt8) false ([] : List (List UInt8)) false ([] : List GTok))) rfl rfl (.cons (.refl _) (.cons (.refl _) (.cons (Sub.nil _) (.cons (.refl _) (.cons (Sub.nil _) .nil))))) hH fun g_5 H' hH => ?_)
        refine WpOps.consG rfl rfl (WpO.putT (cs' := (cGMacro r_3.1)) (v := (AV.agg (cGMacro r_3.1))) rfl rfl hH (i := 0) rfl rfl rfl rfl rfl rfl rfl fun H' hH => ?_)
        refine WpOps.pn 1 rfl trivial ?_
        refine WpOps.nil ?_
        refine WpC.seq ?_
        refine WpC.seqR ?_
        refine WpOps.pn 1 rfl trivial ?_
        refine WpOps.nil ?_
        refine WpC.condB rfl (fun hb => ?_) (fun hb => ?_)
        ·
          replace h := Sh.ite_pos hb h
          refine WpC.seqR ?_
          refine WpOps.pn 1 rfl trivial ?_
          obtain ⟨b_4, g_6, h⟩ := Sh.bind_some h
          refine WpOps.cutB 4 97 (bA b_4) rfl ?_ ?_
          ·
            refine WpOps.pn 1 rfl trivial ?_
            refine WpOps.split 94 rfl (fun hb => ?_) (fun hb => ?_)
            ·
              replace g_6 := Sh.ite_pos hb g_6
              refine WpOps.pn 3 rfl trivial ?_
              refine WpOps.nil ?_
              obtain rfl := Sh.some_inj g_6
              exact ⟨rfl, rfl⟩
            ·
              replace g_6 := Sh.ite_neg hb g_6
              refine WpOps.pn 3 rfl trivial ?_
              refine WpOps.nil ?_
              obtain rfl := Sh.some_inj g_6
              exact ⟨rfl, rfl⟩
          intro env
          refine WpOps.pn 1 rfl trivial ?_
          refine WpOps.nil ?_
          refine WpC.lose (i := 0) hH rfl (fun H' hH => ?_)
          obtain rfl := Sh.some_inj h
          refine WpC.ret ?_
          exact VEnds.ret1 rfl rfl ⟨rfl, hH⟩
        ·
          replace h := Sh.ite_neg hb h
          refine WpC.skipD ?_
          refine ⟨_, Heap.le_refl _, ?_⟩
          refine WpC.seq ?_
          refine WpC.seqR ?_
          refine WpOps.pn 2 rfl trivial ?_
          obtain ⟨b_5, g_7, h⟩ := Sh.bind_some h
          refine WpOps.cutB 5 104 (bA b_5) rfl ?_ ?_
          ·
            refine WpOps.pn 1 rfl trivial ?_
            refine WpOps.split 100 rfl (fun hb => ?_) (fun hb => ?_)
            ·
              replace g_7 := Sh.ite_pos hb g_7
              refine WpOps.pn 4 rfl trivial ?_
              refine WpOps.nil ?_
              obtain rfl := Sh.some_inj g_7
              exact ⟨rfl, rfl⟩
            ·
              replace g_7 := Sh.ite_neg hb g_7
              refine WpOps.pn 1 rfl trivial ?_
              refine WpOps.consE (v := (bA r_3.1.func)) rfl rfl (Exact.load rfl rfl (hH.cell (i := 0) rfl) rfl rfl) ?_
              refine WpOps.pn 2 rfl trivial ?_
              refine WpOps.nil ?_
              obtain rfl := Sh.some_inj g_7
              exact ⟨rfl, rfl⟩
          intro env
          obtain ⟨b_6, g_8, h⟩ := Sh.bind_some h
          refine WpOps.cutB 6 110 (bA b_6) rfl ?_ ?_
          ·
            refine WpOps.pn 1 rfl trivial ?_
            refine WpOps.split 105 rfl (fun hb => ?_) (fun hb => ?_)
            ·
              replace g_8 := Sh.ite_pos hb g_8
              refine WpOps.pn 5 rfl trivial ?_
              refine WpOps.nil ?_
              obtain rfl := Sh.some_inj g_8
              exact ⟨rfl, rfl⟩
            ·
              replace g_8 := Sh.ite_neg hb g_8
              refine WpOps.pn 1 rfl trivial ?_
              refine WpOps.consE (v := (bA r_3.1.variadic)) rfl rfl (Exact.load rfl rfl (hH.cell (i := 0) rfl) rfl rfl) ?_
              refine WpOps.pn 3 rfl trivial ?_
              refine WpOps.nil ?_
              obtain rfl := Sh.some_inj g_8
              exact ⟨rfl, rfl⟩
          intro env
          obtain ⟨b_7, g_9, h⟩ := Sh.bind_some h
          refine WpOps.cutB 8 118 (bA b_7) rfl ?_ ?_
          ·
            refine WpOps.pn 1 rfl trivial ?_
            refine WpOps.split 111 rfl (fun hb => ?_) (fun hb => ?_)
            ·
              replace g_9 := Sh.ite_pos hb g_9
              refine WpOps.pn 7 rfl trivial ?_
              refine WpOps.nil ?_
              obtain rfl := Sh.some_inj g_9
              exact ⟨rfl, rfl⟩
            ·
              replace g_9 := Sh.ite_neg hb g_9
              refine WpOps.pn 1 rfl trivial ?_
              refine WpOps.consE (v := (AV.rows 1 (List.map cS r_3.1.params))) rfl rfl (Exact.load rfl rfl (hH.cell (i := 0) rfl) rfl rfl) ?_
              refine WpOps.pn 1 rfl trivial ?_
              refine WpOps.at 114 (len_map _ _) ?_
              refine WpOps.pn 2 rfl trivial ?_
              refine WpOps.at 116 (len_map _ _) ?_
              refine WpOps.pn 2 rfl trivial ?_
              refine WpOps.nil ?_
              obtain rfl := Sh.some_inj g_9
              exact ⟨rfl, rfl⟩
          intro env
          refine WpOps.nil ?_
          refine WpC.condB rfl (fun hb => ?_) (fun hb => ?_)
          ·
            replace h := Sh.ite_pos hb h
            refine WpC.seqR ?_
            refine WpOps.pn 1 rfl trivial ?_
            refine WpOps.nil ?_
            refine WpC.lose (i := 0) hH rfl (fun H' hH => ?_)
            obtain rfl := Sh.some_inj h
            refine WpC.ret ?_
            exact VEnds.ret1 rfl rfl ⟨rfl, hH⟩
          ·
            replace h := Sh.ite_neg hb h
            refine WpC.skipD ?_
            refine ⟨_, Heap.le_refl _, ?_⟩
            refine WpC.seq ?_
            refine WpC.seqR ?_
            refine WpOps.pn 1 rfl trivial ?_
            refine WpOps.nil ?_
            refine WpC.blockK (fun x : (Unit) × (Unit) => [(0, (AV.rows 1 (List.map cS names_1))), (1, (bA variadic_1)), (5, (bA r_1)), (12, (.lit (.pointer (some ⟨g_5, 0, none⟩))))]) (fun x H' => (emendlaw06_MacroParams_j7 names_1 variadic_1 r_1 r_3) x.1 = some r ∧ Holds H0 [.cell g_5 44 (cGMacro r_3.1)] H') ?_ ?_
            ·
              obtain ⟨o_3, ho_3, hk_3⟩ := Sh.bind_some h
              refine WpC.loopS (emendlaw06_MacroParams_b8 names_1 r_3) (fun (s : Int) (a : Unit) => [(0, (AV.rows 1 (List.map cS names_1))), (1, (bA variadic_1)), (5, (bA r_1)), (12, (.lit (.pointer (some ⟨g_5, 0, none⟩)))), (14, (iA s))]) (fun (s : Int) (a : Unit) H' => Holds H0 [.cell g_5 44 (cGMacro r_3.1)] H') o_3 (0 : Int) () ho_3 ⟨rfl, rfl, rfl, rfl, rfl, trivial⟩ hH ?_
              rintro i_2 _ st_3 env H' h hd_3 hH
              refine WpC.seq ?_
              refine WpC.seqR ?_
              refine WpOps.pn 3 rfl trivial ?_
              refine WpOps.at 121 (len_map _ _) ?_
              refine WpOps.pn 1 rfl trivial ?_
              refine WpOps.nil ?_
              refine WpC.condB rfl (fun hb => ?_) (fun hb => ?_)
              ·
                replace h := Sh.ite_pos hb h
                refine WpC.skipD ?_
                refine ⟨_, Heap.le_refl _, ?_⟩
                refine WpC.seq ?_
                refine WpC.block ?_
                refine WpC.seqD [.S] [0, 1, 2, 3, 4, 5, 6] (by kernel_rfl) (by kernel_rfl) ?_
                refine WpPi.consS (v := (AV.agg (cGMacro r_3.1))) rfl rfl rfl rfl (Exact.load rfl rfl (hH.cell (i := 0) rfl) rfl rfl) ?_
                obtain ⟨y_6, hy_6, h⟩ := Sh.bind_some h
                refine WpPi.pn 2 rfl trivial ?_
                refine WpPi.consI (v := (.rop (cS y_6))) rfl rfl rfl rfl (fun _ => Exact.ixr cS hy_6 rfl rfl rfl rfl (by kernel_rfl) (by decide)) ?_
                refine WpPi.consI (v := (sA y_6)) rfl rfl rfl rfl (fun _ => Exact.load_rop rfl rfl rfl) ?_
                obtain ⟨r_4, hr_4, h⟩ := Sh.bind_some h
                refine WpPi.consI (v := (iA r_4)) rfl rfl rfl rfl (fun _ => Exact.call rfl rfl rfl (w_macro_Param hr_4)) ?_
                refine WpPi.pn 1 rfl trivial ?_
                refine WpPi.nil ?_
                refine WpC.seqR ?_
                refine WpOps.pn 3 rfl trivial ?_
                refine WpOps.nil ?_
                refine WpC.condB rfl (fun hb => ?_) (fun hb => ?_)
                ·
                  replace h := Sh.ite_pos hb h
                  refine WpC.seqR ?_
                  refine WpOps.pn 1 rfl trivial ?_
                  refine WpOps.nil ?_
                  refine WpC.lose (i := 0) hH rfl (fun H' hH => ?_)
                  obtain rfl := Sh.some_inj h
                  have e := hd_3 _ rfl
                  subst e
                  have h := hk_3
                  obtain rfl := Sh.some_inj h
                  refine WpC.ret ?_
                  exact VEnds.ret1 rfl rfl ⟨rfl, hH⟩
                ·
                  replace h := Sh.ite_neg hb h
                  refine WpC.skipD ?_
                  refine ⟨_, Heap.le_refl _, ?_⟩
                  refine WpC.regionD ?_
                  obtain ⟨c_9, h⟩ := Sh.chk_some h
                  refine WpOps.pn 3 rfl c_9 ?_
                  refine WpOps.nil ?_
                  obtain rfl := Sh.some_inj h
                  exact ⟨_, (Heap.le_refl _), (i_2 + (1 : Int)), (), rfl, ⟨rfl, rfl, rfl, rfl, rfl, trivial⟩, hH⟩
              ·
                replace h := Sh.ite_neg hb h
                obtain rfl := Sh.some_inj h
                have e := hd_3 _ rfl
                subst e
                refine WpC.exit ?_
                exact ⟨((), ()), ⟨rfl, rfl, rfl, rfl, trivial⟩, hk_3, hH⟩
            ·
              rintro ⟨_, _⟩ env H' ⟨h, hH⟩
              try dsimp only at h
              refine ⟨_, Heap.le_refl _, ?_⟩
              refine WpC.seqR ?_
              refine WpOps.consE (v := (AV.agg (cGMacro r_3.1))) rfl rfl (Exact.load rfl rfl (hH.cell (i := 0) rfl) rfl rfl) ?_
              obtain ⟨r_5, hr_5, h⟩ := Sh.bind_some h
              refine WpOps.consE (v := (iA r_5)) rfl rfl (Exact.call rfl rfl rfl (w_macro_Param hr_5)) ?_
              refine WpOps.pn 1 rfl trivial ?_
              refine WpOps.nil ?_
              refine WpC.seqR ?_
              refine WpOps.pn 1 rfl trivial ?_
              obtain ⟨b_8, g_10, h⟩ := Sh.bind_some h
              refine WpOps.cutB 17 153 (bA b_8) rfl ?_ ?_
              ·
                refine WpOps.pn 1 rfl trivial ?_
                refine WpOps.split 137 rfl (fun hb => ?_) (fun hb => ?_)
                ·
                  replace g_10 := Sh.ite_pos hb g_10
                  refine WpOps.pn 1 rfl trivial ?_
                  obtain ⟨b_9, g_11, g_10⟩ := Sh.bind_some g_10
                  refine WpOps.cutB 6 144 (bA b_9) rfl ?_ ?_
                  ·
                    refine WpOps.pn 1 rfl trivial ?_
                    refine WpOps.split 139 rfl (fun hb => ?_) (fun hb => ?_)
                    ·
                      replace g_11 := Sh.ite_pos hb g_11
                      refine WpOps.pn 3 rfl trivial ?_
                      refine WpOps.at 142 (len_map _ _) ?_
                      refine WpOps.pn 2 rfl trivial ?_
                      refine WpOps.nil ?_
                      obtain rfl := Sh.some_inj g_11
                      exact ⟨rfl, rfl⟩
                    ·
                      replace g_11 := Sh.ite_neg hb g_11
                      refine WpOps.pn 5 rfl trivial ?_
                      refine WpOps.nil ?_
                      obtain rfl := Sh.some_inj g_11
                      exact ⟨rfl, rfl⟩
                  intro env
                  obtain ⟨b_10, g_12, g_10⟩ := Sh.bind_some g_10
                  refine WpOps.cutB 8 152 (bA b_10) rfl ?_ ?_
                  ·
                    refine WpOps.pn 1 rfl trivial ?_
                    refine WpOps.split 145 rfl (fun hb => ?_) (fun hb => ?_)
                    ·
                      replace g_12 := Sh.ite_pos hb g_12
                      refine WpOps.pn 7 rfl trivial ?_
                      refine WpOps.nil ?_
                      obtain rfl := Sh.some_inj g_12
                      exact ⟨rfl, rfl⟩
                    ·
                      replace g_12 := Sh.ite_neg hb g_12
                      refine WpOps.pn 2 rfl trivial ?_
                      obtain ⟨b_11, g_13, g_12⟩ := Sh.bind_some g_12
                      refine WpOps.cutB 4 151 (bA b_11) rfl ?_ ?_
                      ·
                        refine WpOps.pn 1 rfl trivial ?_
                        refine WpOps.split 148 rfl (fun hb => ?_) (fun hb => ?_)
                        ·
                          replace g_13 := Sh.ite_pos hb g_13
                          refine WpOps.pn 3 rfl trivial ?_
                          refine WpOps.nil ?_
                          obtain rfl := Sh.some_inj g_13
                          exact ⟨rfl, rfl⟩
                        ·
                          replace g_13 := Sh.ite_neg hb g_13
                          refine WpOps.pn 3 rfl trivial ?_
                          refine WpOps.nil ?_
                          obtain rfl := Sh.some_inj g_13
                          exact ⟨rfl, rfl⟩
                      intro env
                      refine WpOps.pn 1 rfl trivial ?_
                      refine WpOps.nil ?_
                      obtain rfl := Sh.some_inj g_12
                      exact ⟨rfl, rfl⟩
                  intro env
                  refine WpOps.pn 1 rfl trivial ?_
                  refine WpOps.nil ?_
                  obtain rfl := Sh.some_inj g_10
                  exact ⟨rfl, rfl⟩
                ·
                  replace g_10 := Sh.ite_neg hb g_10
                  refine WpOps.pn 16 rfl trivial ?_
                  refine WpOps.nil ?_
                  obtain rfl := Sh.some_inj g_10
                  exact ⟨rfl, rfl⟩
              intro env
              refine WpOps.pn 1 rfl trivial ?_
              refine WpOps.nil ?_
              refine WpC.lose (i := 0) hH rfl (fun H' hH => ?_)
              obtain rfl := Sh.some_inj h
              refine WpC.ret ?_
              exact VEnds.ret1 rfl rfl ⟨rfl, hH⟩

theorem w_slices_Equal_Lstring_string {H0 : Heap} {s1_1 : List (List UInt8)} {s2_1 : List (List UInt8)} {r : Bool} (h : slices_Equal_Lstring_string s1_1 s2_1 = some r) : TCall Tryd.prog 64 [(AV.rows 1 (List.map cS s1_1)), (AV.rows 1 (List.map cS s2_1))] H0 (fun v H' => v = (bA r) ∧ H' = H0) noE := by
  refine id (TCall.body Tryd.func64 rfl rfl ?_)
  have hH : Holds H0 [] H0 := rfl
  refine WpC.seqR ?_
  refine WpOps.pn 1 rfl trivial ?_
  refine WpOps.nil ?_
  refine WpC.seq ?_
  refine WpC.seqR ?_
  refine WpOps.pn 2 rfl trivial ?_
  refine WpOps.at 7 (len_map _ _) ?_
  refine WpOps.pn 2 rfl trivial ?_
  refine WpOps.at 9 (len_map _ _) ?_
  refine WpOps.pn 1 rfl trivial ?_
  refine WpOps.nil ?_
  refine WpC.condB rfl (fun hb => ?_) (fun hb => ?_)
  ·
    replace h := Sh.ite_pos hb h
    refine WpC.seqR ?_
    refine WpOps.pn 1 rfl trivial ?_
    refine WpOps.nil ?_
    obtain rfl := Sh.some_inj h
    refine WpC.ret ?_
    exact VEnds.ret1 rfl rfl ⟨rfl, hH⟩
  ·
    replace h := Sh.ite_neg hb h
    refine WpC.skipD ?_
    refine ⟨_, Heap.le_refl _, ?_⟩
    refine WpC.seq ?_
    refine WpC.seqR ?_
    refine WpOps.pn 2 rfl trivial ?_
    refine WpOps.at 12 (len_map _ _) ?_
    refine WpOps.pn 1 rfl trivial ?_
    refine WpOps.nil ?_
    refine WpC.blockK (fun x : (Unit) × (Unit) => []) (fun x H' => slices_Equal_Lstring_string_j1 x.1 = some r ∧ Holds H0 [] H') ?_ ?_
    ·
      obtain ⟨o_1, ho_1, hk_1⟩ := Sh.bind_some h
      refine WpC.loopS (slices_Equal_Lstring_string_b2 s1_1 s2_1) (fun (s : Int) (a : Unit) => [(0, (AV.rows 1 (List.map cS s1_1))), (1, (AV.rows 1 (List.map cS s2_1))), (12, (iA (s1_1.length : Int))), (13, (iA s))]) (fun (s : Int) (a : Unit) H' => Holds H0 [] H') o_1 (0 : Int) () ho_1 ⟨rfl, rfl, rfl, rfl, trivial⟩ hH ?_
      rintro t13_1 _ st_1 env H' h hd_1 hH
      refine WpC.seqR ?_
      refine WpOps.pn 1 rfl trivial ?_
      refine WpOps.nil ?_
      refine WpC.seq ?_
      refine WpC.condB rfl (fun hb => ?_) (fun hb => ?_)
      ·
        replace h := Sh.ite_pos hb h
        refine WpC.skipD ?_
        refine ⟨_, Heap.le_refl _, ?_⟩
        refine WpC.seq ?_
        refine WpC.block ?_
        refine WpC.seqR ?_
        refine WpOps.pn 2 rfl trivial ?_
        refine WpOps.nil ?_
        refine WpC.seqD [] [0, 1, 2, 3, 4, 5, 6, 7, 8] (by kernel_rfl) (by kernel_rfl) ?_
        obtain ⟨y_1, hy_1, h⟩ := Sh.bind_some h
        refine WpPi.pn 2 rfl trivial ?_
        refine WpPi.consI (v := (.rop (cS y_1))) rfl rfl rfl rfl (fun _ => Exact.ixr cS hy_1 rfl rfl rfl rfl (by kernel_rfl) (by decide)) ?_
        refine WpPi.consI (v := (sA y_1)) rfl rfl rfl rfl (fun _ => Exact.load_rop rfl rfl rfl) ?_
        obtain ⟨y_2, hy_2, h⟩ := Sh.bind_some h
        refine WpPi.pn 2 rfl trivial ?_
        refine WpPi.consI (v := (.rop (cS y_2))) rfl rfl rfl rfl (fun _ => Exact.ixr cS hy_2 rfl rfl rfl rfl (by kernel_rfl) (by decide)) ?_
        refine WpPi.consI (v := (sA y_2)) rfl rfl rfl rfl (fun _ => Exact.load_rop rfl rfl rfl) ?_
        refine WpPi.pn 1 rfl trivial ?_
        refine WpPi.nil ?_
        refine WpC.condB rfl (fun hb => ?_) (fun hb => ?_)
        ·
          replace h := Sh.ite_pos hb h
          refine WpC.seqR ?_
          refine WpOps.pn 1 rfl trivial ?_
          refine WpOps.nil ?_
          obtain rfl := Sh.some_inj h
          have e := hd_1 _ rfl
          subst e
          have h := hk_1
          obtain rfl := Sh.some_inj h
          refine WpC.ret ?_
          exact VEnds.ret1 rfl rfl ⟨rfl, hH⟩
        ·
          replace h := Sh.ite_neg hb h
          refine WpC.skipD ?_
          refine ⟨_, Heap.le_refl _, ?_⟩
          refine WpC.regionD ?_
          obtain ⟨c_1, h⟩ := Sh.chk_some h
          refine WpOps.pn 2 rfl c_1 ?_
          refine WpOps.nil ?_
          obtain rfl := Sh.some_inj h
          exact ⟨_, (Heap.le_refl _), (t13_1 + (1 : Int)), (), rfl, ⟨rfl, rfl, rfl, rfl, trivial⟩, hH⟩
      ·
        replace h := Sh.ite_neg hb h
        obtain rfl := Sh.some_inj h
        have e := hd_1 _ rfl
        subst e
        refine WpC.exit ?_
        exact ⟨((), ()), trivial, hk_1, hH⟩
    ·
      rintro ⟨_, _⟩ env H' ⟨h, hH⟩
      try dsimp only at h
      refine ⟨_, Heap.le_refl _, ?_⟩
      refine WpC.seqR ?_
      refine WpOps.pn 1 rfl trivial ?_
      refine WpOps.nil ?_
      obtain rfl := Sh.some_inj h
      refine WpC.ret ?_
      exact VEnds.ret1 rfl rfl ⟨rfl, hH⟩

theorem w_macro_Same {H0 : Heap} {a_1 : GMacro} {b_1 : GMacro} {r : Bool} (h : macro_Same a_1 b_1 = some r) : TCall Tryd.prog 35 [(AV.agg (cGMacro a_1)), (AV.agg (cGMacro b_1))] H0 (fun v H' => v = (bA r) ∧ H' = H0) noE := by
  refine id (TCall.body Tryd.func35 rfl rfl ?_)
  have hH : Holds H0 [] H0 := rfl
  refine WpC.seqR ?_
  refine WpOps.consG rfl rfl (WpO.boxT (v := (AV.agg (cGMacro a_1))) rfl rfl hH fun g_1 H' hH => ?_)
  refine WpOps.consG rfl rfl (WpO.boxT (v := (AV.agg (cGMacro b_1))) rfl rfl hH fun g_2 H' hH => ?_)
  refine WpOps.pn 1 rfl trivial ?_
  refine WpOps.nil ?_
  refine WpC.seq ?_
  refine WpC.seqR ?_
  refine WpOps.pn 1 rfl trivial ?_
  refine WpOps.consE (v := (sA a_1.name)) rfl rfl (Exact.load rfl rfl (hH.cell (i := 1) rfl) rfl rfl) ?_
  refine WpOps.pn 1 rfl trivial ?_
  refine WpOps.consE (v := (sA b_1.name)) rfl rfl (Exact.load rfl rfl (hH.cell (i := 0) rfl) rfl rfl) ?_
  refine WpOps.pn 1 rfl trivial ?_
  obtain ⟨b_2, g_3, h⟩ := Sh.bind_some h
  refine WpOps.cutB 7 19 (bA b_2) rfl ?_ ?_
  ·
    refine WpOps.pn 1 rfl trivial ?_
    refine WpOps.split 13 rfl (fun hb => ?_) (fun hb => ?_)
    ·
      replace g_3 := Sh.ite_pos hb g_3
      refine WpOps.pn 6 rfl trivial ?_
      refine WpOps.nil ?_
      obtain rfl := Sh.some_inj g_3
      exact ⟨rfl, rfl⟩
    ·
      replace g_3 := Sh.ite_neg hb g_3
      refine WpOps.pn 1 rfl trivial ?_
      refine WpOps.consE (v := (bA a_1.func)) rfl rfl (Exact.load rfl rfl (hH.cell (i := 1) rfl) rfl rfl) ?_
      refine WpOps.pn 1 rfl trivial ?_
      refine WpOps.consE (v := (bA b_1.func)) rfl rfl (Exact.load rfl rfl (hH.cell (i := 0) rfl) rfl rfl) ?_
      refine WpOps.pn 2 rfl trivial ?_
      refine WpOps.nil ?_
      obtain rfl := Sh.some_inj g_3
      exact ⟨rfl, rfl⟩
  intro env
  obtain ⟨b_3, g_4, h⟩ := Sh.bind_some h
  refine WpOps.cutB 7 26 (bA b_3) rfl ?_ ?_
  ·
    refine WpOps.pn 1 rfl trivial ?_
    refine WpOps.split 20 rfl (fun hb => ?_) (fun hb => ?_)
    ·
      replace g_4 := Sh.ite_pos hb g_4
      refine WpOps.pn 6 rfl trivial ?_
      refine WpOps.nil ?_
      obtain rfl := Sh.some_inj g_4
      exact ⟨rfl, rfl⟩
    ·
      replace g_4 := Sh.ite_neg hb g_4
      refine WpOps.pn 1 rfl trivial ?_
      refine WpOps.consE (v := (bA a_1.variadic)) rfl rfl (Exact.load rfl rfl (hH.cell (i := 1) rfl) rfl rfl) ?_
      refine WpOps.pn 1 rfl trivial ?_
      refine WpOps.consE (v := (bA b_1.variadic)) rfl rfl (Exact.load rfl rfl (hH.cell (i := 0) rfl) rfl rfl) ?_
      refine WpOps.pn 2 rfl trivial ?_
      refine WpOps.nil ?_
      obtain rfl := Sh.some_inj g_4
      exact ⟨rfl, rfl⟩
  intro env
  obtain ⟨b_4, g_5, h⟩ := Sh.bind_some h
  refine WpOps.cutB 8 34 (bA b_4) rfl ?_ ?_
  ·
    refine WpOps.pn 1 rfl trivial ?_
    refine WpOps.split 27 rfl (fun hb => ?_) (fun hb => ?_)
    ·
      replace g_5 := Sh.ite_pos hb g_5
      refine WpOps.pn 7 rfl trivial ?_
      refine WpOps.nil ?_
      obtain rfl := Sh.some_inj g_5
      exact ⟨rfl, rfl⟩
    ·
      replace g_5 := Sh.ite_neg hb g_5
      refine WpOps.pn 1 rfl trivial ?_
      refine WpOps.consE (v := (AV.rows 1 (List.map cS a_1.params))) rfl rfl (Exact.load rfl rfl (hH.cell (i := 1) rfl) rfl rfl) ?_
      refine WpOps.pn 1 rfl trivial ?_
      refine WpOps.consE (v := (AV.rows 1 (List.map cS b_1.params))) rfl rfl (Exact.load rfl rfl (hH.cell (i := 0) rfl) rfl rfl) ?_
      obtain ⟨r_1, hr_1, g_5⟩ := Sh.bind_some g_5
      refine WpOps.consE (v := (bA r_1)) rfl rfl (Exact.call rfl rfl rfl (w_slices_Equal_Lstring_string hr_1)) ?_
      refine WpOps.pn 2 rfl trivial ?_
      refine WpOps.nil ?_
      obtain rfl := Sh.some_inj g_5
      exact ⟨rfl, rfl⟩
  intro env
  obtain ⟨b_5, g_6, h⟩ := Sh.bind_some h
  refine WpOps.cutB 9 43 (bA b_5) rfl ?_ ?_
  ·
    refine WpOps.pn 1 rfl trivial ?_
    refine WpOps.split 35 rfl (fun hb => ?_) (fun hb => ?_)
    ·
      replace g_6 := Sh.ite_pos hb g_6
      refine WpOps.pn 8 rfl trivial ?_
      refine WpOps.nil ?_
      obtain rfl := Sh.some_inj g_6
      exact ⟨rfl, rfl⟩
    ·
      replace g_6 := Sh.ite_neg hb g_6
      refine WpOps.pn 1 rfl trivial ?_
      refine WpOps.consE (v := (AV.rows 6 (List.map cGTok a_1.body))) rfl rfl (Exact.load rfl rfl (hH.cell (i := 1) rfl) rfl rfl) ?_
      refine WpOps.pn 1 rfl trivial ?_
      refine WpOps.at 38 (len_map _ _) ?_
      refine WpOps.pn 1 rfl trivial ?_
      refine WpOps.consE (v := (AV.rows 6 (List.map cGTok b_1.body))) rfl rfl (Exact.load rfl rfl (hH.cell (i := 0) rfl) rfl rfl) ?_
      refine WpOps.pn 1 rfl trivial ?_
      refine WpOps.at 41 (len_map _ _) ?_
      refine WpOps.pn 2 rfl trivial ?_
      refine WpOps.nil ?_
      obtain rfl := Sh.some_inj g_6
      exact ⟨rfl, rfl⟩
  intro env
  refine WpOps.nil ?_
  refine WpC.condB rfl (fun hb => ?_) (fun hb => ?_)
  ·
    replace h := Sh.ite_pos hb h
    refine WpC.seqR ?_
    refine WpOps.pn 1 rfl trivial ?_
    refine WpOps.nil ?_
    refine WpC.lose (i := 0) hH rfl (fun H' hH => ?_)
    refine WpC.lose (i := 0) hH rfl (fun H' hH => ?_)
    obtain rfl := Sh.some_inj h
    refine WpC.ret ?_
    exact VEnds.ret1 rfl rfl ⟨rfl, hH⟩
  ·
    replace h := Sh.ite_neg hb h
    refine WpC.skipD ?_
    refine ⟨_, Heap.le_refl _, ?_⟩
    refine WpC.seq ?_
    refine WpC.seqR ?_
    refine WpOps.pn 1 rfl trivial ?_
    refine WpOps.consE (v := (AV.rows 6 (List.map cGTok a_1.body))) rfl rfl (Exact.load rfl rfl (hH.cell (i := 1) rfl) rfl rfl) ?_
    refine WpOps.pn 1 rfl trivial ?_
    refine WpOps.at 46 (len_map _ _) ?_
    refine WpOps.pn 1 rfl trivial ?_
    refine WpOps.nil ?_
    refine WpC.lose (i := 1) hH rfl (fun H' hH => ?_)
    refine WpC.blockK (fun x : (Unit) × (Unit) => []) (fun x H' => macro_Same_j1 x.1 = some r ∧ Holds H0 [] H') ?_ ?_
    ·
      obtain ⟨o_1, ho_1, hk_1⟩ := Sh.bind_some h
      refine WpC.loopS (macro_Same_b2 a_1 b_1) (fun (s : Int) (a : Unit) => [(3, (.lit (.pointer (some ⟨g_2, 0, none⟩)))), (45, (AV.rows 6 (List.map cGTok a_1.body))), (46, (iA (a_1.body.length : Int))), (47, (iA s))]) (fun (s : Int) (a : Unit) H' => Holds H0 [.cell g_2 44 (cGMacro b_1)] H') o_1 (0 : Int) () ho_1 ⟨rfl, rfl, rfl, rfl, trivial⟩ hH ?_
      rintro t47_1 _ st_1 env H' h hd_1 hH
      refine WpC.seqR ?_
      refine WpOps.pn 1 rfl trivial ?_
      refine WpOps.nil ?_
      refine WpC.seq ?_
      refine WpC.condB rfl (fun hb => ?_) (fun hb => ?_)
      ·
        replace h := Sh.ite_pos hb h
        refine WpC.skipD ?_
        refine ⟨_, Heap.le_refl _, ?_⟩
        refine WpC.seq ?_
        refine WpC.block ?_
        refine WpC.seqR ?_
        obtain ⟨y_1, hy_1, h⟩ := Sh.bind_some h
        refine WpOps.pn 1 rfl trivial ?_
        refine WpOps.consE (v := (.rop (cGTok y_1))) rfl rfl (Exact.ixr cGTok hy_1 rfl rfl rfl rfl (by kernel_rfl) (by decide)) ?_
        refine WpOps.consE (v := (AV.agg (cGTok y_1))) rfl rfl (Exact.load_rop rfl rfl rfl) ?_
        refine WpOps.consG rfl rfl (WpO.allocT (z := cGTok (GTok.mk (0 : Int) ([] : List UInt8) (0 : Int) (0 : Int) (0 : Int) false)) rfl rfl hH fun g_7 H' hH => ?_)
        refine WpOps.pn 1 rfl trivial ?_
        refine WpOps.consG rfl rfl (WpO.putT (cs' := (cGTok y_1)) (v := (AV.agg (cGTok y_1))) rfl rfl hH (i := 0) rfl rfl rfl rfl rfl rfl rfl fun H' hH => ?_)
        refine WpOps.nil ?_
        refine WpC.seqR ?_
        refine WpOps.pn 1 rfl trivial ?_
        refine WpOps.consE (v := (AV.rows 6 (List.map cGTok b_1.body))) rfl rfl (Exact.load rfl rfl (hH.cell (i := 1) rfl) rfl rfl) ?_
        obtain ⟨y_2, hy_2, h⟩ := Sh.bind_some h
        refine WpOps.pn 1 rfl trivial ?_
        refine WpOps.consE (v := (.rop (cGTok y_2))) rfl rfl (Exact.ixr cGTok hy_2 rfl rfl rfl rfl (by kernel_rfl) (by decide)) ?_
        refine WpOps.consE (v := (AV.agg (cGTok y_2))) rfl rfl (Exact.load_rop rfl rfl rfl) ?_
        refine WpOps.consG rfl rfl (WpO.allocT (z := cGTok (GTok.mk (0 : Int) ([] : List UInt8) (0 : Int) (0 : Int) (0 : Int) false)) rfl rfl hH fun g_8 H' hH => ?_)
        refine WpOps.consG rfl rfl (WpO.putT (cs' := (cGTok y_2)) (v := (AV.agg (cGTok y_2))) rfl rfl hH (i := 0) rfl rfl rfl rfl rfl rfl rfl fun H' hH => ?_)
        refine WpOps.nil ?_
        refine WpC.seqR ?_
        refine WpOps.pn 1 rfl trivial ?_
        refine WpOps.consE (v := (iA y_1.kind)) rfl rfl (Exact.load rfl rfl (hH.cell (i := 1) rfl) rfl rfl) ?_
        refine WpOps.pn 1 rfl trivial ?_
        refine WpOps.consE (v := (iA y_2.kind)) rfl rfl (Exact.load rfl rfl (hH.cell (i := 0) rfl) rfl rfl) ?_
        refine WpOps.pn 1 rfl trivial ?_
        obtain ⟨b_6, g_9, h⟩ := Sh.bind_some h
        refine WpOps.cutB 7 68 (bA b_6) rfl ?_ ?_
        ·
          refine WpOps.pn 1 rfl trivial ?_
          refine WpOps.split 62 rfl (fun hb => ?_) (fun hb => ?_)
          ·
            replace g_9 := Sh.ite_pos hb g_9
            refine WpOps.pn 6 rfl trivial ?_
            refine WpOps.nil ?_
            obtain rfl := Sh.some_inj g_9
            exact ⟨rfl, rfl⟩
          ·
            replace g_9 := Sh.ite_neg hb g_9
            refine WpOps.pn 1 rfl trivial ?_
            refine WpOps.consE (v := (sA y_1.text)) rfl rfl (Exact.load rfl rfl (hH.cell (i := 1) rfl) rfl rfl) ?_
            refine WpOps.pn 1 rfl trivial ?_
            refine WpOps.consE (v := (sA y_2.text)) rfl rfl (Exact.load rfl rfl (hH.cell (i := 0) rfl) rfl rfl) ?_
            refine WpOps.pn 2 rfl trivial ?_
            refine WpOps.nil ?_
            obtain rfl := Sh.some_inj g_9
            exact ⟨rfl, rfl⟩
        intro env
        obtain ⟨b_7, g_10, h⟩ := Sh.bind_some h
        refine WpOps.cutB 11 79 (bA b_7) rfl ?_ ?_
        ·
          refine WpOps.pn 1 rfl trivial ?_
          refine WpOps.split 69 rfl (fun hb => ?_) (fun hb => ?_)
          ·
            replace g_10 := Sh.ite_pos hb g_10
            refine WpOps.pn 10 rfl trivial ?_
            refine WpOps.nil ?_
            obtain rfl := Sh.some_inj g_10
            exact ⟨rfl, rfl⟩
          ·
            replace g_10 := Sh.ite_neg hb g_10
            refine WpOps.pn 2 rfl trivial ?_
            obtain ⟨b_8, g_11, g_10⟩ := Sh.bind_some g_10
            refine WpOps.cutB 7 78 (bA b_8) rfl ?_ ?_
            ·
              refine WpOps.pn 1 rfl trivial ?_
              refine WpOps.split 72 rfl (fun hb => ?_) (fun hb => ?_)
              ·
                replace g_11 := Sh.ite_pos hb g_11
                refine WpOps.pn 1 rfl trivial ?_
                refine WpOps.consE (v := (bA y_1.blank)) rfl rfl (Exact.load rfl rfl (hH.cell (i := 1) rfl) rfl rfl) ?_
                refine WpOps.pn 1 rfl trivial ?_
                refine WpOps.consE (v := (bA y_2.blank)) rfl rfl (Exact.load rfl rfl (hH.cell (i := 0) rfl) rfl rfl) ?_
                refine WpOps.pn 2 rfl trivial ?_
                refine WpOps.nil ?_
                obtain rfl := Sh.some_inj g_11
                exact ⟨rfl, rfl⟩
              ·
                replace g_11 := Sh.ite_neg hb g_11
                refine WpOps.pn 6 rfl trivial ?_
                refine WpOps.nil ?_
                obtain rfl := Sh.some_inj g_11
                exact ⟨rfl, rfl⟩
            intro env
            refine WpOps.pn 1 rfl trivial ?_
            refine WpOps.nil ?_
            obtain rfl := Sh.some_inj g_10
            exact ⟨rfl, rfl⟩
        intro env
        refine WpOps.nil ?_
        refine WpC.condB rfl (fun hb => ?_) (fun hb => ?_)
        ·
          replace h := Sh.ite_pos hb h
          refine WpC.seqR ?_
          refine WpOps.pn 1 rfl trivial ?_
          refine WpOps.nil ?_
          refine WpC.lose (i := 0) hH rfl (fun H' hH => ?_)
          refine WpC.lose (i := 0) hH rfl (fun H' hH => ?_)
          refine WpC.lose (i := 0) hH rfl (fun H' hH => ?_)
          obtain rfl := Sh.some_inj h
          have e := hd_1 _ rfl
          subst e
          have h := hk_1
          obtain rfl := Sh.some_inj h
          refine WpC.ret ?_
          exact VEnds.ret1 rfl rfl ⟨rfl, hH⟩
        ·
          replace h := Sh.ite_neg hb h
          refine WpC.skipD ?_
          refine ⟨_, Heap.le_refl _, ?_⟩
          refine WpC.regionD ?_
          obtain ⟨c_1, h⟩ := Sh.chk_some h
          refine WpOps.pn 2 rfl c_1 ?_
          refine WpOps.nil ?_
          obtain ⟨_, hle_1, hH⟩ := hH.lose_ (i := 0) rfl
          obtain ⟨_, hle_2, hH⟩ := hH.lose_ (i := 0) rfl
          obtain rfl := Sh.some_inj h
          exact ⟨_, (Heap.le_trans hle_2 hle_1), (t47_1 + (1 : Int)), (), rfl, ⟨rfl, rfl, rfl, rfl, trivial⟩, hH⟩
      ·
        replace h := Sh.ite_neg hb h
        refine WpC.lose (i := 0) hH rfl (fun H' hH => ?_)
        obtain rfl := Sh.some_inj h
        have e := hd_1 _ rfl
        subst e
        refine WpC.exit ?_
        exact ⟨((), ()), trivial, hk_1, hH⟩
    ·
      rintro ⟨_, _⟩ env H' ⟨h, hH⟩
      try dsimp only at h
      refine ⟨_, Heap.le_refl _, ?_⟩
      refine WpC.seqR ?_
      refine WpOps.pn 1 rfl trivial ?_
      refine WpOps.nil ?_
      obtain rfl := Sh.some_inj h
      refine WpC.ret ?_
      exact VEnds.ret1 rfl rfl ⟨rfl, hH⟩

theorem w_emendlaw06_MacroSame {H0 : Heap} (hG : Glob H0) {s_1 : List UInt8} {t_1 : List UInt8} {u_1 : List UInt8} {r : Bool} (h : emendlaw06_MacroSame s_1 t_1 u_1 = some r) : TCall Tryd.prog 12 [(sA s_1), (sA t_1), (sA u_1)] H0 (fun v H' => v = (bA r) ∧ H' = H0) noE := by
  refine id (TCall.body Tryd.func12 rfl rfl ?_)
  have hH : Holds H0 [] H0 := rfl
  refine WpC.seqR ?_
  refine WpOps.pn 1 rfl trivial ?_
  refine WpOps.nil ?_
  refine WpC.seqR ?_
  obtain ⟨r_1, hr_1, h⟩ := Sh.bind_some h
  refine WpOps.consE (v := (bA r_1)) rfl rfl (Exact.call rfl rfl rfl (w_emendlaw06_awake (hG.up hH) hr_1)) ?_
  refine WpOps.pn 1 rfl trivial ?_
  refine WpOps.nil ?_
  refine WpC.seq ?_
  refine WpC.seqR ?_
  refine WpOps.pn 3 rfl trivial ?_
  obtain ⟨b_1, g_1, h⟩ := Sh.bind_some h
  refine WpOps.cutB 5 32 (bA b_1) rfl ?_ ?_
  ·
    refine WpOps.pn 1 rfl trivial ?_
    refine WpOps.split 28 rfl (fun hb => ?_) (fun hb => ?_)
    ·
      replace g_1 := Sh.ite_pos hb g_1
      refine WpOps.pn 4 rfl trivial ?_
      refine WpOps.nil ?_
      obtain rfl := Sh.some_inj g_1
      exact ⟨rfl, rfl⟩
    ·
      replace g_1 := Sh.ite_neg hb g_1
      refine WpOps.pn 4 rfl trivial ?_
      refine WpOps.nil ?_
      obtain rfl := Sh.some_inj g_1
      exact ⟨rfl, rfl⟩
  intro env
  obtain ⟨b_2, g_2, h⟩ := Sh.bind_some h
  refine WpOps.cutB 5 37 (bA b_2) rfl ?_ ?_
  ·
    refine WpOps.pn 1 rfl trivial ?_
    refine WpOps.split 33 rfl (fun hb => ?_) (fun hb => ?_)
    ·
      replace g_2 := Sh.ite_pos hb g_2
      refine WpOps.pn 4 rfl trivial ?_
      refine WpOps.nil ?_
      obtain rfl := Sh.some_inj g_2
      exact ⟨rfl, rfl⟩
    ·
      replace g_2 := Sh.ite_neg hb g_2
      refine WpOps.pn 4 rfl trivial ?_
      refine WpOps.nil ?_
      obtain rfl := Sh.some_inj g_2
      exact ⟨rfl, rfl⟩
  intro env
  refine WpOps.nil ?_
  refine WpC.condB rfl (fun hb => ?_) (fun hb => ?_)
  ·
    replace h := Sh.ite_pos hb h
    refine WpC.seqR ?_
    refine WpOps.pn 2 rfl trivial ?_
    refine WpOps.nil ?_
    obtain rfl := Sh.some_inj h
    refine WpC.ret ?_
    exact VEnds.ret1 rfl rfl ⟨rfl, hH⟩
  ·
    replace h := Sh.ite_neg hb h
    refine WpC.skipD ?_
    refine ⟨_, Heap.le_refl _, ?_⟩
    refine WpC.seqR ?_
    obtain ⟨r_2, hr_2, h⟩ := Sh.bind_some h
    refine WpOps.pn 1 rfl trivial ?_
    refine WpOps.consE (v := (.tup [(AV.agg (cGMacro r_2.1)), (iA r_2.2)])) rfl rfl (Exact.call rfl rfl rfl (w_emendlaw06_define (hG.up hH) hr_2)) ?_
    refine WpOps.pn 3 rfl trivial ?_
    refine WpOps.consG rfl rfl (WpO.allocU (z' := cGMacro (GMacro.mk ([] : List UInt8) false ([] : List (List UInt8)) false ([] : List GTok))) rfl rfl (.cons (.refl _) (.cons (.refl _) (.cons (Sub.nil _) (.cons (.refl _) (.cons (Sub.nil _) .nil))))) hH fun g_3 H' hH => ?_)
    refine WpOps.consG rfl rfl (WpO.putT (cs' := (cGMacro r_2.1)) (v := (AV.agg (cGMacro r_2.1))) rfl rfl hH (i := 0) rfl rfl rfl rfl rfl rfl rfl fun H' hH => ?_)
    refine WpOps.pn 1 rfl trivial ?_
    refine WpOps.nil ?_
    refine WpC.seqR ?_
    obtain ⟨r_3, hr_3, h⟩ := Sh.bind_some h
    refine WpOps.pn 1 rfl trivial ?_
    refine WpOps.consE (v := (.tup [(AV.agg (cGMacro r_3.1)), (iA r_3.2)])) rfl rfl (Exact.call rfl rfl rfl (w_emendlaw06_define (hG.up hH) hr_3)) ?_
    refine WpOps.pn 3 rfl trivial ?_
    refine WpOps.consG rfl rfl (WpO.allocU (z' := cGMacro (GMacro.mk ([] : List UInt8) false ([] : List (List UInt8)) false ([] : List GTok))) rfl rfl (.cons (.refl _) (.cons (.refl _) (.cons (Sub.nil _) (.cons (.refl _) (.cons (Sub.nil _) .nil))))) hH fun g_4 H' hH => ?_)
    refine WpOps.consG rfl rfl (WpO.putT (cs' := (cGMacro r_3.1)) (v := (AV.agg (cGMacro r_3.1))) rfl rfl hH (i := 0) rfl rfl rfl rfl rfl rfl rfl fun H' hH => ?_)
    refine WpOps.pn 1 rfl trivial ?_
    refine WpOps.nil ?_
    refine WpC.seqR ?_
    obtain ⟨r_4, hr_4, h⟩ := Sh.bind_some h
    refine WpOps.pn 1 rfl trivial ?_
    refine WpOps.consE (v := (.tup [(AV.agg (cGMacro r_4.1)), (iA r_4.2)])) rfl rfl (Exact.call rfl rfl rfl (w_emendlaw06_define (hG.up hH) hr_4)) ?_
    refine WpOps.pn 3 rfl trivial ?_
    refine WpOps.consG rfl rfl (WpO.allocU (z' := cGMacro (GMacro.mk ([] : List UInt8) false ([] : List (List UInt8)) false ([] : List GTok))) rfl rfl (.cons (.refl _) (.cons (.refl _) (.cons (Sub.nil _) (.cons (.refl _) (.cons (Sub.nil _) .nil))))) hH fun g_5 H' hH => ?_)
    refine WpOps.consG rfl rfl (WpO.putT (cs' := (cGMacro r_4.1)) (v := (AV.agg (cGMacro r_4.1))) rfl rfl hH (i := 0) rfl rfl rfl rfl rfl rfl rfl fun H' hH => ?_)
    refine WpOps.pn 1 rfl trivial ?_
    refine WpOps.nil ?_
    refine WpC.seqR ?_
    obtain ⟨c_1, h⟩ := Sh.chk_some h
    obtain ⟨r_5, hr_5, h⟩ := Sh.bind_some h
    refine WpOps.pn 2 rfl c_1 ?_
    refine WpOps.consE (v := (.tup [(AV.agg (cGMacro r_5.1)), (iA r_5.2)])) rfl rfl (Exact.call rfl rfl rfl (w_emendlaw06_define (hG.up hH) hr_5)) ?_
    refine WpOps.pn 3 rfl trivial ?_
    refine WpOps.consG rfl rfl (WpO.allocU (z' := cGMacro (GMacro.mk ([] : List UInt8) false ([] : List (List UInt8)) false ([] : List GTok))) rfl rfl (.cons (.refl _) (.cons (.refl _) (.cons (Sub.nil _) (.cons (.refl _) (.cons (Sub.nil _) .nil))))) hH fun g_6 H' hH => ?_)
    refine WpOps.consG rfl rfl (WpO.putT (cs' := (cGMacro r_5.1)) (v := (AV.agg (cGMacro r_5.1))) rfl rfl hH (i := 0) rfl rfl rfl rfl rfl rfl rfl fun H' hH => ?_)
    refine WpOps.pn 1 rfl trivial ?_
    refine WpOps.nil ?_
    refine WpC.seqR ?_
    refine WpOps.consE (v := (AV.agg (cGMacro r_2.1))) rfl rfl (Exact.load rfl rfl (hH.cell (i := 3) rfl) rfl rfl) ?_
    refine WpOps.consE (v := (AV.agg (cGMacro r_2.1))) rfl rfl (Exact.load rfl rfl (hH.cell (i := 3) rfl) rfl rfl) ?_
    obtain ⟨r_6, hr_6, h⟩ := Sh.bind_some h
    refine WpOps.consE (v := (bA r_6)) rfl rfl (Exact.call rfl rfl rfl (w_macro_Same hr_6)) ?_
    refine WpOps.pn 1 rfl trivial ?_
    refine WpOps.nil ?_
    refine WpC.seqR ?_
    refine WpOps.consE (v := (AV.agg (cGMacro r_2.1))) rfl rfl (Exact.load rfl rfl (hH.cell (i := 3) rfl) rfl rfl) ?_
    refine WpOps.consE (v := (AV.agg (cGMacro r_3.1))) rfl rfl (Exact.load rfl rfl (hH.cell (i := 2) rfl) rfl rfl) ?_
    obtain ⟨r_7, hr_7, h⟩ := Sh.bind_some h
    refine WpOps.consE (v := (bA r_7)) rfl rfl (Exact.call rfl rfl rfl (w_macro_Same hr_7)) ?_
    refine WpOps.pn 1 rfl trivial ?_
    refine WpOps.nil ?_
    refine WpC.seqR ?_
    refine WpOps.consE (v := (AV.agg (cGMacro r_3.1))) rfl rfl (Exact.load rfl rfl (hH.cell (i := 2) rfl) rfl rfl) ?_
    refine WpOps.consE (v := (AV.agg (cGMacro r_2.1))) rfl rfl (Exact.load rfl rfl (hH.cell (i := 3) rfl) rfl rfl) ?_
    obtain ⟨r_8, hr_8, h⟩ := Sh.bind_some h
    refine WpOps.consE (v := (bA r_8)) rfl rfl (Exact.call rfl rfl rfl (w_macro_Same hr_8)) ?_
    refine WpOps.pn 1 rfl trivial ?_
    refine WpOps.nil ?_
    refine WpC.seqR ?_
    refine WpOps.consE (v := (AV.agg (cGMacro r_3.1))) rfl rfl (Exact.load rfl rfl (hH.cell (i := 2) rfl) rfl rfl) ?_
    refine WpOps.consE (v := (AV.agg (cGMacro r_4.1))) rfl rfl (Exact.load rfl rfl (hH.cell (i := 1) rfl) rfl rfl) ?_
    obtain ⟨r_9, hr_9, h⟩ := Sh.bind_some h
    refine WpOps.consE (v := (bA r_9)) rfl rfl (Exact.call rfl rfl rfl (w_macro_Same hr_9)) ?_
    refine WpOps.pn 1 rfl trivial ?_
    refine WpOps.nil ?_
    refine WpC.seqR ?_
    refine WpOps.consE (v := (AV.agg (cGMacro r_2.1))) rfl rfl (Exact.load rfl rfl (hH.cell (i := 3) rfl) rfl rfl) ?_
    refine WpOps.consE (v := (AV.agg (cGMacro r_4.1))) rfl rfl (Exact.load rfl rfl (hH.cell (i := 1) rfl) rfl rfl) ?_
    obtain ⟨r_10, hr_10, h⟩ := Sh.bind_some h
    refine WpOps.consE (v := (bA r_10)) rfl rfl (Exact.call rfl rfl rfl (w_macro_Same hr_10)) ?_
    refine WpOps.pn 1 rfl trivial ?_
    refine WpOps.nil ?_
    refine WpC.seqR ?_
    refine WpOps.consE (v := (AV.agg (cGMacro r_2.1))) rfl rfl (Exact.load rfl rfl (hH.cell (i := 3) rfl) rfl rfl) ?_
    refine WpOps.consE (v := (AV.agg (cGMacro r_5.1))) rfl rfl (Exact.load rfl rfl (hH.cell (i := 0) rfl) rfl rfl) ?_
    obtain ⟨r_11, hr_11, h⟩ := Sh.bind_some h
    refine WpOps.consE (v := (bA r_11)) rfl rfl (Exact.call rfl rfl rfl (w_macro_Same hr_11)) ?_
    refine WpOps.pn 1 rfl trivial ?_
    refine WpOps.nil ?_
    refine WpC.seqR ?_
    obtain ⟨r_12, hr_12, h⟩ := Sh.bind_some h
    refine WpOps.pn 1 rfl trivial ?_
    refine WpOps.consE (v := (.tup [(AV.agg (cGMacro r_12.1)), (iA r_12.2)])) rfl rfl (Exact.call rfl rfl rfl (w_emendlaw06_define (hG.up hH) hr_12)) ?_
    refine WpOps.pn 3 rfl trivial ?_
    refine WpOps.consG rfl rfl (WpO.allocU (z' := cGMacro (GMacro.mk ([] : List UInt8) false ([] : List (List UInt8)) false ([] : List GTok))) rfl rfl (.cons (.refl _) (.cons (.refl _) (.cons (Sub.nil _) (.cons (.refl _) (.cons (Sub.nil _) .nil))))) hH fun g_7 H' hH => ?_)
    refine WpOps.consG rfl rfl (WpO.putT (cs' := (cGMacro r_12.1)) (v := (AV.agg (cGMacro r_12.1))) rfl rfl hH (i := 0) rfl rfl rfl rfl rfl rfl rfl fun H' hH => ?_)
    refine WpOps.pn 1 rfl trivial ?_
    refine WpOps.nil ?_
    refine WpC.seqR ?_
    refine WpOps.pn 1 rfl trivial ?_
    obtain ⟨b_3, g_8, h⟩ := Sh.bind_some h
    refine WpOps.cutB 3 86 (bA b_3) rfl ?_ ?_
    ·
      refine WpOps.pn 1 rfl trivial ?_
      refine WpOps.split 84 rfl (fun hb => ?_) (fun hb => ?_)
      ·
        replace g_8 := Sh.ite_pos hb g_8
        refine WpOps.pn 2 rfl trivial ?_
        refine WpOps.nil ?_
        obtain rfl := Sh.some_inj g_8
        exact ⟨rfl, rfl⟩
      ·
        replace g_8 := Sh.ite_neg hb g_8
        refine WpOps.pn 2 rfl trivial ?_
        refine WpOps.nil ?_
        obtain rfl := Sh.some_inj g_8
        exact ⟨rfl, rfl⟩
    intro env
    obtain ⟨b_4, g_9, h⟩ := Sh.bind_some h
    refine WpOps.cutB 5 91 (bA b_4) rfl ?_ ?_
    ·
      refine WpOps.pn 1 rfl trivial ?_
      refine WpOps.split 87 rfl (fun hb => ?_) (fun hb => ?_)
      ·
        replace g_9 := Sh.ite_pos hb g_9
        refine WpOps.pn 4 rfl trivial ?_
        refine WpOps.nil ?_
        obtain rfl := Sh.some_inj g_9
        exact ⟨rfl, rfl⟩
      ·
        replace g_9 := Sh.ite_neg hb g_9
        refine WpOps.pn 4 rfl trivial ?_
        refine WpOps.nil ?_
        obtain rfl := Sh.some_inj g_9
        exact ⟨rfl, rfl⟩
    intro env
    obtain ⟨b_5, g_10, h⟩ := Sh.bind_some h
    refine WpOps.cutB 11 102 (bA b_5) rfl ?_ ?_
    ·
      refine WpOps.pn 1 rfl trivial ?_
      refine WpOps.split 92 rfl (fun hb => ?_) (fun hb => ?_)
      ·
        replace g_10 := Sh.ite_pos hb g_10
        refine WpOps.pn 2 rfl trivial ?_
        obtain ⟨b_6, g_11, g_10⟩ := Sh.bind_some g_10
        refine WpOps.cutB 4 98 (bA b_6) rfl ?_ ?_
        ·
          refine WpOps.pn 1 rfl trivial ?_
          refine WpOps.split 95 rfl (fun hb => ?_) (fun hb => ?_)
          ·
            replace g_11 := Sh.ite_pos hb g_11
            refine WpOps.pn 3 rfl trivial ?_
            refine WpOps.nil ?_
            obtain rfl := Sh.some_inj g_11
            exact ⟨rfl, rfl⟩
          ·
            replace g_11 := Sh.ite_neg hb g_11
            refine WpOps.pn 3 rfl trivial ?_
            refine WpOps.nil ?_
            obtain rfl := Sh.some_inj g_11
            exact ⟨rfl, rfl⟩
        intro env
        obtain ⟨b_7, g_12, g_10⟩ := Sh.bind_some g_10
        refine WpOps.cutB 3 101 (bA b_7) rfl ?_ ?_
        ·
          refine WpOps.pn 1 rfl trivial ?_
          refine WpOps.split 99 rfl (fun hb => ?_) (fun hb => ?_)
          ·
            replace g_12 := Sh.ite_pos hb g_12
            refine WpOps.pn 2 rfl trivial ?_
            refine WpOps.nil ?_
            obtain rfl := Sh.some_inj g_12
            exact ⟨rfl, rfl⟩
          ·
            replace g_12 := Sh.ite_neg hb g_12
            refine WpOps.pn 2 rfl trivial ?_
            refine WpOps.nil ?_
            obtain rfl := Sh.some_inj g_12
            exact ⟨rfl, rfl⟩
        intro env
        refine WpOps.pn 1 rfl trivial ?_
        refine WpOps.nil ?_
        obtain rfl := Sh.some_inj g_10
        exact ⟨rfl, rfl⟩
      ·
        replace g_10 := Sh.ite_neg hb g_10
        refine WpOps.pn 10 rfl trivial ?_
        refine WpOps.nil ?_
        obtain rfl := Sh.some_inj g_10
        exact ⟨rfl, rfl⟩
    intro env
    obtain ⟨b_8, g_13, h⟩ := Sh.bind_some h
    refine WpOps.cutB 5 107 (bA b_8) rfl ?_ ?_
    ·
      refine WpOps.pn 1 rfl trivial ?_
      refine WpOps.split 103 rfl (fun hb => ?_) (fun hb => ?_)
      ·
        replace g_13 := Sh.ite_pos hb g_13
        refine WpOps.pn 4 rfl trivial ?_
        refine WpOps.nil ?_
        obtain rfl := Sh.some_inj g_13
        exact ⟨rfl, rfl⟩
      ·
        replace g_13 := Sh.ite_neg hb g_13
        refine WpOps.pn 4 rfl trivial ?_
        refine WpOps.nil ?_
        obtain rfl := Sh.some_inj g_13
        exact ⟨rfl, rfl⟩
    intro env
    obtain ⟨b_9, g_14, h⟩ := Sh.bind_some h
    refine WpOps.cutB 3 110 (bA b_9) rfl ?_ ?_
    ·
      refine WpOps.pn 1 rfl trivial ?_
      refine WpOps.split 108 rfl (fun hb => ?_) (fun hb => ?_)
      ·
        replace g_14 := Sh.ite_pos hb g_14
        refine WpOps.pn 2 rfl trivial ?_
        refine WpOps.nil ?_
        obtain rfl := Sh.some_inj g_14
        exact ⟨rfl, rfl⟩
      ·
        replace g_14 := Sh.ite_neg hb g_14
        refine WpOps.pn 2 rfl trivial ?_
        refine WpOps.nil ?_
        obtain rfl := Sh.some_inj g_14
        exact ⟨rfl, rfl⟩
    intro env
    refine WpOps.pn 1 rfl trivial ?_
    refine WpOps.nil ?_
    refine WpC.lose (i := 0) hH rfl (fun H' hH => ?_)
    refine WpC.lose (i := 0) hH rfl (fun H' hH => ?_)
    refine WpC.lose (i := 0) hH rfl (fun H' hH => ?_)
    refine WpC.lose (i := 0) hH rfl (fun H' hH => ?_)
    refine WpC.lose (i := 0) hH rfl (fun H' hH => ?_)
    obtain rfl := Sh.some_inj h
    refine WpC.ret ?_
    exact VEnds.ret1 rfl rfl ⟨rfl, hH⟩

theorem w_slices_Clone_Lstring_string {H0 : Heap} {l : List (List UInt8)} (hc : l.length * 16 ≤ 140737488355328) : TCall Tryd.prog 65 [.rows 1 (List.map cS l)] H0 (fun v H' => ∃ p, v = .own (List.map cS l).length p ∧ Vc.Own H0 9 1 (List.map cS l) (List.map cS l).length p H') noE := by
  refine TCall.body Tryd.func65 rfl rfl ?_
  refine WpC.seqR ?_
  refine WpOps.pn 1 rfl trivial ?_
  refine WpOps.nil ?_
  refine WpC.seq ?_
  refine WpC.seqR ?_
  refine WpOps.pn 1 rfl trivial ?_
  refine WpOps.consG rfl rfl (WpO.isNil (size := 1) (es := List.map cS l) rfl rfl rfl rfl fun b hb => ?_)
  refine WpOps.nil ?_
  refine WpC.condB rfl (fun hb2 => ?_) (fun hb2 => ?_)
  · subst hb2
    have e0 : List.map cS l = [] := hb rfl
    refine WpC.seqR ?_
    refine WpOps.pn 1 rfl trivial ?_
    refine WpOps.nil ?_
    refine WpC.ret ?_
    exact VEnds.ret1 rfl rfl ⟨none, by rw [e0]; rfl, by rw [e0]; exact Vc.Own.nil rfl⟩
  · refine WpC.skip ?_
    have hH : Holds H0 [] H0 := rfl
    refine WpC.seqR ?_
    refine WpOps.consG rfl rfl (WpO.litT (size := 1) cS ([] : List (List UInt8)) rfl rfl (by kernel_rfl) rfl hH fun g H' hH => ?_)
    refine WpOps.pn 1 rfl trivial ?_
    refine WpOps.consG rfl rfl (WpO.pushS cS ([] : List (List UInt8)) l (i := 0) rfl ek42 hH rfl rfl rfl (.rows _) (fun y _ => one_cS y) (by simpa using hc) (by decide) fun g2 c2 H' hH => ?_)
    refine WpOps.pn 1 rfl trivial ?_
    refine WpOps.nil ?_
    refine WpC.ret ?_
    obtain ⟨_, rfl, hO⟩ := hH
    exact VEnds.ret1 rfl rfl ⟨_, rfl, hO⟩

theorem w_pptok_Print {H0 : Heap} {l_1 : List GTok} {r : List UInt8} (h : pptok_Print l_1 = some r) : TCall Tryd.prog 67 [(AV.rows 6 (List.map cGTok l_1))] H0 (fun v H' => v = (sA r) ∧ H' = H0) noE := by
  refine id (TCall.body Tryd.func67 rfl rfl ?_)
  have hH : Holds H0 [] H0 := rfl
  refine WpC.seqR ?_
  refine WpOps.pn 1 rfl trivial ?_
  refine WpOps.nil ?_
  refine WpC.seqR ?_
  refine WpOps.consG rfl rfl (WpO.allocT rfl rfl hH fun g_1 H' hH => ?_)
  have hH := Holds.bld_new 5 hH
  refine WpOps.nil ?_
  refine WpC.seq ?_
  refine WpC.seqR ?_
  refine WpOps.pn 2 rfl trivial ?_
  refine WpOps.at 7 (len_map _ _) ?_
  refine WpOps.pn 1 rfl trivial ?_
  refine WpOps.nil ?_
  refine WpC.blockK (fun x : (List UInt8) × (Unit) => [(3, (.lit (.pointer (some ⟨g_1, 0, none⟩))))]) (fun x H' => pptok_Print_j1 x.1 = some r ∧ Holds H0 [.bld g_1 109 5 x.1] H') ?_ ?_
  ·
    obtain ⟨o_1, ho_1, hk_1⟩ := Sh.bind_some h
    refine WpC.loopS (pptok_Print_b2 l_1) (fun (s : Int × List UInt8) (a : Unit) => [(3, (.lit (.pointer (some ⟨g_1, 0, none⟩)))), (6, (AV.rows 6 (List.map cGTok l_1))), (7, (iA (l_1.length : Int))), (8, (iA s.1))]) (fun (s : Int × List UInt8) (a : Unit) H' => Holds H0 [.bld g_1 109 5 s.2] H') o_1 ((0 : Int), ([] : List UInt8)) () ho_1 ⟨rfl, rfl, rfl, rfl, trivial⟩ hH ?_
    rintro ⟨t8_1, out_1⟩ _ st_1 env H' h hd_1 hH
    refine WpC.seqR ?_
    refine WpOps.pn 1 rfl trivial ?_
    refine WpOps.nil ?_
    refine WpC.seq ?_
    refine WpC.condB rfl (fun hb => ?_) (fun hb => ?_)
    ·
      replace h := Sh.ite_pos hb h
      refine WpC.skipD ?_
      refine ⟨_, Heap.le_refl _, ?_⟩
      refine WpC.seq ?_
      refine WpC.block ?_
      refine WpC.seqR ?_
      obtain ⟨y_1, hy_1, h⟩ := Sh.bind_some h
      refine WpOps.consE (v := (.rop (cGTok y_1))) rfl rfl (Exact.ixr cGTok hy_1 rfl rfl rfl rfl (by kernel_rfl) (by decide)) ?_
      refine WpOps.consE (v := (AV.agg (cGTok y_1))) rfl rfl (Exact.load_rop rfl rfl rfl) ?_
      refine WpOps.consG rfl rfl (WpO.allocT (z := cGTok (GTok.mk (0 : Int) ([] : List UInt8) (0 : Int) (0 : Int) (0 : Int) false)) rfl rfl hH fun g_2 H' hH => ?_)
      refine WpOps.consG rfl rfl (WpO.putT (cs' := (cGTok y_1)) (v := (AV.agg (cGTok y_1))) rfl rfl hH (i := 0) rfl rfl rfl rfl rfl rfl rfl fun H' hH => ?_)
      refine WpOps.nil ?_
      refine WpC.seq ?_
      refine WpC.seqR ?_
      refine WpOps.pn 1 rfl trivial ?_
      refine WpOps.consE (v := (bA y_1.blank)) rfl rfl (Exact.load rfl rfl (hH.cell (i := 0) rfl) rfl rfl) ?_
      refine WpOps.nil ?_
      refine WpC.condB rfl (fun hb => ?_) (fun hb => ?_)
      ·
        replace h := Sh.ite_pos hb h
        refine WpC.regionD ?_
        obtain ⟨c_1, h⟩ := Sh.chk_some h
        refine WpOps.consG rfl rfl (WpO.callT (v := .lit .nilIface) rfl rfl rfl hH (i := 1) rfl (fun H1 hl hh => w_WriteByte (c := (32 : UInt8)) c_1 hh) fun H' hH => ?_)
        refine WpOps.nil ?_
        refine ⟨_, Heap.le_refl _, ?_⟩
        refine WpC.regionD ?_
        refine WpOps.pn 1 rfl trivial ?_
        refine WpOps.consE (v := (sA y_1.text)) rfl rfl (Exact.load rfl rfl (hH.cell (i := 0) rfl) rfl rfl) ?_
        obtain ⟨c_2, h⟩ := Sh.chk_some h
        refine WpOps.consG rfl rfl (WpO.callT (v := .tup [iA y_1.text.length, .lit .nilIface]) rfl rfl rfl hH (i := 1) rfl (fun H1 hl hh => w_WriteString c_2 hh) fun H' hH => ?_)
        refine WpOps.nil ?_
        refine ⟨_, Heap.le_refl _, ?_⟩
        refine WpC.regionD ?_
        obtain ⟨c_3, h⟩ := Sh.chk_some h
        refine WpOps.pn 2 rfl c_3 ?_
        refine WpOps.nil ?_
        obtain ⟨_, hle_1, hH⟩ := hH.lose_ (i := 0) rfl
        obtain rfl := Sh.some_inj h
        exact ⟨_, hle_1, ((t8_1 + (1 : Int)), ((out_1 ++ [(32 : UInt8)]) ++ y_1.text)), (), rfl, ⟨rfl, rfl, rfl, rfl, trivial⟩, hH⟩
      ·
        replace h := Sh.ite_neg hb h
        refine WpC.skipD ?_
        refine ⟨_, Heap.le_refl _, ?_⟩
        refine WpC.regionD ?_
        refine WpOps.pn 1 rfl trivial ?_
        refine WpOps.consE (v := (sA y_1.text)) rfl rfl (Exact.load rfl rfl (hH.cell (i := 0) rfl) rfl rfl) ?_
        obtain ⟨c_4, h⟩ := Sh.chk_some h
        refine WpOps.consG rfl rfl (WpO.callT (v := .tup [iA y_1.text.length, .lit .nilIface]) rfl rfl rfl hH (i := 1) rfl (fun H1 hl hh => w_WriteString c_4 hh) fun H' hH => ?_)
        refine WpOps.nil ?_
        refine ⟨_, Heap.le_refl _, ?_⟩
        refine WpC.regionD ?_
        obtain ⟨c_5, h⟩ := Sh.chk_some h
        refine WpOps.pn 2 rfl c_5 ?_
        refine WpOps.nil ?_
        obtain ⟨_, hle_2, hH⟩ := hH.lose_ (i := 0) rfl
        obtain rfl := Sh.some_inj h
        exact ⟨_, hle_2, ((t8_1 + (1 : Int)), (out_1 ++ y_1.text)), (), rfl, ⟨rfl, rfl, rfl, rfl, trivial⟩, hH⟩
    ·
      replace h := Sh.ite_neg hb h
      obtain rfl := Sh.some_inj h
      have e := hd_1 _ rfl
      subst e
      refine WpC.exit ?_
      exact ⟨(out_1, ()), ⟨rfl, trivial⟩, hk_1, hH⟩
  ·
    rintro ⟨out_2, _⟩ env H' ⟨h, hH⟩
    try dsimp only at h
    refine ⟨_, Heap.le_refl _, ?_⟩
    refine WpC.seqR ?_
    refine WpOps.consG rfl rfl (WpO.callT0 (v := sA out_2) rfl rfl rfl hH (i := 0) rfl (fun H1 hh => w_String hh) fun H' hH => ?_)
    refine WpOps.pn 1 rfl trivial ?_
    refine WpOps.nil ?_
    obtain rfl := Sh.some_inj h
    refine WpC.ret ?_
    exact VEnds.ret1 rfl rfl ⟨rfl, hH⟩

theorem w_macro_Print {H0 : Heap} {m_1 : GMacro} {r : List UInt8} (h : macro_Print m_1 = some r) : TCall Tryd.prog 36 [(AV.agg (cGMacro m_1))] H0 (fun v H' => v = (sA r) ∧ H' = H0) noE := by
  refine id (TCall.body Tryd.func36 rfl rfl ?_)
  have hH : Holds H0 [] H0 := rfl
  refine WpC.seqR ?_
  refine WpOps.consG rfl rfl (WpO.boxT (v := (AV.agg (cGMacro m_1))) rfl rfl hH fun g_1 H' hH => ?_)
  refine WpOps.pn 1 rfl trivial ?_
  refine WpOps.nil ?_
  refine WpC.seqR ?_
  refine WpOps.pn 1 rfl trivial ?_
  refine WpOps.consE (v := (sA m_1.name)) rfl rfl (Exact.load rfl rfl (hH.cell (i := 0) rfl) rfl rfl) ?_
  refine WpOps.pn 1 rfl trivial ?_
  refine WpOps.nil ?_
  refine WpC.seqK (fun x : (List UInt8) × (Unit) => [(1, (.lit (.pointer (some ⟨g_1, 0, none⟩)))), (3, (sA x.1))]) (fun x H' => (macro_Print_j1 m_1) x.1 = some r ∧ Holds H0 [.cell g_1 44 (cGMacro m_1)] H') ?_ ?_
  ·
    refine WpC.seqR ?_
    refine WpOps.pn 1 rfl trivial ?_
    refine WpOps.consE (v := (bA m_1.func)) rfl rfl (Exact.load rfl rfl (hH.cell (i := 0) rfl) rfl rfl) ?_
    refine WpOps.nil ?_
    refine WpC.condB rfl (fun hb => ?_) (fun hb => ?_)
    ·
      replace h := Sh.ite_pos hb h
      refine WpC.seqR ?_
      refine WpOps.pn 1 rfl trivial ?_
      refine WpOps.consE (v := (AV.rows 1 (List.map cS m_1.params))) rfl rfl (Exact.load rfl rfl (hH.cell (i := 0) rfl) rfl rfl) ?_
      obtain ⟨c_1, h⟩ := Sh.chk_some h
      refine WpOps.consG rfl rfl (WpO.callO (t := 9) (size := 1) (es := List.map cS m_1.params) rfl rfl rfl hH (w_slices_Clone_Lstring_string c_1) fun p_1 H' hH => ?_)
      refine WpOps.pn 1 rfl trivial ?_
      refine WpOps.nil ?_
      refine WpC.seqK (fun x : (List (List UInt8)) × ((Option (Nat × Nat))) => [(1, (.lit (.pointer (some ⟨g_1, 0, none⟩)))), (3, (sA m_1.name)), (4, (.own (List.map cS x.1).length x.2))]) (fun x H' => (macro_Print_j2 m_1) x.1 = some r ∧ Holds H0 [.own 9 1 x.2 (List.map cS x.1), .cell g_1 44 (cGMacro m_1)] H') ?_ ?_
      ·
        refine WpC.seqR ?_
        refine WpOps.pn 1 rfl trivial ?_
        refine WpOps.consE (v := (bA m_1.variadic)) rfl rfl (Exact.load rfl rfl (hH.cell (i := 1) rfl) rfl rfl) ?_
        refine WpOps.nil ?_
        refine WpC.condB rfl (fun hb => ?_) (fun hb => ?_)
        ·
          replace h := Sh.ite_pos hb h
          refine WpC.regionD ?_
          refine WpOps.pn 1 rfl trivial ?_
          refine WpOps.consE (v := (AV.rows 1 (List.map cS ([([46, 46, 46] : List UInt8)] : List (List UInt8))))) rfl rfl (Exact.litSlice rfl (by kernel_rfl)) ?_
          obtain ⟨c_2, h⟩ := Sh.chk_some h
          refine WpOps.consG rfl rfl (WpO.pushT cS m_1.params ([([46, 46, 46] : List UInt8)] : List (List UInt8)) (i := 0) rfl ek42 hH rfl rfl rfl (.rows _) (fun y _ => one_cS y) (by simp) c_2 (by decide) fun p_2 H' hH => ?_)
          refine WpOps.pn 1 rfl trivial ?_
          refine WpOps.nil ?_
          exact ⟨_, (Heap.le_refl _), ((m_1.params ++ ([([46, 46, 46] : List UInt8)] : List (List UInt8))), p_2), ⟨rfl, rfl, rfl, trivial⟩, h, hH⟩
        ·
          replace h := Sh.ite_neg hb h
          refine WpC.skipD ?_
          exact ⟨_, (Heap.le_refl _), (m_1.params, p_1), ⟨rfl, rfl, rfl, trivial⟩, h, hH⟩
      ·
        rintro ⟨l_1, p_3⟩ env H' ⟨h, hH⟩
        try dsimp only at h
        refine WpC.regionD ?_
        obtain ⟨c_3, h⟩ := Sh.chk_some h
        refine WpOps.pn 2 rfl trivial ?_
        refine WpOps.consE (v := (sA (Lib.join l_1 ([44, 32] : List UInt8)))) rfl rfl (Exact.call rfl rfl rfl (l_Join l_1 ([44, 32] : List UInt8) (hH.ownAt (i := 0) rfl) c_3)) ?_
        obtain ⟨c_4, h⟩ := Sh.chk_some h
        obtain ⟨c_5, h⟩ := Sh.chk_some h
        obtain ⟨c_6, h⟩ := Sh.chk_some h
        refine WpOps.pn 4 rfl ⟨c_6, c_5, c_4⟩ ?_
        refine WpOps.nil ?_
        obtain ⟨_, hle_1, hH⟩ := hH.lose_ (i := 0) rfl
        exact ⟨_, hle_1, ((m_1.name ++ ((([40] : List UInt8) ++ (Lib.join l_1 ([44, 32] : List UInt8))) ++ ([41] : List UInt8))), ()), ⟨rfl, rfl, trivial⟩, h, hH⟩
    ·
      replace h := Sh.ite_neg hb h
      refine WpC.skipD ?_
      exact ⟨_, (Heap.le_refl _), (m_1.name, ()), ⟨rfl, rfl, trivial⟩, h, hH⟩
  ·
    rintro ⟨s_1, _⟩ env H' ⟨h, hH⟩
    try dsimp only at h
    refine WpC.seq ?_
    refine WpC.seqR ?_
    refine WpOps.pn 1 rfl trivial ?_
    refine WpOps.consE (v := (AV.rows 6 (List.map cGTok m_1.body))) rfl rfl (Exact.load rfl rfl (hH.cell (i := 0) rfl) rfl rfl) ?_
    refine WpOps.pn 1 rfl trivial ?_
    refine WpOps.at 26 (len_map _ _) ?_
    refine WpOps.pn 1 rfl trivial ?_
    refine WpOps.nil ?_
    refine WpC.condB rfl (fun hb => ?_) (fun hb => ?_)
    ·
      replace h := Sh.ite_pos hb h
      refine WpC.seqR ?_
      refine WpOps.pn 2 rfl trivial ?_
      refine WpOps.nil ?_
      refine WpC.lose (i := 0) hH rfl (fun H' hH => ?_)
      obtain rfl := Sh.some_inj h
      refine WpC.ret ?_
      exact VEnds.ret1 rfl rfl ⟨rfl, hH⟩
    ·
      replace h := Sh.ite_neg hb h
      refine WpC.skipD ?_
      refine ⟨_, Heap.le_refl _, ?_⟩
      refine WpC.seqR ?_
      refine WpOps.pn 1 rfl trivial ?_
      refine WpOps.consE (v := (AV.rows 6 (List.map cGTok m_1.body))) rfl rfl (Exact.load rfl rfl (hH.cell (i := 0) rfl) rfl rfl) ?_
      obtain ⟨c_7, h⟩ := Sh.chk_some h
      refine WpOps.consG rfl rfl (WpO.callO (t := 38) (size := 6) (es := List.map cGTok m_1.body) rfl rfl rfl hH (w_slices_Clone_Lapi_Tok_api_Tok c_7) fun p_4 H' hH => ?_)
      refine WpOps.pn 1 rfl trivial ?_
      refine WpOps.nil ?_
      refine WpC.seqR ?_
      obtain ⟨y_1, hy_1, h⟩ := Sh.bind_some h
      refine WpOps.pn 1 rfl trivial ?_
      have hq_1 := h; have hq_2 := hH
      obtain ⟨g_2, cp_1, rfl⟩ := hq_2.grown (i := 0) rfl (ne_of_ix hy_1)
      have h := hq_1; have hH := hq_2
      refine WpOps.consE rfl rfl (Exact.ixo (size := 6) cGTok hy_1 rfl rfl rfl rfl (by kernel_rfl) (by decide)) ?_
      refine WpOps.pn 1 rfl trivial ?_
      refine WpOps.consG rfl rfl (WpO.setT (off := 5) (i := 0) cGTok (y' := (GTok.mk y_1.kind y_1.text y_1.file_ y_1.from_ y_1.to false)) (v := (bA false)) hy_1 hH rfl rfl rfl rfl rfl rfl rfl rfl rfl fun H' hH => ?_)
      refine WpOps.at 31 (own_set cGTok m_1.body ((0 : Int)).toNat (GTok.mk y_1.kind y_1.text y_1.file_ y_1.from_ y_1.to false) _) ?_
      refine WpOps.at 5 (own_set cGTok m_1.body ((0 : Int)).toNat (GTok.mk y_1.kind y_1.text y_1.file_ y_1.from_ y_1.to false) _) ?_
      refine WpOps.at 32 (own_set cGTok m_1.body ((0 : Int)).toNat (GTok.mk y_1.kind y_1.text y_1.file_ y_1.from_ y_1.to false) _) ?_
      refine WpOps.nil ?_
      refine WpC.seqR ?_
      obtain ⟨c_8, h⟩ := Sh.chk_some h
      obtain ⟨r_1, hr_1, h⟩ := Sh.bind_some h
      refine WpOps.pn 3 rfl c_8 ?_
      refine WpOps.consE (v := (sA r_1)) rfl rfl (Exact.peek (t := 37) (i := 0) hH rfl rfl (Exact.call rfl rfl rfl (w_pptok_Print hr_1))) ?_
      obtain ⟨c_9, h⟩ := Sh.chk_some h
      refine WpOps.pn 2 rfl c_9 ?_
      refine WpOps.nil ?_
      refine WpC.lose (i := 0) hH rfl (fun H' hH => ?_)
      refine WpC.lose (i := 0) hH rfl (fun H' hH => ?_)
      obtain rfl := Sh.some_inj h
      refine WpC.ret ?_
      exact VEnds.ret1 rfl rfl ⟨rfl, hH⟩

theorem w_emendref03_Print {H0 : Heap} {l_1 : List GTok} {r : List UInt8} (h : emendref03_Print l_1 = some r) : TCall Tryd.prog 70 [(AV.rows 6 (List.map cGTok l_1))] H0 (fun v H' => v = (sA r) ∧ H' = H0) noE := by
  refine id (TCall.body Tryd.func70 rfl rfl ?_)
  have hH : Holds H0 [] H0 := rfl
  refine WpC.seqR ?_
  refine WpOps.pn 1 rfl trivial ?_
  refine WpOps.nil ?_
  refine WpC.seqR ?_
  refine WpOps.pn 1 rfl trivial ?_
  refine WpOps.nil ?_
  refine WpC.seq ?_
  refine WpC.seqR ?_
  refine WpOps.pn 1 rfl trivial ?_
  refine WpOps.nil ?_
  refine WpC.blockK (fun x : (List UInt8) × (Unit) => [(3, (sA x.1))]) (fun x H' => emendref03_Print_j1 x.1 = some r ∧ Holds H0 [] H') ?_ ?_
  ·
    obtain ⟨o_1, ho_1, hk_1⟩ := Sh.bind_some h
    refine WpC.loopS (emendref03_Print_b2 l_1) (fun (s : List UInt8 × Int) (a : Unit) => [(0, (AV.rows 6 (List.map cGTok l_1))), (3, (sA s.1)), (4, (iA s.2))]) (fun (s : List UInt8 × Int) (a : Unit) H' => Holds H0 [] H') o_1 (([] : List UInt8), (0 : Int)) () ho_1 ⟨rfl, rfl, rfl, trivial⟩ hH ?_
    rintro ⟨s_1, i_1⟩ _ st_1 env H' h hd_1 hH
    refine WpC.seq ?_
    refine WpC.seqR ?_
    refine WpOps.pn 3 rfl trivial ?_
    refine WpOps.at 7 (len_map _ _) ?_
    refine WpOps.pn 1 rfl trivial ?_
    refine WpOps.nil ?_
    refine WpC.condB rfl (fun hb => ?_) (fun hb => ?_)
    ·
      replace h := Sh.ite_pos hb h
      refine WpC.skipD ?_
      refine ⟨_, Heap.le_refl _, ?_⟩
      refine WpC.seq ?_
      refine WpC.block ?_
      refine WpC.seqK (fun x : (List UInt8) × (Unit) => [(0, (AV.rows 6 (List.map cGTok l_1))), (3, (sA x.1)), (4, (iA i_1))]) (fun x H' => (emendref03_Print_j3 l_1 i_1) x.1 = some st_1 ∧ Holds H0 [] H') ?_ ?_
      ·
        refine WpC.seqR ?_
        obtain ⟨y_1, hy_1, h⟩ := Sh.bind_some h
        refine WpOps.pn 2 rfl trivial ?_
        refine WpOps.consE (v := (.rop (cGTok y_1))) rfl rfl (Exact.ixr cGTok hy_1 rfl rfl rfl rfl (by kernel_rfl) (by decide)) ?_
        refine WpOps.pn 1 rfl trivial ?_
        refine WpOps.consE (v := (bA y_1.blank)) rfl rfl (Exact.load_rop rfl rfl rfl) ?_
        refine WpOps.nil ?_
        refine WpC.condB rfl (fun hb => ?_) (fun hb => ?_)
        ·
          replace h := Sh.ite_pos hb h
          refine WpC.regionD ?_
          obtain ⟨c_1, h⟩ := Sh.chk_some h
          refine WpOps.pn 3 rfl c_1 ?_
          refine WpOps.nil ?_
          exact ⟨_, (Heap.le_refl _), ((s_1 ++ ([32] : List UInt8)), ()), ⟨rfl, rfl, rfl, trivial⟩, h, hH⟩
        ·
          replace h := Sh.ite_neg hb h
          refine WpC.skipD ?_
          exact ⟨_, (Heap.le_refl _), (s_1, ()), ⟨rfl, rfl, rfl, trivial⟩, h, hH⟩
      ·
        rintro ⟨s_2, _⟩ env H' ⟨h, hH⟩
        try dsimp only at h
        refine WpC.regionD ?_
        obtain ⟨y_2, hy_2, h⟩ := Sh.bind_some h
        refine WpOps.pn 3 rfl trivial ?_
        refine WpOps.consE (v := (.rop (cGTok y_2))) rfl rfl (Exact.ixr cGTok hy_2 rfl rfl rfl rfl (by kernel_rfl) (by decide)) ?_
        refine WpOps.pn 1 rfl trivial ?_
        refine WpOps.consE (v := (sA y_2.text)) rfl rfl (Exact.load_rop rfl rfl rfl) ?_
        obtain ⟨c_2, h⟩ := Sh.chk_some h
        refine WpOps.pn 2 rfl c_2 ?_
        refine WpOps.nil ?_
        refine ⟨_, Heap.le_refl _, ?_⟩
        refine WpC.regionD ?_
        obtain ⟨c_3, h⟩ := Sh.chk_some h
        refine WpOps.pn 3 rfl c_3 ?_
        refine WpOps.nil ?_
        obtain rfl := Sh.some_inj h
        exact ⟨_, (Heap.le_refl _), ((s_2 ++ y_2.text), (i_1 + (1 : Int))), (), rfl, ⟨rfl, rfl, rfl, trivial⟩, hH⟩
    ·
      replace h := Sh.ite_neg hb h
      obtain rfl := Sh.some_inj h
      have e := hd_1 _ rfl
      subst e
      refine WpC.exit ?_
      exact ⟨(s_1, ()), ⟨rfl, trivial⟩, hk_1, hH⟩
  ·
    rintro ⟨s_3, _⟩ env H' ⟨h, hH⟩
    try dsimp only at h
    refine ⟨_, Heap.le_refl _, ?_⟩
    refine WpC.seqR ?_
    refine WpOps.pn 2 rfl trivial ?_
    refine WpOps.nil ?_
    obtain rfl := Sh.some_inj h
    refine WpC.ret ?_
    exact VEnds.ret1 rfl rfl ⟨rfl, hH⟩

theorem w_emendref06_Print {H0 : Heap} {m_1 : GMacro} {r : List UInt8} (h : emendref06_Print m_1 = some r) : TCall Tryd.prog 38 [(AV.agg (cGMacro m_1))] H0 (fun v H' => v = (sA r) ∧ H' = H0) noE := by
  refine id (TCall.body Tryd.func38 rfl rfl ?_)
  have hH : Holds H0 [] H0 := rfl
  refine WpC.seqR ?_
  refine WpOps.consG rfl rfl (WpO.boxT (v := (AV.agg (cGMacro m_1))) rfl rfl hH fun g_1 H' hH => ?_)
  refine WpOps.pn 1 rfl trivial ?_
  refine WpOps.nil ?_
  refine WpC.seqR ?_
  refine WpOps.pn 1 rfl trivial ?_
  refine WpOps.consE (v := (sA m_1.name)) rfl rfl (Exact.load rfl rfl (hH.cell (i := 0) rfl) rfl rfl) ?_
  refine WpOps.pn 1 rfl trivial ?_
  refine WpOps.nil ?_
  refine WpC.seqK (fun x : (List UInt8) × (Unit) => [(1, (.lit (.pointer (some ⟨g_1, 0, none⟩)))), (3, (sA x.1))]) (fun x H' => (emendref06_Print_j1 m_1) x.1 = some r ∧ Holds H0 [.cell g_1 44 (cGMacro m_1)] H') ?_ ?_
  ·
    refine WpC.seqR ?_
    refine WpOps.pn 1 rfl trivial ?_
    refine WpOps.consE (v := (bA m_1.func)) rfl rfl (Exact.load rfl rfl (hH.cell (i := 0) rfl) rfl rfl) ?_
    refine WpOps.nil ?_
    refine WpC.condB rfl (fun hb => ?_) (fun hb => ?_)
    ·
      replace h := Sh.ite_pos hb h
      refine WpC.seqR ?_
      obtain ⟨c_1, h⟩ := Sh.chk_some h
      refine WpOps.pn 3 rfl c_1 ?_
      refine WpOps.nil ?_
      refine WpC.seq ?_
      refine WpC.seqR ?_
      refine WpOps.pn 1 rfl trivial ?_
      refine WpOps.nil ?_
      refine WpC.blockK (fun x : (List UInt8) × (Unit) => [(1, (.lit (.pointer (some ⟨g_1, 0, none⟩)))), (3, (sA x.1))]) (fun x H' => (emendref06_Print_j2 m_1) x.1 = some r ∧ Holds H0 [.cell g_1 44 (cGMacro m_1)] H') ?_ ?_
      ·
        obtain ⟨o_1, ho_1, hk_1⟩ := Sh.bind_some h
        refine WpC.loopS (emendref06_Print_b3 m_1) (fun (s : List UInt8 × Int) (a : Unit) => [(1, (.lit (.pointer (some ⟨g_1, 0, none⟩)))), (3, (sA s.1)), (4, (iA s.2))]) (fun (s : List UInt8 × Int) (a : Unit) H' => Holds H0 [.cell g_1 44 (cGMacro m_1)] H') o_1 ((m_1.name ++ ([40] : List UInt8)), (0 : Int)) () ho_1 ⟨rfl, rfl, rfl, trivial⟩ hH ?_
        rintro ⟨s_1, i_1⟩ _ st_1 env H' h hd_1 hH
        refine WpC.seq ?_
        refine WpC.seqR ?_
        refine WpOps.pn 2 rfl trivial ?_
        refine WpOps.consE (v := (AV.rows 1 (List.map cS m_1.params))) rfl rfl (Exact.load rfl rfl (hH.cell (i := 0) rfl) rfl rfl) ?_
        refine WpOps.pn 1 rfl trivial ?_
        refine WpOps.at 14 (len_map _ _) ?_
        refine WpOps.pn 1 rfl trivial ?_
        refine WpOps.nil ?_
        refine WpC.condB rfl (fun hb => ?_) (fun hb => ?_)
        ·
          replace h := Sh.ite_pos hb h
          refine WpC.skipD ?_
          refine ⟨_, Heap.le_refl _, ?_⟩
          refine WpC.seq ?_
          refine WpC.block ?_
          refine WpC.seqK (fun x : (List UInt8) × (Unit) => [(1, (.lit (.pointer (some ⟨g_1, 0, none⟩)))), (3, (sA x.1)), (4, (iA i_1))]) (fun x H' => (emendref06_Print_j4 m_1 i_1) x.1 = some st_1 ∧ Holds H0 [.cell g_1 44 (cGMacro m_1)] H') ?_ ?_
          ·
            refine WpC.seqR ?_
            refine WpOps.pn 2 rfl trivial ?_
            refine WpOps.nil ?_
            refine WpC.condB rfl (fun hb => ?_) (fun hb => ?_)
            ·
              replace h := Sh.ite_pos hb h
              refine WpC.regionD ?_
              obtain ⟨c_2, h⟩ := Sh.chk_some h
              refine WpOps.pn 3 rfl c_2 ?_
              refine WpOps.nil ?_
              exact ⟨_, (Heap.le_refl _), ((s_1 ++ ([44, 32] : List UInt8)), ()), ⟨rfl, rfl, rfl, trivial⟩, h, hH⟩
            ·
              replace h := Sh.ite_neg hb h
              refine WpC.skipD ?_
              exact ⟨_, (Heap.le_refl _), (s_1, ()), ⟨rfl, rfl, rfl, trivial⟩, h, hH⟩
          ·
            rintro ⟨s_2, _⟩ env H' ⟨h, hH⟩
            try dsimp only at h
            refine WpC.regionD ?_
            refine WpOps.pn 2 rfl trivial ?_
            refine WpOps.consE (v := (AV.rows 1 (List.map cS m_1.params))) rfl rfl (Exact.load rfl rfl (hH.cell (i := 0) rfl) rfl rfl) ?_
            obtain ⟨y_1, hy_1, h⟩ := Sh.bind_some h
            refine WpOps.pn 1 rfl trivial ?_
            refine WpOps.consE (v := (.rop (cS y_1))) rfl rfl (Exact.ixr cS hy_1 rfl rfl rfl rfl (by kernel_rfl) (by decide)) ?_
            refine WpOps.consE (v := (sA y_1)) rfl rfl (Exact.load_rop rfl rfl rfl) ?_
            obtain ⟨c_3, h⟩ := Sh.chk_some h
            refine WpOps.pn 2 rfl c_3 ?_
            refine WpOps.nil ?_
            refine ⟨_, Heap.le_refl _, ?_⟩
            refine WpC.regionD ?_
            obtain ⟨c_4, h⟩ := Sh.chk_some h
            refine WpOps.pn 3 rfl c_4 ?_
            refine WpOps.nil ?_
            obtain rfl := Sh.some_inj h
            exact ⟨_, (Heap.le_refl _), ((s_2 ++ y_1), (i_1 + (1 : Int))), (), rfl, ⟨rfl, rfl, rfl, trivial⟩, hH⟩
        ·
          replace h := Sh.ite_neg hb h
          obtain rfl := Sh.some_inj h
          have e := hd_1 _ rfl
          subst e
          refine WpC.exit ?_
          exact ⟨(s_1, ()), ⟨rfl, rfl, trivial⟩, hk_1, hH⟩
      ·
        rintro ⟨s_3, _⟩ env H' ⟨h, hH⟩
        try dsimp only at h
        refine ⟨_, Heap.le_refl _, ?_⟩
        refine WpC.seqK (fun x : (List UInt8) × (Unit) => [(1, (.lit (.pointer (some ⟨g_1, 0, none⟩)))), (3, (sA x.1))]) (fun x H' => (emendref06_Print_j5 m_1) x.1 = some r ∧ Holds H0 [.cell g_1 44 (cGMacro m_1)] H') ?_ ?_
        ·
          refine WpC.seqR ?_
          refine WpOps.pn 1 rfl trivial ?_
          refine WpOps.consE (v := (bA m_1.variadic)) rfl rfl (Exact.load rfl rfl (hH.cell (i := 0) rfl) rfl rfl) ?_
          obtain ⟨b_1, g_2, h⟩ := Sh.bind_some h
          refine WpOps.cutB 6 36 (bA b_1) rfl ?_ ?_
          ·
            refine WpOps.pn 1 rfl trivial ?_
            refine WpOps.split 31 rfl (fun hb => ?_) (fun hb => ?_)
            ·
              replace g_2 := Sh.ite_pos hb g_2
              refine WpOps.pn 1 rfl trivial ?_
              refine WpOps.consE (v := (AV.rows 1 (List.map cS m_1.params))) rfl rfl (Exact.load rfl rfl (hH.cell (i := 0) rfl) rfl rfl) ?_
              refine WpOps.pn 1 rfl trivial ?_
              refine WpOps.at 34 (len_map _ _) ?_
              refine WpOps.pn 2 rfl trivial ?_
              refine WpOps.nil ?_
              obtain rfl := Sh.some_inj g_2
              exact ⟨rfl, rfl⟩
            ·
              replace g_2 := Sh.ite_neg hb g_2
              refine WpOps.pn 5 rfl trivial ?_
              refine WpOps.nil ?_
              obtain rfl := Sh.some_inj g_2
              exact ⟨rfl, rfl⟩
          intro env
          refine WpOps.nil ?_
          refine WpC.condB rfl (fun hb => ?_) (fun hb => ?_)
          ·
            replace h := Sh.ite_pos hb h
            refine WpC.regionD ?_
            obtain ⟨c_5, h⟩ := Sh.chk_some h
            refine WpOps.pn 3 rfl c_5 ?_
            refine WpOps.nil ?_
            exact ⟨_, (Heap.le_refl _), ((s_3 ++ ([44, 32] : List UInt8)), ()), ⟨rfl, rfl, trivial⟩, h, hH⟩
          ·
            replace h := Sh.ite_neg hb h
            refine WpC.skipD ?_
            exact ⟨_, (Heap.le_refl _), (s_3, ()), ⟨rfl, rfl, trivial⟩, h, hH⟩
        ·
          rintro ⟨s_4, _⟩ env H' ⟨h, hH⟩
          try dsimp only at h
          refine WpC.seq ?_
          refine WpC.seqR ?_
          refine WpOps.pn 1 rfl trivial ?_
          refine WpOps.consE (v := (bA m_1.variadic)) rfl rfl (Exact.load rfl rfl (hH.cell (i := 0) rfl) rfl rfl) ?_
          refine WpOps.nil ?_
          refine WpC.condB rfl (fun hb => ?_) (fun hb => ?_)
          ·
            replace h := Sh.ite_pos hb h
            refine WpC.regionD ?_
            obtain ⟨c_6, h⟩ := Sh.chk_some h
            refine WpOps.pn 3 rfl c_6 ?_
            refine WpOps.nil ?_
            refine ⟨_, Heap.le_refl _, ?_⟩
            refine WpC.regionD ?_
            obtain ⟨c_7, h⟩ := Sh.chk_some h
            refine WpOps.pn 3 rfl c_7 ?_
            refine WpOps.nil ?_
            exact ⟨_, (Heap.le_refl _), (((s_4 ++ ([46, 46, 46] : List UInt8)) ++ ([41] : List UInt8)), ()), ⟨rfl, rfl, trivial⟩, h, hH⟩
          ·
            replace h := Sh.ite_neg hb h
            refine WpC.skipD ?_
            refine ⟨_, Heap.le_refl _, ?_⟩
            refine WpC.regionD ?_
            obtain ⟨c_8, h⟩ := Sh.chk_some h
            refine WpOps.pn 3 rfl c_8 ?_
            refine WpOps.nil ?_
            exact ⟨_, (Heap.le_refl _), ((s_4 ++ ([41] : List UInt8)), ()), ⟨rfl, rfl, trivial⟩, h, hH⟩
    ·
      replace h := Sh.ite_neg hb h
      refine WpC.skipD ?_
      exact ⟨_, (Heap.le_refl _), (m_1.name, ()), ⟨rfl, rfl, trivial⟩, h, hH⟩
  ·
    rintro ⟨s_5, _⟩ env H' ⟨h, hH⟩
    try dsimp only at h
    refine WpC.seq ?_
    refine WpC.seqR ?_
    refine WpOps.pn 1 rfl trivial ?_
    refine WpOps.consE (v := (AV.rows 6 (List.map cGTok m_1.body))) rfl rfl (Exact.load rfl rfl (hH.cell (i := 0) rfl) rfl rfl) ?_
    refine WpOps.pn 1 rfl trivial ?_
    refine WpOps.at 47 (len_map _ _) ?_
    refine WpOps.pn 1 rfl trivial ?_
    refine WpOps.nil ?_
    refine WpC.condB rfl (fun hb => ?_) (fun hb => ?_)
    ·
      replace h := Sh.ite_pos hb h
      refine WpC.seqR ?_
      refine WpOps.pn 2 rfl trivial ?_
      refine WpOps.nil ?_
      refine WpC.lose (i := 0) hH rfl (fun H' hH => ?_)
      obtain rfl := Sh.some_inj h
      refine WpC.ret ?_
      exact VEnds.ret1 rfl rfl ⟨rfl, hH⟩
    ·
      replace h := Sh.ite_neg hb h
      refine WpC.skipD ?_
      refine ⟨_, Heap.le_refl _, ?_⟩
      refine WpC.seqR ?_
      obtain ⟨c_9, h⟩ := Sh.chk_some h
      refine WpOps.pn 3 rfl c_9 ?_
      refine WpOps.consE (v := (AV.rows 6 (List.map cGTok m_1.body))) rfl rfl (Exact.load rfl rfl (hH.cell (i := 0) rfl) rfl rfl) ?_
      obtain ⟨r_1, hr_1, h⟩ := Sh.bind_some h
      refine WpOps.consE (v := (AV.rows 6 (List.map cGTok r_1))) rfl rfl (Exact.call rfl rfl rfl (w_emendref06_bare hr_1)) ?_
      obtain ⟨r_2, hr_2, h⟩ := Sh.bind_some h
      refine WpOps.consE (v := (sA r_2)) rfl rfl (Exact.call rfl rfl rfl (w_emendref03_Print hr_2)) ?_
      obtain ⟨c_10, h⟩ := Sh.chk_some h
      refine WpOps.pn 2 rfl c_10 ?_
      refine WpOps.nil ?_
      refine WpC.lose (i := 0) hH rfl (fun H' hH => ?_)
      obtain rfl := Sh.some_inj h
      refine WpC.ret ?_
      exact VEnds.ret1 rfl rfl ⟨rfl, hH⟩

theorem w_emendlaw06_MacroTells {H0 : Heap} (hG : Glob H0) {s_1 : List UInt8} {t_1 : List UInt8} {name_1 : List UInt8} {r : Bool} (h : emendlaw06_MacroTells s_1 t_1 name_1 = some r) : TCall Tryd.prog 13 [(sA s_1), (sA t_1), (sA name_1)] H0 (fun v H' => v = (bA r) ∧ H' = H0) noE := by
  refine id (TCall.body Tryd.func13 rfl rfl ?_)
  have hH : Holds H0 [] H0 := rfl
  refine WpC.seqR ?_
  refine WpOps.pn 1 rfl trivial ?_
  refine WpOps.nil ?_
  refine WpC.seqR ?_
  obtain ⟨r_1, hr_1, h⟩ := Sh.bind_some h
  refine WpOps.consE (v := (bA r_1)) rfl rfl (Exact.call rfl rfl rfl (w_emendlaw06_awake (hG.up hH) hr_1)) ?_
  refine WpOps.pn 1 rfl trivial ?_
  refine WpOps.nil ?_
  refine WpC.seq ?_
  refine WpC.seqR ?_
  refine WpOps.pn 3 rfl trivial ?_
  obtain ⟨b_1, g_1, h⟩ := Sh.bind_some h
  refine WpOps.cutB 5 23 (bA b_1) rfl ?_ ?_
  ·
    refine WpOps.pn 1 rfl trivial ?_
    refine WpOps.split 19 rfl (fun hb => ?_) (fun hb => ?_)
    ·
      replace g_1 := Sh.ite_pos hb g_1
      refine WpOps.pn 4 rfl trivial ?_
      refine WpOps.nil ?_
      obtain rfl := Sh.some_inj g_1
      exact ⟨rfl, rfl⟩
    ·
      replace g_1 := Sh.ite_neg hb g_1
      refine WpOps.pn 4 rfl trivial ?_
      refine WpOps.nil ?_
      obtain rfl := Sh.some_inj g_1
      exact ⟨rfl, rfl⟩
  intro env
  refine WpOps.nil ?_
  refine WpC.condB rfl (fun hb => ?_) (fun hb => ?_)
  ·
    replace h := Sh.ite_pos hb h
    refine WpC.seqR ?_
    refine WpOps.pn 2 rfl trivial ?_
    refine WpOps.nil ?_
    obtain rfl := Sh.some_inj h
    refine WpC.ret ?_
    exact VEnds.ret1 rfl rfl ⟨rfl, hH⟩
  ·
    replace h := Sh.ite_neg hb h
    refine WpC.skipD ?_
    refine ⟨_, Heap.le_refl _, ?_⟩
    refine WpC.seqR ?_
    obtain ⟨r_2, hr_2, h⟩ := Sh.bind_some h
    refine WpOps.pn 1 rfl trivial ?_
    refine WpOps.consE (v := (.tup [(AV.agg (cGMacro r_2.1)), (iA r_2.2)])) rfl rfl (Exact.call rfl rfl rfl (w_emendlaw06_define (hG.up hH) hr_2)) ?_
    refine WpOps.pn 3 rfl trivial ?_
    refine WpOps.consG rfl rfl (WpO.allocU (z' := cGMacro (GMacro.mk ([] : List UInt8) false ([] : List (List UInt8)) false ([] : List GTok))) rfl rfl (.cons (.refl _) (.cons (.refl _) (.cons (Sub.nil _) (.cons (.refl _) (.cons (Sub.nil _) .nil))))) hH fun g_2 H' hH => ?_)
    refine WpOps.consG rfl rfl (WpO.putT (cs' := (cGMacro r_2.1)) (v := (AV.agg (cGMacro r_2.1))) rfl rfl hH (i := 0) rfl rfl rfl rfl rfl rfl rfl fun H' hH => ?_)
    refine WpOps.pn 1 rfl trivial ?_
    refine WpOps.nil ?_
    refine WpC.seqR ?_
    obtain ⟨r_3, hr_3, h⟩ := Sh.bind_some h
    refine WpOps.pn 1 rfl trivial ?_
    refine WpOps.consE (v := (.tup [(AV.agg (cGMacro r_3.1)), (iA r_3.2)])) rfl rfl (Exact.call rfl rfl rfl (w_emendlaw06_define (hG.up hH) hr_3)) ?_
    refine WpOps.pn 3 rfl trivial ?_
    refine WpOps.consG rfl rfl (WpO.allocU (z' := cGMacro (GMacro.mk ([] : List UInt8) false ([] : List (List UInt8)) false ([] : List GTok))) rfl rfl (.cons (.refl _) (.cons (.refl _) (.cons (Sub.nil _) (.cons (.refl _) (.cons (Sub.nil _) .nil))))) hH fun g_3 H' hH => ?_)
    refine WpOps.consG rfl rfl (WpO.putT (cs' := (cGMacro r_3.1)) (v := (AV.agg (cGMacro r_3.1))) rfl rfl hH (i := 0) rfl rfl rfl rfl rfl rfl rfl fun H' hH => ?_)
    refine WpOps.pn 1 rfl trivial ?_
    refine WpOps.nil ?_
    refine WpC.seqR ?_
    refine WpOps.consE (v := (AV.agg (cGMacro r_2.1))) rfl rfl (Exact.load rfl rfl (hH.cell (i := 1) rfl) rfl rfl) ?_
    refine WpOps.consE (v := (AV.agg (cGMacro r_3.1))) rfl rfl (Exact.load rfl rfl (hH.cell (i := 0) rfl) rfl rfl) ?_
    obtain ⟨r_4, hr_4, h⟩ := Sh.bind_some h
    refine WpOps.consE (v := (bA r_4)) rfl rfl (Exact.call rfl rfl rfl (w_macro_Same hr_4)) ?_
    refine WpOps.pn 1 rfl trivial ?_
    refine WpOps.nil ?_
    refine WpC.seqR ?_
    refine WpOps.consE (v := (AV.agg (cGMacro r_2.1))) rfl rfl (Exact.load rfl rfl (hH.cell (i := 1) rfl) rfl rfl) ?_
    obtain ⟨r_5, hr_5, h⟩ := Sh.bind_some h
    refine WpOps.consE (v := (sA r_5)) rfl rfl (Exact.call rfl rfl rfl (w_macro_Print hr_5)) ?_
    refine WpOps.pn 1 rfl trivial ?_
    refine WpOps.nil ?_
    refine WpC.seqR ?_
    refine WpOps.consE (v := (AV.agg (cGMacro r_2.1))) rfl rfl (Exact.load rfl rfl (hH.cell (i := 1) rfl) rfl rfl) ?_
    obtain ⟨r_6, hr_6, h⟩ := Sh.bind_some h
    refine WpOps.pn 1 rfl trivial ?_
    refine WpOps.consE (v := (iA r_6)) rfl rfl (Exact.call rfl rfl rfl (w_macro_Param hr_6)) ?_
    refine WpOps.pn 1 rfl trivial ?_
    refine WpOps.nil ?_
    refine WpC.seqR ?_
    refine WpOps.pn 1 rfl trivial ?_
    obtain ⟨b_2, g_4, h⟩ := Sh.bind_some h
    refine WpOps.cutB 7 50 (bA b_2) rfl ?_ ?_
    ·
      refine WpOps.pn 1 rfl trivial ?_
      refine WpOps.split 44 rfl (fun hb => ?_) (fun hb => ?_)
      ·
        replace g_4 := Sh.ite_pos hb g_4
        refine WpOps.pn 1 rfl trivial ?_
        refine WpOps.consE (v := (AV.agg (cGMacro r_2.1))) rfl rfl (Exact.load rfl rfl (hH.cell (i := 1) rfl) rfl rfl) ?_
        refine WpOps.consE (v := (AV.agg (cGMacro r_3.1))) rfl rfl (Exact.load rfl rfl (hH.cell (i := 0) rfl) rfl rfl) ?_
        obtain ⟨r_7, hr_7, g_4⟩ := Sh.bind_some g_4
        refine WpOps.consE (v := (bA r_7)) rfl rfl (Exact.call rfl rfl rfl (w_emendref06_Same hr_7)) ?_
        refine WpOps.pn 2 rfl trivial ?_
        refine WpOps.nil ?_
        obtain rfl := Sh.some_inj g_4
        exact ⟨rfl, rfl⟩
      ·
        replace g_4 := Sh.ite_neg hb g_4
        refine WpOps.pn 6 rfl trivial ?_
        refine WpOps.nil ?_
        obtain rfl := Sh.some_inj g_4
        exact ⟨rfl, rfl⟩
    intro env
    obtain ⟨b_3, g_5, h⟩ := Sh.bind_some h
    refine WpOps.cutB 6 56 (bA b_3) rfl ?_ ?_
    ·
      refine WpOps.pn 1 rfl trivial ?_
      refine WpOps.split 51 rfl (fun hb => ?_) (fun hb => ?_)
      ·
        replace g_5 := Sh.ite_pos hb g_5
        refine WpOps.pn 1 rfl trivial ?_
        refine WpOps.consE (v := (AV.agg (cGMacro r_2.1))) rfl rfl (Exact.load rfl rfl (hH.cell (i := 1) rfl) rfl rfl) ?_
        obtain ⟨r_8, hr_8, g_5⟩ := Sh.bind_some g_5
        refine WpOps.consE (v := (sA r_8)) rfl rfl (Exact.call rfl rfl rfl (w_emendref06_Print hr_8)) ?_
        refine WpOps.pn 2 rfl trivial ?_
        refine WpOps.nil ?_
        obtain rfl := Sh.some_inj g_5
        exact ⟨rfl, rfl⟩
      ·
        replace g_5 := Sh.ite_neg hb g_5
        refine WpOps.pn 5 rfl trivial ?_
        refine WpOps.nil ?_
        obtain rfl := Sh.some_inj g_5
        exact ⟨rfl, rfl⟩
    intro env
    obtain ⟨b_4, g_6, h⟩ := Sh.bind_some h
    refine WpOps.cutB 7 63 (bA b_4) rfl ?_ ?_
    ·
      refine WpOps.pn 1 rfl trivial ?_
      refine WpOps.split 57 rfl (fun hb => ?_) (fun hb => ?_)
      ·
        replace g_6 := Sh.ite_pos hb g_6
        refine WpOps.pn 1 rfl trivial ?_
        refine WpOps.consE (v := (AV.agg (cGMacro r_2.1))) rfl rfl (Exact.load rfl rfl (hH.cell (i := 1) rfl) rfl rfl) ?_
        obtain ⟨r_9, hr_9, g_6⟩ := Sh.bind_some g_6
        refine WpOps.pn 1 rfl trivial ?_
        refine WpOps.consE (v := (iA r_9)) rfl rfl (Exact.call rfl rfl rfl (w_emendref06_Param hr_9)) ?_
        refine WpOps.pn 2 rfl trivial ?_
        refine WpOps.nil ?_
        obtain rfl := Sh.some_inj g_6
        exact ⟨rfl, rfl⟩
      ·
        replace g_6 := Sh.ite_neg hb g_6
        refine WpOps.pn 6 rfl trivial ?_
        refine WpOps.nil ?_
        obtain rfl := Sh.some_inj g_6
        exact ⟨rfl, rfl⟩
    intro env
    refine WpOps.pn 1 rfl trivial ?_
    refine WpOps.nil ?_
    refine WpC.lose (i := 0) hH rfl (fun H' hH => ?_)
    refine WpC.lose (i := 0) hH rfl (fun H' hH => ?_)
    obtain rfl := Sh.some_inj h
    refine WpC.ret ?_
    exact VEnds.ret1 rfl rfl ⟨rfl, hH⟩

theorem w_emendlaw06_MacroBack {H0 : Heap} (hG : Glob H0) {s_1 : List UInt8} {r : Bool} (h : emendlaw06_MacroBack s_1 = some r) : TCall Tryd.prog 14 [(sA s_1)] H0 (fun v H' => v = (bA r) ∧ H' = H0) noE := by
  refine id (TCall.body Tryd.func14 rfl rfl ?_)
  have hH : Holds H0 [] H0 := rfl
  refine WpC.seqR ?_
  refine WpOps.pn 1 rfl trivial ?_
  refine WpOps.nil ?_
  refine WpC.seqR ?_
  obtain ⟨r_1, hr_1, h⟩ := Sh.bind_some h
  refine WpOps.consE (v := (bA r_1)) rfl rfl (Exact.call rfl rfl rfl (w_emendlaw06_awake (hG.up hH) hr_1)) ?_
  refine WpOps.pn 1 rfl trivial ?_
  refine WpOps.nil ?_
  refine WpC.seqR ?_
  obtain ⟨r_2, hr_2, h⟩ := Sh.bind_some h
  refine WpOps.pn 1 rfl trivial ?_
  refine WpOps.consE (v := (.tup [(AV.agg (cGMacro r_2.1)), (iA r_2.2)])) rfl rfl (Exact.call rfl rfl rfl (w_emendlaw06_define (hG.up hH) hr_2)) ?_
  refine WpOps.pn 3 rfl trivial ?_
  refine WpOps.consG rfl rfl (WpO.allocU (z' := cGMacro (GMacro.mk ([] : List UInt8) false ([] : List (List UInt8)) false ([] : List GTok))) rfl rfl (.cons (.refl _) (.cons (.refl _) (.cons (Sub.nil _) (.cons (.refl _) (.cons (Sub.nil _) .nil))))) hH fun g_1 H' hH => ?_)
  refine WpOps.consG rfl rfl (WpO.putT (cs' := (cGMacro r_2.1)) (v := (AV.agg (cGMacro r_2.1))) rfl rfl hH (i := 0) rfl rfl rfl rfl rfl rfl rfl fun H' hH => ?_)
  refine WpOps.pn 1 rfl trivial ?_
  refine WpOps.nil ?_
  refine WpC.seq ?_
  refine WpC.seqR ?_
  refine WpOps.pn 2 rfl trivial ?_
  obtain ⟨b_1, g_2, h⟩ := Sh.bind_some h
  refine WpOps.cutB 5 22 (bA b_1) rfl ?_ ?_
  ·
    refine WpOps.pn 1 rfl trivial ?_
    refine WpOps.split 18 rfl (fun hb => ?_) (fun hb => ?_)
    ·
      replace g_2 := Sh.ite_pos hb g_2
      refine WpOps.pn 4 rfl trivial ?_
      refine WpOps.nil ?_
      obtain rfl := Sh.some_inj g_2
      exact ⟨rfl, rfl⟩
    ·
      replace g_2 := Sh.ite_neg hb g_2
      refine WpOps.pn 4 rfl trivial ?_
      refine WpOps.nil ?_
      obtain rfl := Sh.some_inj g_2
      exact ⟨rfl, rfl⟩
  intro env
  refine WpOps.nil ?_
  refine WpC.condB rfl (fun hb => ?_) (fun hb => ?_)
  ·
    replace h := Sh.ite_pos hb h
    refine WpC.seqR ?_
    refine WpOps.pn 2 rfl trivial ?_
    refine WpOps.nil ?_
    refine WpC.lose (i := 0) hH rfl (fun H' hH => ?_)
    obtain rfl := Sh.some_inj h
    refine WpC.ret ?_
    exact VEnds.ret1 rfl rfl ⟨rfl, hH⟩
  ·
    replace h := Sh.ite_neg hb h
    refine WpC.skipD ?_
    refine ⟨_, Heap.le_refl _, ?_⟩
    refine WpC.seq ?_
    refine WpC.seqR ?_
    refine WpOps.pn 1 rfl trivial ?_
    refine WpOps.nil ?_
    refine WpC.blockK (fun x : (Unit) × (Unit) => [(3, (bA r_1)), (4, (.lit (.pointer (some ⟨g_1, 0, none⟩))))]) (fun x H' => (emendlaw06_MacroBack_j1 r_1 r_2) x.1 = some r ∧ Holds H0 [.cell g_1 44 (cGMacro r_2.1)] H') ?_ ?_
    ·
      obtain ⟨o_1, ho_1, hk_1⟩ := Sh.bind_some h
      refine WpC.loopS (emendlaw06_MacroBack_b2 r_1 r_2) (fun (s : Int) (a : Unit) => [(3, (bA r_1)), (4, (.lit (.pointer (some ⟨g_1, 0, none⟩)))), (6, (iA s))]) (fun (s : Int) (a : Unit) H' => Holds H0 [.cell g_1 44 (cGMacro r_2.1)] H') o_1 (0 : Int) () ho_1 ⟨rfl, rfl, rfl, trivial⟩ hH ?_
      rintro i_1 _ st_1 env H' h hd_1 hH
      refine WpC.seq ?_
      refine WpC.seqR ?_
      refine WpOps.pn 2 rfl trivial ?_
      refine WpOps.consE (v := (AV.rows 6 (List.map cGTok r_2.1.body))) rfl rfl (Exact.load rfl rfl (hH.cell (i := 0) rfl) rfl rfl) ?_
      refine WpOps.pn 1 rfl trivial ?_
      refine WpOps.at 27 (len_map _ _) ?_
      refine WpOps.pn 1 rfl trivial ?_
      refine WpOps.nil ?_
      refine WpC.condB rfl (fun hb => ?_) (fun hb => ?_)
      ·
        replace h := Sh.ite_pos hb h
        refine WpC.skipD ?_
        refine ⟨_, Heap.le_refl _, ?_⟩
        refine WpC.seq ?_
        refine WpC.block ?_
        refine WpC.seqR ?_
        refine WpOps.pn 1 rfl trivial ?_
        refine WpOps.consE (v := (AV.rows 6 (List.map cGTok r_2.1.body))) rfl rfl (Exact.load rfl rfl (hH.cell (i := 0) rfl) rfl rfl) ?_
        obtain ⟨y_1, hy_1, h⟩ := Sh.bind_some h
        refine WpOps.pn 1 rfl trivial ?_
        refine WpOps.consE (v := (.rop (cGTok y_1))) rfl rfl (Exact.ixr cGTok hy_1 rfl rfl rfl rfl (by kernel_rfl) (by decide)) ?_
        refine WpOps.pn 1 rfl trivial ?_
        refine WpOps.consE (v := (iA y_1.kind)) rfl rfl (Exact.load_rop rfl rfl rfl) ?_
        refine WpOps.pn 1 rfl trivial ?_
        obtain ⟨b_2, g_3, h⟩ := Sh.bind_some h
        refine WpOps.cutB 9 46 (bA b_2) rfl ?_ ?_
        ·
          refine WpOps.pn 1 rfl trivial ?_
          refine WpOps.split 38 rfl (fun hb => ?_) (fun hb => ?_)
          ·
            replace g_3 := Sh.ite_pos hb g_3
            refine WpOps.pn 8 rfl trivial ?_
            refine WpOps.nil ?_
            obtain rfl := Sh.some_inj g_3
            exact ⟨rfl, rfl⟩
          ·
            replace g_3 := Sh.ite_neg hb g_3
            refine WpOps.pn 1 rfl trivial ?_
            refine WpOps.consE (v := (AV.rows 6 (List.map cGTok r_2.1.body))) rfl rfl (Exact.load rfl rfl (hH.cell (i := 0) rfl) rfl rfl) ?_
            obtain ⟨y_2, hy_2, g_3⟩ := Sh.bind_some g_3
            refine WpOps.pn 1 rfl trivial ?_
            refine WpOps.consE (v := (.rop (cGTok y_2))) rfl rfl (Exact.ixr cGTok hy_2 rfl rfl rfl rfl (by kernel_rfl) (by decide)) ?_
            refine WpOps.pn 1 rfl trivial ?_
            refine WpOps.consE (v := (iA y_2.kind)) rfl rfl (Exact.load_rop rfl rfl rfl) ?_
            refine WpOps.pn 2 rfl trivial ?_
            refine WpOps.nil ?_
            obtain rfl := Sh.some_inj g_3
            exact ⟨rfl, rfl⟩
        intro env
        refine WpOps.nil ?_
        refine WpC.condB rfl (fun hb => ?_) (fun hb => ?_)
        ·
          replace h := Sh.ite_pos hb h
          refine WpC.seqR ?_
          refine WpOps.pn 2 rfl trivial ?_
          refine WpOps.nil ?_
          refine WpC.lose (i := 0) hH rfl (fun H' hH => ?_)
          obtain rfl := Sh.some_inj h
          have e := hd_1 _ rfl
          subst e
          have h := hk_1
          obtain rfl := Sh.some_inj h
          refine WpC.ret ?_
          exact VEnds.ret1 rfl rfl ⟨rfl, hH⟩
        ·
          replace h := Sh.ite_neg hb h
          refine WpC.skipD ?_
          refine ⟨_, Heap.le_refl _, ?_⟩
          refine WpC.regionD ?_
          obtain ⟨c_1, h⟩ := Sh.chk_some h
          refine WpOps.pn 3 rfl c_1 ?_
          refine WpOps.nil ?_
          obtain rfl := Sh.some_inj h
          exact ⟨_, (Heap.le_refl _), (i_1 + (1 : Int)), (), rfl, ⟨rfl, rfl, rfl, trivial⟩, hH⟩
      ·
        replace h := Sh.ite_neg hb h
        obtain rfl := Sh.some_inj h
        have e := hd_1 _ rfl
        subst e
        refine WpC.exit ?_
        exact ⟨((), ()), ⟨rfl, rfl, trivial⟩, hk_1, hH⟩
    ·
      rintro ⟨_, _⟩ env H' ⟨h, hH⟩
      try dsimp only at h
      refine ⟨_, Heap.le_refl _, ?_⟩
      refine WpC.seqR ?_
      refine WpOps.consE (v := (AV.agg (cGMacro r_2.1))) rfl rfl (Exact.load rfl rfl (hH.cell (i := 0) rfl) rfl rfl) ?_
      obtain ⟨r_3, hr_3, h⟩ := Sh.bind_some h
      refine WpOps.consE (v := (sA r_3)) rfl rfl (Exact.call rfl rfl rfl (w_macro_Print hr_3)) ?_
      obtain ⟨r_4, hr_4, h⟩ := Sh.bind_some h
      refine WpOps.consE (v := (.tup [(AV.agg (cGMacro r_4.1)), (iA r_4.2)])) rfl rfl (Exact.call rfl rfl rfl (w_emendlaw06_define (hG.up hH) hr_4)) ?_
      refine WpOps.pn 3 rfl trivial ?_
      refine WpOps.consG rfl rfl (WpO.allocU (z' := cGMacro (GMacro.mk ([] : List UInt8) false ([] : List (List UInt8)) false ([] : List GTok))) rfl rfl (.cons (.refl _) (.cons (.refl _) (.cons (Sub.nil _) (.cons (.refl _) (.cons (Sub.nil _) .nil))))) hH fun g_4 H' hH => ?_)
      refine WpOps.consG rfl rfl (WpO.putT (cs' := (cGMacro r_4.1)) (v := (AV.agg (cGMacro r_4.1))) rfl rfl hH (i := 0) rfl rfl rfl rfl rfl rfl rfl fun H' hH => ?_)
      refine WpOps.pn 1 rfl trivial ?_
      refine WpOps.nil ?_
      refine WpC.seqR ?_
      refine WpOps.consE (v := (AV.agg (cGMacro r_2.1))) rfl rfl (Exact.load rfl rfl (hH.cell (i := 1) rfl) rfl rfl) ?_
      refine WpOps.consE (v := (AV.agg (cGMacro r_4.1))) rfl rfl (Exact.load rfl rfl (hH.cell (i := 0) rfl) rfl rfl) ?_
      obtain ⟨r_5, hr_5, h⟩ := Sh.bind_some h
      refine WpOps.consE (v := (bA r_5)) rfl rfl (Exact.call rfl rfl rfl (w_macro_Same hr_5)) ?_
      refine WpOps.pn 1 rfl trivial ?_
      refine WpOps.nil ?_
      refine WpC.seqR ?_
      refine WpOps.pn 1 rfl trivial ?_
      obtain ⟨b_3, g_5, h⟩ := Sh.bind_some h
      refine WpOps.cutB 4 61 (bA b_3) rfl ?_ ?_
      ·
        refine WpOps.pn 1 rfl trivial ?_
        refine WpOps.split 58 rfl (fun hb => ?_) (fun hb => ?_)
        ·
          replace g_5 := Sh.ite_pos hb g_5
          refine WpOps.pn 3 rfl trivial ?_
          refine WpOps.nil ?_
          obtain rfl := Sh.some_inj g_5
          exact ⟨rfl, rfl⟩
        ·
          replace g_5 := Sh.ite_neg hb g_5
          refine WpOps.pn 3 rfl trivial ?_
          refine WpOps.nil ?_
          obtain rfl := Sh.some_inj g_5
          exact ⟨rfl, rfl⟩
      intro env
      obtain ⟨b_4, g_6, h⟩ := Sh.bind_some h
      refine WpOps.cutB 3 64 (bA b_4) rfl ?_ ?_
      ·
        refine WpOps.pn 1 rfl trivial ?_
        refine WpOps.split 62 rfl (fun hb => ?_) (fun hb => ?_)
        ·
          replace g_6 := Sh.ite_pos hb g_6
          refine WpOps.pn 2 rfl trivial ?_
          refine WpOps.nil ?_
          obtain rfl := Sh.some_inj g_6
          exact ⟨rfl, rfl⟩
        ·
          replace g_6 := Sh.ite_neg hb g_6
          refine WpOps.pn 2 rfl trivial ?_
          refine WpOps.nil ?_
          obtain rfl := Sh.some_inj g_6
          exact ⟨rfl, rfl⟩
      intro env
      refine WpOps.pn 1 rfl trivial ?_
      refine WpOps.nil ?_
      refine WpC.lose (i := 0) hH rfl (fun H' hH => ?_)
      refine WpC.lose (i := 0) hH rfl (fun H' hH => ?_)
      obtain rfl := Sh.some_inj h
      refine WpC.ret ?_
      exact VEnds.ret1 rfl rfl ⟨rfl, hH⟩

end Go.Proofs.YtghnfeflknfclaaDoor
