/-
  The code computes what the plain functions say. Printed by a tool.
-/
import Derived.Test.YtfocleohejljpaaDoorWb
set_option linter.unusedVariables false
set_option linter.unusedSimpArgs false
set_option maxRecDepth 20000
set_option maxHeartbeats 8000000
namespace Go.Proofs.YtfocleohejljpaaDoor
open Go Go.Vc Go.Sh
attribute [local irreducible] WpC WpOps WpPi WpO Exact TCall VEnds Sh.loopS

theorem w_emendref16_in {H0 : Heap} {s_1 : List UInt8} {l_1 : List (List UInt8)} {r : Bool} (h : emendref16_in s_1 l_1 = some r) : TCall Tryd.prog 67 [(sA s_1), (AV.rows 1 (List.map cS l_1))] H0 (fun v H' => v = (bA r) ∧ H' = H0) noE := by
  refine id (TCall.body Tryd.func67 rfl rfl ?_)
  have hH : Holds H0 [] H0 := rfl
  refine WpC.seqR ?_
  refine WpOps.pn 1 rfl trivial ?_
  refine WpOps.nil ?_
  refine WpC.seq ?_
  refine WpC.seqR ?_
  refine WpOps.pn 1 rfl trivial ?_
  refine WpOps.nil ?_
  refine WpC.blockK (fun x : (Unit) × (Unit) => []) (fun x H' => emendref16_in_j1 x.1 = some r ∧ Holds H0 [] H') ?_ ?_
  ·
    obtain ⟨o_1, ho_1, hk_1⟩ := Sh.bind_some h
    refine WpC.loopS (emendref16_in_b2 s_1 l_1) (fun (s : Int) (a : Unit) => [(0, (sA s_1)), (1, (AV.rows 1 (List.map cS l_1))), (5, (iA s))]) (fun (s : Int) (a : Unit) H' => Holds H0 [] H') o_1 (0 : Int) () ho_1 ⟨rfl, rfl, rfl, trivial⟩ hH ?_
    rintro i_1 _ st_1 env H' h hd_1 hH
    refine WpC.seq ?_
    refine WpC.seqR ?_
    refine WpOps.pn 3 rfl trivial ?_
    refine WpOps.at 8 (len_map _ _) ?_
    refine WpOps.pn 1 rfl trivial ?_
    refine WpOps.nil ?_
    refine WpC.condB rfl (fun hb => ?_) (fun hb => ?_)
    ·
      replace h := Sh.ite_pos hb h
      refine WpC.skipD ?_
      refine ⟨_, Heap.le_refl _, ?_⟩
      refine WpC.seq ?_
      refine WpC.block ?_
      refine WpC.seqR ?_
      obtain ⟨y_1, hy_1, h⟩ := Sh.bind_some h
      refine WpOps.pn 2 rfl trivial ?_
      refine WpOps.consE (v := (.rop (cS y_1))) rfl rfl (Exact.ixr cS hy_1 rfl rfl rfl rfl (by kernel_rfl) (by decide)) ?_
      refine WpOps.consE (v := (sA y_1)) rfl rfl (Exact.load_rop rfl rfl rfl) ?_
      refine WpOps.pn 2 rfl trivial ?_
      refine WpOps.nil ?_
      refine WpC.condB rfl (fun hb => ?_) (fun hb => ?_)
      ·
        replace h := Sh.ite_pos hb h
        refine WpC.seqR ?_
        refine WpOps.pn 1 rfl trivial ?_
        refine WpOps.nil ?_
        obtain rfl := Sh.some_inj h
        have e := hd_1 _ rfl
        subst e
        have h := hk_1
        obtain rfl := Sh.some_inj h
        refine WpC.ret ?_
        exact VEnds.ret1 rfl rfl ⟨rfl, hH⟩
      ·
        replace h := Sh.ite_neg hb h
        refine WpC.skipD ?_
        refine ⟨_, Heap.le_refl _, ?_⟩
        refine WpC.regionD ?_
        obtain ⟨c_1, h⟩ := Sh.chk_some h
        refine WpOps.pn 3 rfl c_1 ?_
        refine WpOps.nil ?_
        obtain rfl := Sh.some_inj h
        exact ⟨_, (Heap.le_refl _), (i_1 + (1 : Int)), (), rfl, ⟨rfl, rfl, rfl, trivial⟩, hH⟩
    ·
      replace h := Sh.ite_neg hb h
      obtain rfl := Sh.some_inj h
      have e := hd_1 _ rfl
      subst e
      refine WpC.exit ?_
      exact ⟨((), ()), trivial, hk_1, hH⟩
  ·
    rintro ⟨_, _⟩ env H' ⟨h, hH⟩
    try dsimp only at h
    refine ⟨_, Heap.le_refl _, ?_⟩
    refine WpC.seqR ?_
    refine WpOps.pn 1 rfl trivial ?_
    refine WpOps.nil ?_
    obtain rfl := Sh.some_inj h
    refine WpC.ret ?_
    exact VEnds.ret1 rfl rfl ⟨rfl, hH⟩

theorem w_emendref16_Keyword {H0 : Heap} {s_1 : List UInt8} {r : Bool} (h : emendref16_Keyword s_1 = some r) : TCall Tryd.prog 49 [(sA s_1)] H0 (fun v H' => v = (bA r) ∧ H' = H0) noE := by
  refine id (TCall.body Tryd.func49 rfl rfl ?_)
  have hH : Holds H0 [] H0 := rfl
  refine WpC.seqR ?_
  refine WpOps.pn 1 rfl trivial ?_
  refine WpOps.nil ?_
  refine WpC.seqR ?_
  refine WpOps.pn 1 rfl trivial ?_
  refine WpOps.consE (v := (AV.rows 1 (List.map cS emendref16_Keyword_l0))) rfl rfl (Exact.litSlice rfl (by kernel_rfl)) ?_
  obtain ⟨r_1, hr_1, h⟩ := Sh.bind_some h
  refine WpOps.consE (v := (bA r_1)) rfl rfl (Exact.call rfl rfl rfl (w_emendref16_in hr_1)) ?_
  refine WpOps.pn 1 rfl trivial ?_
  refine WpOps.nil ?_
  obtain rfl := Sh.some_inj h
  refine WpC.ret ?_
  exact VEnds.ret1 rfl rfl ⟨rfl, hH⟩

theorem w_emendref19_Right {H0 : Heap} {name_1 : List UInt8} {r : Bool} (h : emendref19_Right name_1 = some r) : TCall Tryd.prog 22 [(sA name_1)] H0 (fun v H' => v = (bA r) ∧ H' = H0) noE := by
  refine id (TCall.body Tryd.func22 rfl rfl ?_)
  have hH : Holds H0 [] H0 := rfl
  refine WpC.seqR ?_
  refine WpOps.pn 1 rfl trivial ?_
  refine WpOps.nil ?_
  refine WpC.seqR ?_
  obtain ⟨r_1, hr_1, h⟩ := Sh.bind_some h
  refine WpOps.pn 1 rfl trivial ?_
  refine WpOps.consE (v := (.tup [(AV.agg (cGTok r_1.1)), (bA r_1.2)])) rfl rfl (Exact.call rfl rfl rfl (w_emendref03_One hr_1)) ?_
  refine WpOps.pn 3 rfl trivial ?_
  refine WpOps.consG rfl rfl (WpO.allocT (z := cGTok (GTok.mk (0 : Int) ([] : List UInt8) (0 : Int) (0 : Int) (0 : Int) false)) rfl rfl hH fun g_1 H' hH => ?_)
  refine WpOps.consG rfl rfl (WpO.putT (cs' := cGTok r_1.1) (v := (AV.agg (cGTok r_1.1))) rfl rfl hH (i := 0) rfl rfl rfl rfl rfl rfl rfl fun H' hH => ?_)
  refine WpOps.pn 1 rfl trivial ?_
  refine WpOps.nil ?_
  refine WpC.seqR ?_
  refine WpOps.pn 1 rfl trivial ?_
  obtain ⟨b_1, g_2, h⟩ := Sh.bind_some h
  refine WpOps.cutB 5 15 (bA b_1) rfl ?_ ?_
  ·
    refine WpOps.pn 1 rfl trivial ?_
    refine WpOps.split 11 rfl (fun hb => ?_) (fun hb => ?_)
    ·
      replace g_2 := Sh.ite_pos hb g_2
      refine WpOps.pn 1 rfl trivial ?_
      refine WpOps.consE (v := (iA r_1.1.kind)) rfl rfl (Exact.load rfl rfl (hH.cell (i := 0) rfl) rfl rfl) ?_
      refine WpOps.pn 2 rfl trivial ?_
      refine WpOps.nil ?_
      obtain rfl := Sh.some_inj g_2
      exact ⟨rfl, rfl⟩
    ·
      replace g_2 := Sh.ite_neg hb g_2
      refine WpOps.pn 4 rfl trivial ?_
      refine WpOps.nil ?_
      obtain rfl := Sh.some_inj g_2
      exact ⟨rfl, rfl⟩
  intro env
  obtain ⟨b_2, g_3, h⟩ := Sh.bind_some h
  refine WpOps.cutB 5 20 (bA b_2) rfl ?_ ?_
  ·
    refine WpOps.pn 1 rfl trivial ?_
    refine WpOps.split 16 rfl (fun hb => ?_) (fun hb => ?_)
    ·
      replace g_3 := Sh.ite_pos hb g_3
      obtain ⟨r_2, hr_2, g_3⟩ := Sh.bind_some g_3
      refine WpOps.pn 1 rfl trivial ?_
      refine WpOps.consE (v := (bA r_2)) rfl rfl (Exact.call rfl rfl rfl (w_emendref16_Keyword hr_2)) ?_
      refine WpOps.pn 2 rfl trivial ?_
      refine WpOps.nil ?_
      obtain rfl := Sh.some_inj g_3
      exact ⟨rfl, rfl⟩
    ·
      replace g_3 := Sh.ite_neg hb g_3
      refine WpOps.pn 4 rfl trivial ?_
      refine WpOps.nil ?_
      obtain rfl := Sh.some_inj g_3
      exact ⟨rfl, rfl⟩
  intro env
  obtain ⟨b_3, g_4, h⟩ := Sh.bind_some h
  refine WpOps.cutB 4 24 (bA b_3) rfl ?_ ?_
  ·
    refine WpOps.pn 1 rfl trivial ?_
    refine WpOps.split 21 rfl (fun hb => ?_) (fun hb => ?_)
    ·
      replace g_4 := Sh.ite_pos hb g_4
      refine WpOps.pn 3 rfl trivial ?_
      refine WpOps.nil ?_
      obtain rfl := Sh.some_inj g_4
      exact ⟨rfl, rfl⟩
    ·
      replace g_4 := Sh.ite_neg hb g_4
      refine WpOps.pn 3 rfl trivial ?_
      refine WpOps.nil ?_
      obtain rfl := Sh.some_inj g_4
      exact ⟨rfl, rfl⟩
  intro env
  obtain ⟨b_4, g_5, h⟩ := Sh.bind_some h
  refine WpOps.cutB 4 28 (bA b_4) rfl ?_ ?_
  ·
    refine WpOps.pn 1 rfl trivial ?_
    refine WpOps.split 25 rfl (fun hb => ?_) (fun hb => ?_)
    ·
      replace g_5 := Sh.ite_pos hb g_5
      refine WpOps.pn 3 rfl trivial ?_
      refine WpOps.nil ?_
      obtain rfl := Sh.some_inj g_5
      exact ⟨rfl, rfl⟩
    ·
      replace g_5 := Sh.ite_neg hb g_5
      refine WpOps.pn 3 rfl trivial ?_
      refine WpOps.nil ?_
      obtain rfl := Sh.some_inj g_5
      exact ⟨rfl, rfl⟩
  intro env
  refine WpOps.pn 1 rfl trivial ?_
  refine WpOps.nil ?_
  refine WpC.lose (i := 0) hH rfl (fun H' hH => ?_)
  obtain rfl := Sh.some_inj h
  refine WpC.ret ?_
  exact VEnds.ret1 rfl rfl ⟨rfl, hH⟩

theorem w_emendlaw19_SitesRight {H0 : Heap} (hG : Glob H0) {files_1 : List GFile} {name_1 : List UInt8} {r : Bool} (h : emendlaw19_SitesRight files_1 name_1 = some r) : TCall Tryd.prog 4 [(AV.rows 2 (List.map cGFile files_1)), (sA name_1)] H0 (fun v H' => v = (bA r) ∧ H' = H0) noE := by
  refine id (TCall.body Tryd.func4 rfl rfl ?_)
  have hH : Holds H0 [] H0 := rfl
  refine WpC.seqR ?_
  refine WpOps.pn 1 rfl trivial ?_
  refine WpOps.nil ?_
  refine WpC.seqR ?_
  obtain ⟨r_1, hr_1, h⟩ := Sh.bind_some h
  refine WpOps.consE (v := (bA r_1)) rfl rfl (Exact.call rfl rfl rfl (w_emendlaw19_awake (hG.up hH) hr_1)) ?_
  refine WpOps.pn 1 rfl trivial ?_
  refine WpOps.nil ?_
  refine WpC.seqR ?_
  obtain ⟨r_2, hr_2, h⟩ := Sh.bind_some h
  refine WpOps.pn 1 rfl trivial ?_
  refine WpOps.consE (v := (bA r_2)) rfl rfl (Exact.call rfl rfl rfl (w_emendref11_Short hr_2)) ?_
  refine WpOps.pn 1 rfl trivial ?_
  refine WpOps.nil ?_
  refine WpC.seq ?_
  refine WpC.seqR ?_
  refine WpOps.pn 2 rfl trivial ?_
  obtain ⟨b_1, g_1, h⟩ := Sh.bind_some h
  refine WpOps.cutB 5 21 (bA b_1) rfl ?_ ?_
  ·
    refine WpOps.pn 1 rfl trivial ?_
    refine WpOps.split 17 rfl (fun hb => ?_) (fun hb => ?_)
    ·
      replace g_1 := Sh.ite_pos hb g_1
      refine WpOps.pn 4 rfl trivial ?_
      refine WpOps.nil ?_
      obtain rfl := Sh.some_inj g_1
      exact ⟨rfl, rfl⟩
    ·
      replace g_1 := Sh.ite_neg hb g_1
      refine WpOps.pn 4 rfl trivial ?_
      refine WpOps.nil ?_
      obtain rfl := Sh.some_inj g_1
      exact ⟨rfl, rfl⟩
  intro env
  refine WpOps.nil ?_
  refine WpC.condB rfl (fun hb => ?_) (fun hb => ?_)
  ·
    replace h := Sh.ite_pos hb h
    refine WpC.seqR ?_
    refine WpOps.pn 2 rfl trivial ?_
    refine WpOps.nil ?_
    obtain rfl := Sh.some_inj h
    refine WpC.ret ?_
    exact VEnds.ret1 rfl rfl ⟨rfl, hH⟩
  ·
    replace h := Sh.ite_neg hb h
    refine WpC.skipD ?_
    refine ⟨_, Heap.le_refl _, ?_⟩
    refine WpC.seqR ?_
    obtain ⟨r_3, hr_3, h⟩ := Sh.bind_some h
    refine WpOps.pn 1 rfl trivial ?_
    refine WpOps.consE (v := (bA r_3)) rfl rfl (Exact.call rfl rfl rfl (w_sites_Right (hG.up hH) hr_3)) ?_
    refine WpOps.pn 1 rfl trivial ?_
    refine WpOps.nil ?_
    refine WpC.seqR ?_
    obtain ⟨r_4, hr_4, h⟩ := Sh.bind_some h
    refine WpOps.pn 2 rfl trivial ?_
    refine WpOps.consE (v := (bA r_4)) rfl rfl (Exact.call rfl rfl rfl (w_sites_Free (hG.up hH) hr_4)) ?_
    refine WpOps.pn 1 rfl trivial ?_
    refine WpOps.nil ?_
    refine WpC.seqR ?_
    obtain ⟨r_5, hr_5, h⟩ := Sh.bind_some h
    refine WpOps.pn 1 rfl trivial ?_
    refine WpOps.consE (v := (bA r_5)) rfl rfl (Exact.call rfl rfl rfl (w_emendref19_Right hr_5)) ?_
    refine WpOps.pn 1 rfl trivial ?_
    refine WpOps.nil ?_
    refine WpC.seqR ?_
    obtain ⟨r_6, hr_6, h⟩ := Sh.bind_some h
    refine WpOps.pn 2 rfl trivial ?_
    refine WpOps.consE (v := (.tup [(AV.rows 5 (List.map cGSite r_6.1)), (bA r_6.2)])) rfl rfl (Exact.call rfl rfl rfl (w_emendref19_Find hr_6)) ?_
    refine WpOps.pn 5 rfl trivial ?_
    refine WpOps.nil ?_
    refine WpC.seqR ?_
    refine WpOps.pn 1 rfl trivial ?_
    obtain ⟨b_2, g_2, h⟩ := Sh.bind_some h
    refine WpOps.cutB 5 41 (bA b_2) rfl ?_ ?_
    ·
      refine WpOps.pn 1 rfl trivial ?_
      refine WpOps.split 37 rfl (fun hb => ?_) (fun hb => ?_)
      ·
        replace g_2 := Sh.ite_pos hb g_2
        refine WpOps.pn 4 rfl trivial ?_
        refine WpOps.nil ?_
        obtain rfl := Sh.some_inj g_2
        exact ⟨rfl, rfl⟩
      ·
        replace g_2 := Sh.ite_neg hb g_2
        refine WpOps.pn 4 rfl trivial ?_
        refine WpOps.nil ?_
        obtain rfl := Sh.some_inj g_2
        exact ⟨rfl, rfl⟩
    intro env
    obtain ⟨b_3, g_3, h⟩ := Sh.bind_some h
    refine WpOps.cutB 10 51 (bA b_3) rfl ?_ ?_
    ·
      refine WpOps.pn 1 rfl trivial ?_
      refine WpOps.split 42 rfl (fun hb => ?_) (fun hb => ?_)
      ·
        replace g_3 := Sh.ite_pos hb g_3
        refine WpOps.pn 2 rfl trivial ?_
        obtain ⟨b_4, g_4, g_3⟩ := Sh.bind_some g_3
        refine WpOps.cutB 5 49 (bA b_4) rfl ?_ ?_
        ·
          refine WpOps.pn 1 rfl trivial ?_
          refine WpOps.split 45 rfl (fun hb => ?_) (fun hb => ?_)
          ·
            replace g_4 := Sh.ite_pos hb g_4
            refine WpOps.pn 2 rfl trivial ?_
            refine WpOps.at 47 (len_map _ _) ?_
            refine WpOps.pn 2 rfl trivial ?_
            refine WpOps.nil ?_
            obtain rfl := Sh.some_inj g_4
            exact ⟨rfl, rfl⟩
          ·
            replace g_4 := Sh.ite_neg hb g_4
            refine WpOps.pn 4 rfl trivial ?_
            refine WpOps.nil ?_
            obtain rfl := Sh.some_inj g_4
            exact ⟨rfl, rfl⟩
        intro env
        refine WpOps.pn 2 rfl trivial ?_
        refine WpOps.nil ?_
        obtain rfl := Sh.some_inj g_3
        exact ⟨rfl, rfl⟩
      ·
        replace g_3 := Sh.ite_neg hb g_3
        refine WpOps.pn 9 rfl trivial ?_
        refine WpOps.nil ?_
        obtain rfl := Sh.some_inj g_3
        exact ⟨rfl, rfl⟩
    intro env
    refine WpOps.pn 1 rfl trivial ?_
    refine WpOps.nil ?_
    obtain rfl := Sh.some_inj h
    refine WpC.ret ?_
    exact VEnds.ret1 rfl rfl ⟨rfl, hH⟩

theorem w_emendlaw19_SitesSpelling {H0 : Heap} (hG : Glob H0) {files_1 : List GFile} {s_1 : GSite} {r : Bool} (h : emendlaw19_SitesSpelling files_1 s_1 = some r) : TCall Tryd.prog 5 [(AV.rows 2 (List.map cGFile files_1)), (AV.agg (cGSite s_1))] H0 (fun v H' => v = (bA r) ∧ H' = H0) noE := by
  refine id (TCall.body Tryd.func5 rfl rfl ?_)
  have hH : Holds H0 [] H0 := rfl
  refine WpC.seqR ?_
  refine WpOps.consG rfl rfl (WpO.boxT (v := (AV.agg (cGSite s_1))) rfl rfl hH fun g_1 H' hH => ?_)
  refine WpOps.pn 1 rfl trivial ?_
  refine WpOps.nil ?_
  refine WpC.seqR ?_
  obtain ⟨r_1, hr_1, h⟩ := Sh.bind_some h
  refine WpOps.consE (v := (bA r_1)) rfl rfl (Exact.call rfl rfl rfl (w_emendlaw19_awake (hG.up hH) hr_1)) ?_
  refine WpOps.pn 1 rfl trivial ?_
  refine WpOps.nil ?_
  refine WpC.seqR ?_
  obtain ⟨r_2, hr_2, h⟩ := Sh.bind_some h
  refine WpOps.pn 1 rfl trivial ?_
  refine WpOps.consE (v := (bA r_2)) rfl rfl (Exact.call rfl rfl rfl (w_emendref11_Short hr_2)) ?_
  refine WpOps.pn 1 rfl trivial ?_
  refine WpOps.nil ?_
  refine WpC.seq ?_
  refine WpC.seqR ?_
  refine WpOps.pn 2 rfl trivial ?_
  refine WpOps.nil ?_
  refine WpC.condB rfl (fun hb => ?_) (fun hb => ?_)
  ·
    replace h := Sh.ite_pos hb h
    refine WpC.seqR ?_
    refine WpOps.pn 2 rfl trivial ?_
    refine WpOps.nil ?_
    refine WpC.lose (i := 0) hH rfl (fun H' hH => ?_)
    obtain rfl := Sh.some_inj h
    refine WpC.ret ?_
    exact VEnds.ret1 rfl rfl ⟨rfl, hH⟩
  ·
    replace h := Sh.ite_neg hb h
    refine WpC.skipD ?_
    refine ⟨_, Heap.le_refl _, ?_⟩
    refine WpC.seqR ?_
    refine WpOps.pn 1 rfl trivial ?_
    refine WpOps.consE (v := (AV.agg (cGSite s_1))) rfl rfl (Exact.load rfl rfl (hH.cell (i := 0) rfl) rfl rfl) ?_
    obtain ⟨r_3, hr_3, h⟩ := Sh.bind_some h
    refine WpOps.consE (v := (.tup [(sA r_3.1), (iA r_3.2)])) rfl rfl (Exact.call rfl rfl rfl (w_sites_Spelling hr_3)) ?_
    refine WpOps.pn 5 rfl trivial ?_
    refine WpOps.nil ?_
    refine WpC.seq ?_
    refine WpC.seqD [.I, .S, .I, .I, .I, .S, .I, .I, .I, .I, .I, .I, .S, .I, .I, .I, .I, .S, .I, .S, .I, .I, .I, .I, .S, .I, .I, .S] [0, 1, 2, 3, 4, 5, 6, 7, 8, 9, 10, 11, 12, 13, 14, 15, 16, 17, 18, 19, 20, 21, 22, 23, 24, 25, 26, 27, 28, 29, 30, 31, 32, 33] (by kernel_rfl) (by kernel_rfl) ?_
    refine WpPi.pn 1 rfl trivial ?_
    refine WpPi.consS (v := (iA s_1.file_)) rfl rfl rfl rfl (Exact.load rfl rfl (hH.cell (i := 0) rfl) rfl rfl) ?_
    refine WpPi.pn 1 rfl trivial ?_
    obtain ⟨b_1, g_2, h⟩ := Sh.bind_some h
    refine WpPi.cutB 7 30 (bA b_1) rfl ?_ ?_
    ·
      refine WpPi.pn 1 rfl trivial ?_
      refine WpPi.split 24 rfl (fun hb => ?_) (fun hb => ?_)
      ·
        replace g_2 := Sh.ite_pos hb g_2
        refine WpPi.pn 1 rfl trivial ?_
        refine WpPi.skip rfl rfl rfl ?_
        refine WpPi.pn 4 rfl trivial ?_
        refine WpPi.nil ?_
        obtain rfl := Sh.some_inj g_2
        exact ⟨rfl, rfl⟩
      ·
        replace g_2 := Sh.ite_neg hb g_2
        refine WpPi.pn 1 rfl trivial ?_
        refine WpPi.consS (v := (iA s_1.file_)) rfl rfl rfl rfl (Exact.load rfl rfl (hH.cell (i := 0) rfl) rfl rfl) ?_
        refine WpPi.pn 2 rfl trivial ?_
        refine WpPi.at 28 (len_map _ _) ?_
        refine WpPi.pn 2 rfl trivial ?_
        refine WpPi.nil ?_
        obtain rfl := Sh.some_inj g_2
        exact ⟨rfl, rfl⟩
    intro env
    obtain ⟨b_2, g_3, h⟩ := Sh.bind_some h
    refine WpPi.cutB 5 35 (bA b_2) rfl ?_ ?_
    ·
      refine WpPi.pn 1 rfl trivial ?_
      refine WpPi.split 31 rfl (fun hb => ?_) (fun hb => ?_)
      ·
        replace g_3 := Sh.ite_pos hb g_3
        refine WpPi.pn 1 rfl trivial ?_
        refine WpPi.skip rfl rfl rfl ?_
        refine WpPi.pn 2 rfl trivial ?_
        refine WpPi.nil ?_
        obtain rfl := Sh.some_inj g_3
        exact ⟨rfl, rfl⟩
      ·
        replace g_3 := Sh.ite_neg hb g_3
        refine WpPi.pn 1 rfl trivial ?_
        refine WpPi.consS (v := (iA s_1.from_)) rfl rfl rfl rfl (Exact.load rfl rfl (hH.cell (i := 0) rfl) rfl rfl) ?_
        refine WpPi.pn 2 rfl trivial ?_
        refine WpPi.nil ?_
        obtain rfl := Sh.some_inj g_3
        exact ⟨rfl, rfl⟩
    intro env
    obtain ⟨b_3, g_4, h⟩ := Sh.bind_some h
    refine WpPi.cutB 7 42 (bA b_3) rfl ?_ ?_
    ·
      refine WpPi.pn 1 rfl trivial ?_
      refine WpPi.split 36 rfl (fun hb => ?_) (fun hb => ?_)
      ·
        replace g_4 := Sh.ite_pos hb g_4
        refine WpPi.pn 1 rfl trivial ?_
        refine WpPi.skip rfl rfl rfl ?_
        refine WpPi.pn 1 rfl trivial ?_
        refine WpPi.skip rfl rfl rfl ?_
        refine WpPi.pn 2 rfl trivial ?_
        refine WpPi.nil ?_
        obtain rfl := Sh.some_inj g_4
        exact ⟨rfl, rfl⟩
      ·
        replace g_4 := Sh.ite_neg hb g_4
        refine WpPi.pn 1 rfl trivial ?_
        refine WpPi.consS (v := (iA s_1.from_)) rfl rfl rfl rfl (Exact.load rfl rfl (hH.cell (i := 0) rfl) rfl rfl) ?_
        refine WpPi.pn 1 rfl trivial ?_
        refine WpPi.consS (v := (iA s_1.to)) rfl rfl rfl rfl (Exact.load rfl rfl (hH.cell (i := 0) rfl) rfl rfl) ?_
        refine WpPi.pn 2 rfl trivial ?_
        refine WpPi.nil ?_
        obtain rfl := Sh.some_inj g_4
        exact ⟨rfl, rfl⟩
    intro env
    obtain ⟨b_4, g_5, h⟩ := Sh.bind_some h
    refine WpPi.cutB 12 54 (bA b_4) rfl ?_ ?_
    ·
      refine WpPi.pn 1 rfl trivial ?_
      refine WpPi.split 43 rfl (fun hb => ?_) (fun hb => ?_)
      ·
        replace g_5 := Sh.ite_pos hb g_5
        refine WpPi.pn 1 rfl trivial ?_
        refine WpPi.skip rfl rfl rfl ?_
        refine WpPi.pn 2 rfl trivial ?_
        refine WpPi.skip rfl rfl rfl ?_
        refine WpPi.skip rfl rfl rfl ?_
        refine WpPi.pn 1 rfl trivial ?_
        refine WpPi.skip rfl rfl rfl ?_
        refine WpPi.pn 3 rfl trivial ?_
        refine WpPi.nil ?_
        obtain rfl := Sh.some_inj g_5
        exact ⟨rfl, rfl⟩
      ·
        replace g_5 := Sh.ite_neg hb g_5
        refine WpPi.pn 1 rfl trivial ?_
        refine WpPi.consS (v := (iA s_1.to)) rfl rfl rfl rfl (Exact.load rfl rfl (hH.cell (i := 0) rfl) rfl rfl) ?_
        refine WpPi.pn 2 rfl trivial ?_
        refine WpPi.consS (v := (iA s_1.file_)) rfl rfl rfl rfl (Exact.load rfl rfl (hH.cell (i := 0) rfl) rfl rfl) ?_
        obtain ⟨y_1, hy_1, g_5⟩ := Sh.bind_some g_5
        refine WpPi.consI (v := (.rop (cGFile y_1))) rfl rfl rfl rfl (fun _ => Exact.ixr cGFile hy_1 rfl rfl rfl rfl (by kernel_rfl) (by decide)) ?_
        refine WpPi.pn 1 rfl trivial ?_
        refine WpPi.consI (v := (sA y_1.text)) rfl rfl rfl rfl (fun _ => Exact.load_rop rfl rfl rfl) ?_
        refine WpPi.pn 3 rfl trivial ?_
        refine WpPi.nil ?_
        obtain rfl := Sh.some_inj g_5
        exact ⟨rfl, rfl⟩
    intro env
    refine WpPi.nil ?_
    refine WpC.condB rfl (fun hb => ?_) (fun hb => ?_)
    ·
      replace h := Sh.ite_pos hb h
      refine WpC.seqR ?_
      refine WpOps.pn 1 rfl trivial ?_
      obtain ⟨b_5, g_6, h⟩ := Sh.bind_some h
      refine WpOps.cutB 4 59 (bA b_5) rfl ?_ ?_
      ·
        refine WpOps.pn 1 rfl trivial ?_
        refine WpOps.split 56 rfl (fun hb => ?_) (fun hb => ?_)
        ·
          replace g_6 := Sh.ite_pos hb g_6
          refine WpOps.pn 3 rfl trivial ?_
          refine WpOps.nil ?_
          obtain rfl := Sh.some_inj g_6
          exact ⟨rfl, rfl⟩
        ·
          replace g_6 := Sh.ite_neg hb g_6
          refine WpOps.pn 3 rfl trivial ?_
          refine WpOps.nil ?_
          obtain rfl := Sh.some_inj g_6
          exact ⟨rfl, rfl⟩
      intro env
      obtain ⟨b_6, g_7, h⟩ := Sh.bind_some h
      refine WpOps.cutB 4 63 (bA b_6) rfl ?_ ?_
      ·
        refine WpOps.pn 1 rfl trivial ?_
        refine WpOps.split 60 rfl (fun hb => ?_) (fun hb => ?_)
        ·
          replace g_7 := Sh.ite_pos hb g_7
          refine WpOps.pn 3 rfl trivial ?_
          refine WpOps.nil ?_
          obtain rfl := Sh.some_inj g_7
          exact ⟨rfl, rfl⟩
        ·
          replace g_7 := Sh.ite_neg hb g_7
          refine WpOps.pn 3 rfl trivial ?_
          refine WpOps.nil ?_
          obtain rfl := Sh.some_inj g_7
          exact ⟨rfl, rfl⟩
      intro env
      refine WpOps.pn 1 rfl trivial ?_
      refine WpOps.nil ?_
      refine WpC.lose (i := 0) hH rfl (fun H' hH => ?_)
      obtain rfl := Sh.some_inj h
      refine WpC.ret ?_
      exact VEnds.ret1 rfl rfl ⟨rfl, hH⟩
    ·
      replace h := Sh.ite_neg hb h
      refine WpC.skipD ?_
      refine ⟨_, Heap.le_refl _, ?_⟩
      refine WpC.seqD [.I, .I, .I, .I, .I, .I, .I, .I, .I, .S, .I, .I, .I, .I, .S, .I, .S] [0, 1, 2, 3, 4, 5, 6, 7, 8, 9, 10, 11, 12, 13, 14, 15, 16, 17, 18, 19, 20] (by kernel_rfl) (by kernel_rfl) ?_
      refine WpPi.pn 1 rfl trivial ?_
      obtain ⟨b_7, g_8, h⟩ := Sh.bind_some h
      refine WpPi.cutB 4 68 (bA b_7) rfl ?_ ?_
      ·
        refine WpPi.pn 1 rfl trivial ?_
        refine WpPi.split 65 rfl (fun hb => ?_) (fun hb => ?_)
        ·
          replace g_8 := Sh.ite_pos hb g_8
          refine WpPi.pn 3 rfl trivial ?_
          refine WpPi.nil ?_
          obtain rfl := Sh.some_inj g_8
          exact ⟨rfl, rfl⟩
        ·
          replace g_8 := Sh.ite_neg hb g_8
          refine WpPi.pn 3 rfl trivial ?_
          refine WpPi.nil ?_
          obtain rfl := Sh.some_inj g_8
          exact ⟨rfl, rfl⟩
      intro env
      obtain ⟨b_8, g_9, h⟩ := Sh.bind_some h
      refine WpPi.cutB 15 83 (bA b_8) rfl ?_ ?_
      ·
        refine WpPi.pn 1 rfl trivial ?_
        refine WpPi.split 69 rfl (fun hb => ?_) (fun hb => ?_)
        ·
          replace g_9 := Sh.ite_pos hb g_9
          refine WpPi.pn 3 rfl trivial ?_
          refine WpPi.consS (v := (iA s_1.file_)) rfl rfl rfl rfl (Exact.load rfl rfl (hH.cell (i := 0) rfl) rfl rfl) ?_
          obtain ⟨y_2, hy_2, g_9⟩ := Sh.bind_some g_9
          refine WpPi.consI (v := (.rop (cGFile y_2))) rfl rfl rfl rfl (fun _ => Exact.ixr cGFile hy_2 rfl rfl rfl rfl (by kernel_rfl) (by decide)) ?_
          refine WpPi.pn 1 rfl trivial ?_
          refine WpPi.consI (v := (sA y_2.text)) rfl rfl rfl rfl (fun _ => Exact.load_rop rfl rfl rfl) ?_
          refine WpPi.pn 1 rfl trivial ?_
          refine WpPi.consS (v := (iA s_1.from_)) rfl rfl rfl rfl (Exact.load rfl rfl (hH.cell (i := 0) rfl) rfl rfl) ?_
          refine WpPi.pn 1 rfl trivial ?_
          refine WpPi.consS (v := (iA s_1.to)) rfl rfl rfl rfl (Exact.load rfl rfl (hH.cell (i := 0) rfl) rfl rfl) ?_
          obtain ⟨c_1, g_9⟩ := Sh.chk_some g_9
          refine WpPi.pn 1 rfl (show 0 ≤ s_1.from_ ∧ 0 ≤ s_1.to ∧ ((s_1.from_).toNat ≤ (s_1.to).toNat ∧ (s_1.to).toNat ≤ y_2.text.length) from ⟨(by omega), (by omega), (by omega)⟩) ?_
          refine WpPi.pn 2 rfl trivial ?_
          refine WpPi.nil ?_
          obtain rfl := Sh.some_inj g_9
          exact ⟨rfl, rfl⟩
        ·
          replace g_9 := Sh.ite_neg hb g_9
          refine WpPi.pn 3 rfl trivial ?_
          refine WpPi.skip rfl rfl rfl ?_
          refine WpPi.skip rfl rfl rfl ?_
          refine WpPi.pn 1 rfl trivial ?_
          refine WpPi.skip rfl rfl rfl ?_
          refine WpPi.pn 1 rfl trivial ?_
          refine WpPi.skip rfl rfl rfl ?_
          refine WpPi.pn 1 rfl trivial ?_
          refine WpPi.skip rfl rfl rfl ?_
          refine WpPi.pn 3 rfl trivial ?_
          refine WpPi.nil ?_
          obtain rfl := Sh.some_inj g_9
          exact ⟨rfl, rfl⟩
      intro env
      refine WpPi.pn 1 rfl trivial ?_
      refine WpPi.nil ?_
      refine WpC.lose (i := 0) hH rfl (fun H' hH => ?_)
      obtain rfl := Sh.some_inj h
      refine WpC.ret ?_
      exact VEnds.ret1 rfl rfl ⟨rfl, hH⟩

theorem w_emendlaw19_SitesBoth {H0 : Heap} (hG : Glob H0) {a_1 : List GFile} {b_1 : List GFile} {name_1 : List UInt8} {r : Bool} (h : emendlaw19_SitesBoth a_1 b_1 name_1 = some r) : TCall Tryd.prog 6 [(AV.rows 2 (List.map cGFile a_1)), (AV.rows 2 (List.map cGFile b_1)), (sA name_1)] H0 (fun v H' => v = (bA r) ∧ H' = H0) noE := by
  refine id (TCall.body Tryd.func6 rfl rfl ?_)
  have hH : Holds H0 [] H0 := rfl
  refine WpC.seqR ?_
  refine WpOps.pn 1 rfl trivial ?_
  refine WpOps.nil ?_
  refine WpC.seqR ?_
  obtain ⟨r_1, hr_1, h⟩ := Sh.bind_some h
  refine WpOps.consE (v := (bA r_1)) rfl rfl (Exact.call rfl rfl rfl (w_emendlaw19_awake (hG.up hH) hr_1)) ?_
  refine WpOps.pn 1 rfl trivial ?_
  refine WpOps.nil ?_
  refine WpC.seqR ?_
  obtain ⟨r_2, hr_2, h⟩ := Sh.bind_some h
  refine WpOps.pn 1 rfl trivial ?_
  refine WpOps.consE (v := (bA r_2)) rfl rfl (Exact.call rfl rfl rfl (w_emendref11_Short hr_2)) ?_
  refine WpOps.pn 1 rfl trivial ?_
  refine WpOps.nil ?_
  refine WpC.seqR ?_
  obtain ⟨r_3, hr_3, h⟩ := Sh.bind_some h
  refine WpOps.pn 1 rfl trivial ?_
  refine WpOps.consE (v := (bA r_3)) rfl rfl (Exact.call rfl rfl rfl (w_emendref11_Short hr_3)) ?_
  refine WpOps.pn 1 rfl trivial ?_
  refine WpOps.nil ?_
  refine WpC.seq ?_
  refine WpC.seqR ?_
  refine WpOps.pn 2 rfl trivial ?_
  obtain ⟨b_2, g_1, h⟩ := Sh.bind_some h
  refine WpOps.cutB 4 25 (bA b_2) rfl ?_ ?_
  ·
    refine WpOps.pn 1 rfl trivial ?_
    refine WpOps.split 22 rfl (fun hb => ?_) (fun hb => ?_)
    ·
      replace g_1 := Sh.ite_pos hb g_1
      refine WpOps.pn 3 rfl trivial ?_
      refine WpOps.nil ?_
      obtain rfl := Sh.some_inj g_1
      exact ⟨rfl, rfl⟩
    ·
      replace g_1 := Sh.ite_neg hb g_1
      refine WpOps.pn 3 rfl trivial ?_
      refine WpOps.nil ?_
      obtain rfl := Sh.some_inj g_1
      exact ⟨rfl, rfl⟩
  intro env
  obtain ⟨b_3, g_2, h⟩ := Sh.bind_some h
  refine WpOps.cutB 5 30 (bA b_3) rfl ?_ ?_
  ·
    refine WpOps.pn 1 rfl trivial ?_
    refine WpOps.split 26 rfl (fun hb => ?_) (fun hb => ?_)
    ·
      replace g_2 := Sh.ite_pos hb g_2
      refine WpOps.pn 4 rfl trivial ?_
      refine WpOps.nil ?_
      obtain rfl := Sh.some_inj g_2
      exact ⟨rfl, rfl⟩
    ·
      replace g_2 := Sh.ite_neg hb g_2
      refine WpOps.pn 2 rfl trivial ?_
      refine WpOps.at 28 (len_map _ _) ?_
      refine WpOps.pn 2 rfl trivial ?_
      refine WpOps.nil ?_
      obtain rfl := Sh.some_inj g_2
      exact ⟨rfl, rfl⟩
  intro env
  obtain ⟨b_4, g_3, h⟩ := Sh.bind_some h
  refine WpOps.cutB 5 35 (bA b_4) rfl ?_ ?_
  ·
    refine WpOps.pn 1 rfl trivial ?_
    refine WpOps.split 31 rfl (fun hb => ?_) (fun hb => ?_)
    ·
      replace g_3 := Sh.ite_pos hb g_3
      refine WpOps.pn 4 rfl trivial ?_
      refine WpOps.nil ?_
      obtain rfl := Sh.some_inj g_3
      exact ⟨rfl, rfl⟩
    ·
      replace g_3 := Sh.ite_neg hb g_3
      refine WpOps.pn 2 rfl trivial ?_
      refine WpOps.at 33 (len_map _ _) ?_
      refine WpOps.pn 2 rfl trivial ?_
      refine WpOps.nil ?_
      obtain rfl := Sh.some_inj g_3
      exact ⟨rfl, rfl⟩
  intro env
  refine WpOps.nil ?_
  refine WpC.condB rfl (fun hb => ?_) (fun hb => ?_)
  ·
    replace h := Sh.ite_pos hb h
    refine WpC.seqR ?_
    refine WpOps.pn 2 rfl trivial ?_
    refine WpOps.nil ?_
    obtain rfl := Sh.some_inj h
    refine WpC.ret ?_
    exact VEnds.ret1 rfl rfl ⟨rfl, hH⟩
  ·
    replace h := Sh.ite_neg hb h
    refine WpC.skipD ?_
    refine ⟨_, Heap.le_refl _, ?_⟩
    refine WpC.seqR ?_
    obtain ⟨r_4, hr_4, h⟩ := Sh.bind_some h
    refine WpOps.pn 2 rfl trivial ?_
    refine WpOps.consE (v := (AV.rows 5 (List.map cGSite r_4))) rfl rfl (Exact.call rfl rfl rfl (w_sites_Find (hG.up hH) hr_4)) ?_
    refine WpOps.pn 1 rfl trivial ?_
    refine WpOps.nil ?_
    refine WpC.seqR ?_
    obtain ⟨r_5, hr_5, h⟩ := Sh.bind_some h
    refine WpOps.pn 2 rfl trivial ?_
    refine WpOps.consE (v := (AV.rows 5 (List.map cGSite r_5))) rfl rfl (Exact.call rfl rfl rfl (w_sites_Find (hG.up hH) hr_5)) ?_
    refine WpOps.pn 1 rfl trivial ?_
    refine WpOps.nil ?_
    refine WpC.seqR ?_
    refine WpOps.consG rfl rfl (WpO.litT (size := 2) cGFile ([] : List GFile) rfl rfl (by kernel_rfl) rfl hH fun g_4 H' hH => ?_)
    obtain ⟨c_1, h⟩ := Sh.chk_some h
    refine WpOps.pn 1 rfl trivial ?_
    refine WpOps.consG rfl rfl (WpO.pushS cGFile ([] : List GFile) a_1 (i := 0) rfl ek22 hH rfl rfl rfl (.rows _) (fun y _ => one_cGFile y) c_1 (by decide) fun g_5 cp_1 H' hH => ?_)
    obtain ⟨c_2, h⟩ := Sh.chk_some h
    refine WpOps.pn 1 rfl trivial ?_
    refine WpOps.consG rfl rfl (WpO.pushS cGFile (([] : List GFile) ++ a_1) b_1 (i := 0) rfl ek22 hH rfl rfl rfl (.rows _) (fun y _ => one_cGFile y) c_2 (by decide) fun g_6 cp_2 H' hH => ?_)
    obtain ⟨r_6, hr_6, h⟩ := Sh.bind_some h
    refine WpOps.pn 1 rfl trivial ?_
    refine WpOps.consG rfl rfl (WpO.thawT (t := 47) (i := 0) (v := (AV.rows 5 (List.map cGSite r_6))) hH rfl rfl (fun H' hH => ⟨Exact.call rfl rfl rfl (w_sites_Find (hG.up hH) hr_6), ?_⟩))
    refine WpOps.pn 1 rfl trivial ?_
    refine WpOps.nil ?_
    refine WpC.seq ?_
    refine WpC.seqR ?_
    refine WpOps.pn 2 rfl trivial ?_
    refine WpOps.at 51 (len_map _ _) ?_
    refine WpOps.pn 2 rfl trivial ?_
    refine WpOps.at 53 (len_map _ _) ?_
    refine WpOps.pn 2 rfl trivial ?_
    refine WpOps.at 55 (len_map _ _) ?_
    obtain ⟨c_3, h⟩ := Sh.chk_some h
    refine WpOps.pn 2 rfl c_3 ?_
    obtain ⟨b_5, g_7, h⟩ := Sh.bind_some h
    refine WpOps.cutB 9 66 (bA b_5) rfl ?_ ?_
    ·
      refine WpOps.pn 1 rfl trivial ?_
      refine WpOps.split 58 rfl (fun hb => ?_) (fun hb => ?_)
      ·
        replace g_7 := Sh.ite_pos hb g_7
        refine WpOps.pn 8 rfl trivial ?_
        refine WpOps.nil ?_
        obtain rfl := Sh.some_inj g_7
        exact ⟨rfl, rfl⟩
      ·
        replace g_7 := Sh.ite_neg hb g_7
        refine WpOps.pn 3 rfl trivial ?_
        refine WpOps.at 61 (len_map _ _) ?_
        obtain ⟨c_4, g_7⟩ := Sh.chk_some g_7
        refine WpOps.pn 1 rfl (show True ∧ 0 ≤ (r_4.length : Int) ∧ True ∧ ((r_4.length : Int)).toNat ≤ (List.map cGSite r_6).length ∧ True from ⟨trivial, (by omega), trivial, (by simp only [List.length_map]; omega), trivial⟩) ?_
        refine WpOps.at 62 (rows_take 5 cGSite r_6 _) ?_
        obtain ⟨r_7, hr_7, g_7⟩ := Sh.bind_some g_7
        refine WpOps.pn 1 rfl trivial ?_
        refine WpOps.consE (v := (bA r_7)) rfl rfl (Exact.call rfl rfl rfl (w_emendref19_Same hr_7)) ?_
        refine WpOps.pn 2 rfl trivial ?_
        refine WpOps.nil ?_
        obtain rfl := Sh.some_inj g_7
        exact ⟨rfl, rfl⟩
    intro env
    refine WpOps.nil ?_
    refine WpC.condB rfl (fun hb => ?_) (fun hb => ?_)
    ·
      replace h := Sh.ite_pos hb h
      refine WpC.seqR ?_
      refine WpOps.pn 1 rfl trivial ?_
      refine WpOps.nil ?_
      obtain rfl := Sh.some_inj h
      refine WpC.ret ?_
      exact VEnds.ret1 rfl rfl ⟨rfl, hH⟩
    ·
      replace h := Sh.ite_neg hb h
      refine WpC.skipD ?_
      refine ⟨_, Heap.le_refl _, ?_⟩
      refine WpC.seq ?_
      refine WpC.seqR ?_
      refine WpOps.pn 1 rfl trivial ?_
      refine WpOps.nil ?_
      refine WpC.blockK (fun x : (Unit) × (Unit) => [(7, (bA r_1))]) (fun x H' => (emendlaw19_SitesBoth_j1 r_1) x.1 = some r ∧ Holds H0 [] H') ?_ ?_
      ·
        obtain ⟨o_1, ho_1, hk_1⟩ := Sh.bind_some h
        refine WpC.loopS (emendlaw19_SitesBoth_b2 a_1 r_4 r_5 r_6) (fun (s : Int) (a : Unit) => [(0, (AV.rows 2 (List.map cGFile a_1))), (7, (bA r_1)), (10, (AV.rows 5 (List.map cGSite r_4))), (11, (AV.rows 5 (List.map cGSite r_5))), (12, (AV.rows 5 (List.map cGSite r_6))), (13, (iA s))]) (fun (s : Int) (a : Unit) H' => Holds H0 [] H') o_1 (0 : Int) () ho_1 ⟨rfl, rfl, rfl, rfl, rfl, rfl, trivial⟩ hH ?_
        rintro i_1 _ st_1 env H' h hd_1 hH
        refine WpC.seq ?_
        refine WpC.seqR ?_
        refine WpOps.pn 3 rfl trivial ?_
        refine WpOps.at 69 (len_map _ _) ?_
        refine WpOps.pn 1 rfl trivial ?_
        refine WpOps.nil ?_
        refine WpC.condB rfl (fun hb => ?_) (fun hb => ?_)
        ·
          replace h := Sh.ite_pos hb h
          refine WpC.skipD ?_
          refine ⟨_, Heap.le_refl _, ?_⟩
          refine WpC.seq ?_
          refine WpC.block ?_
          refine WpC.seqR ?_
          obtain ⟨y_1, hy_1, h⟩ := Sh.bind_some h
          refine WpOps.pn 2 rfl trivial ?_
          refine WpOps.consE (v := (.rop (cGSite y_1))) rfl rfl (Exact.ixr cGSite hy_1 rfl rfl rfl rfl (by kernel_rfl) (by decide)) ?_
          refine WpOps.consE (v := (AV.agg (cGSite y_1))) rfl rfl (Exact.load_rop rfl rfl rfl) ?_
          refine WpOps.consG rfl rfl (WpO.allocT (z := cGSite (GSite.mk (0 : Int) (0 : Int) (0 : Int) (0 : Int) (0 : Int))) rfl rfl hH fun g_8 H' hH => ?_)
          refine WpOps.consG rfl rfl (WpO.putT (cs' := cGSite y_1) (v := (AV.agg (cGSite y_1))) rfl rfl hH (i := 0) rfl rfl rfl rfl rfl rfl rfl fun H' hH => ?_)
          refine WpOps.nil ?_
          refine WpC.seqR ?_
          refine WpOps.pn 1 rfl trivial ?_
          refine WpOps.consE (v := (iA y_1.file_)) rfl rfl (Exact.load rfl rfl (hH.cell (i := 0) rfl) rfl rfl) ?_
          refine WpOps.pn 2 rfl trivial ?_
          refine WpOps.at 80 (len_map _ _) ?_
          obtain ⟨c_5, h⟩ := Sh.chk_some h
          refine WpOps.pn 2 rfl c_5 ?_
          refine WpOps.consG rfl rfl (WpO.putT (cs' := cGSite (GSite.mk (y_1.file_ + (a_1.length : Int)) y_1.from_ y_1.to y_1.line_ y_1.role)) (v := (iA (y_1.file_ + (a_1.length : Int)))) rfl rfl hH (i := 0) rfl rfl rfl rfl rfl rfl rfl fun H' hH => ?_)
          refine WpOps.nil ?_
          refine WpC.seqD [.I, .I, .I, .I, .I, .I, .I, .S] [0, 1, 2, 3, 4, 5, 6, 7, 8] (by kernel_rfl) (by kernel_rfl) ?_
          refine WpPi.pn 3 rfl trivial ?_
          refine WpPi.at 85 (len_map _ _) ?_
          obtain ⟨c_6, h⟩ := Sh.chk_some h
          obtain ⟨y_2, hy_2, h⟩ := Sh.bind_some h
          refine WpPi.pn 2 rfl c_6 ?_
          refine WpPi.consI (v := (.rop (cGSite y_2))) rfl rfl rfl rfl (fun _ => Exact.ixr cGSite hy_2 rfl rfl rfl rfl (by kernel_rfl) (by decide)) ?_
          refine WpPi.consI (v := (AV.agg (cGSite y_2))) rfl rfl rfl rfl (fun _ => Exact.load_rop rfl rfl rfl) ?_
          refine WpPi.consS (v := (AV.agg (cGSite (GSite.mk (y_1.file_ + (a_1.length : Int)) y_1.from_ y_1.to y_1.line_ y_1.role)))) rfl rfl rfl rfl (Exact.load rfl rfl (hH.cell (i := 0) rfl) rfl rfl) ?_
          refine WpPi.consI (v := (bA (!decide (y_2 = (GSite.mk (y_1.file_ + (a_1.length : Int)) y_1.from_ y_1.to y_1.line_ y_1.role))))) rfl rfl rfl rfl (fun _ => Exact.neqStruct rfl rfl rfl (eqL_GSite y_2 (GSite.mk (y_1.file_ + (a_1.length : Int)) y_1.from_ y_1.to y_1.line_ y_1.role)) (by kernel_rfl) rfl (by kernel_rfl)) ?_
          refine WpPi.nil ?_
          refine WpC.condB rfl (fun hb => ?_) (fun hb => ?_)
          ·
            replace h := Sh.ite_pos hb h
            refine WpC.seqR ?_
            refine WpOps.pn 1 rfl trivial ?_
            refine WpOps.nil ?_
            refine WpC.lose (i := 0) hH rfl (fun H' hH => ?_)
            obtain rfl := Sh.some_inj h
            have e := hd_1 _ rfl
            subst e
            have h := hk_1
            obtain rfl := Sh.some_inj h
            refine WpC.ret ?_
            exact VEnds.ret1 rfl rfl ⟨rfl, hH⟩
          ·
            replace h := Sh.ite_neg hb h
            refine WpC.skipD ?_
            refine ⟨_, Heap.le_refl _, ?_⟩
            refine WpC.regionD ?_
            obtain ⟨c_7, h⟩ := Sh.chk_some h
            refine WpOps.pn 3 rfl c_7 ?_
            refine WpOps.nil ?_
            obtain ⟨_, hle_1, hH⟩ := hH.lose_ (i := 0) rfl
            obtain rfl := Sh.some_inj h
            exact ⟨_, hle_1, (i_1 + (1 : Int)), (), rfl, ⟨rfl, rfl, rfl, rfl, rfl, rfl, trivial⟩, hH⟩
        ·
          replace h := Sh.ite_neg hb h
          obtain rfl := Sh.some_inj h
          have e := hd_1 _ rfl
          subst e
          refine WpC.exit ?_
          exact ⟨((), ()), ⟨rfl, trivial⟩, hk_1, hH⟩
      ·
        rintro ⟨_, _⟩ env H' ⟨h, hH⟩
        try dsimp only at h
        refine ⟨_, Heap.le_refl _, ?_⟩
        refine WpC.seqR ?_
        refine WpOps.pn 2 rfl trivial ?_
        refine WpOps.nil ?_
        obtain rfl := Sh.some_inj h
        refine WpC.ret ?_
        exact VEnds.ret1 rfl rfl ⟨rfl, hH⟩

end Go.Proofs.YtfocleohejljpaaDoor
