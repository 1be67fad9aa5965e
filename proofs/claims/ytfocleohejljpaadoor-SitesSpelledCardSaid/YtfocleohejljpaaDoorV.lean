/-
  The code computes what the plain functions say. Printed by a tool.
-/
import Derived.Test.YtfocleohejljpaaDoorT2
import Derived.Test.YtfocleohejljpaaDoorWc
import Derived.Test.YtfocleohejljpaaDoorMa
set_option linter.unusedVariables false
set_option linter.unusedSimpArgs false
set_option maxRecDepth 20000
set_option maxHeartbeats 8000000
namespace Go.Proofs.YtfocleohejljpaaDoor
open Go Go.Vc Go.Sh
attribute [local irreducible] WpC WpOps WpPi WpO Exact TCall VEnds Sh.loopS

theorem w_cmp_isNaN_string {H0 : Heap} {x_1 : List UInt8} {r : Bool} (h : cmp_isNaN_string x_1 = some r) : TCall Tryd.prog 136 [(sA x_1)] H0 (fun v H' => v = (bA r) ∧ H' = H0) noE := by
  refine id (TCall.body Tryd.func136 rfl rfl ?_)
  have hH : Holds H0 [] H0 := rfl
  refine WpC.seqR ?_
  refine WpOps.pn 1 rfl trivial ?_
  refine WpOps.nil ?_
  refine WpC.seqR ?_
  refine WpOps.pn 4 rfl trivial ?_
  refine WpOps.nil ?_
  obtain rfl := Sh.some_inj h
  refine WpC.ret ?_
  exact VEnds.ret1 rfl rfl ⟨rfl, hH⟩

theorem w_cmp_Less_string {H0 : Heap} {x_1 : List UInt8} {y_1 : List UInt8} {r : Bool} (h : cmp_Less_string x_1 y_1 = some r) : TCall Tryd.prog 121 [(sA x_1), (sA y_1)] H0 (fun v H' => v = (bA r) ∧ H' = H0) noE := by
  refine id (TCall.body Tryd.func121 rfl rfl ?_)
  have hH : Holds H0 [] H0 := rfl
  refine WpC.seqR ?_
  refine WpOps.pn 1 rfl trivial ?_
  refine WpOps.nil ?_
  refine WpC.seqR ?_
  obtain ⟨r_1, hr_1, h⟩ := Sh.bind_some h
  refine WpOps.pn 1 rfl trivial ?_
  refine WpOps.consE (v := (bA r_1)) rfl rfl (Exact.call rfl rfl rfl (w_cmp_isNaN_string hr_1)) ?_
  obtain ⟨b_1, g_1, h⟩ := Sh.bind_some h
  refine WpOps.cutB 5 11 (bA b_1) rfl ?_ ?_
  ·
    refine WpOps.pn 1 rfl trivial ?_
    refine WpOps.split 7 rfl (fun hb => ?_) (fun hb => ?_)
    ·
      replace g_1 := Sh.ite_pos hb g_1
      obtain ⟨r_2, hr_2, g_1⟩ := Sh.bind_some g_1
      refine WpOps.pn 1 rfl trivial ?_
      refine WpOps.consE (v := (bA r_2)) rfl rfl (Exact.call rfl rfl rfl (w_cmp_isNaN_string hr_2)) ?_
      refine WpOps.pn 2 rfl trivial ?_
      refine WpOps.nil ?_
      obtain rfl := Sh.some_inj g_1
      exact ⟨rfl, rfl⟩
    ·
      replace g_1 := Sh.ite_neg hb g_1
      refine WpOps.pn 4 rfl trivial ?_
      refine WpOps.nil ?_
      obtain rfl := Sh.some_inj g_1
      exact ⟨rfl, rfl⟩
  intro env
  obtain ⟨b_2, g_2, h⟩ := Sh.bind_some h
  refine WpOps.cutB 5 16 (bA b_2) rfl ?_ ?_
  ·
    refine WpOps.pn 1 rfl trivial ?_
    refine WpOps.split 12 rfl (fun hb => ?_) (fun hb => ?_)
    ·
      replace g_2 := Sh.ite_pos hb g_2
      refine WpOps.pn 4 rfl trivial ?_
      refine WpOps.nil ?_
      obtain rfl := Sh.some_inj g_2
      exact ⟨rfl, rfl⟩
    ·
      replace g_2 := Sh.ite_neg hb g_2
      refine WpOps.pn 4 rfl trivial ?_
      refine WpOps.nil ?_
      obtain rfl := Sh.some_inj g_2
      exact ⟨rfl, rfl⟩
  intro env
  refine WpOps.pn 1 rfl trivial ?_
  refine WpOps.nil ?_
  obtain rfl := Sh.some_inj h
  refine WpC.ret ?_
  exact VEnds.ret1 rfl rfl ⟨rfl, hH⟩

theorem w_world_Spelled {H0 : Heap} (hG : Glob H0) {fs : List GFile} {r : List (List UInt8)} (h : world_Spelled fs = some r) : TCall Tryd.prog 37 [.rows 2 (fs.map cGFile)] H0 (fun v H' => v = (AV.rows 1 (List.map cS r)) ∧ H' = H0) noE := by
  obtain ⟨hlen, h⟩ := Sh.chk_some h
  obtain ⟨ks, hks, h⟩ := Sh.bind_some h
  obtain ⟨⟨hnd, hroom⟩, h⟩ := Sh.chk_some h
  obtain rfl := Sh.some_inj h
  refine TCall.up (TCall.body Tryd.func37 rfl rfl ?_)
  have hix : ∀ i, (h : i < fs.length) → Sh.ix fs (i : Int) = some fs[i] := fun i h => by rw [Sh.ix_nat]; exact List.getElem?_eq_getElem h
  refine WpC.seqR ?_
  refine WpOps.pn 1 rfl trivial ?_
  refine WpOps.nil ?_
  refine WpC.seqR ?_
  refine WpOps.consG rfl rfl (WpO.makeMap rfl fun g hg => ?_)
  refine WpOps.pn 1 rfl trivial ?_
  refine WpOps.nil ?_
  refine WpC.seq ?_
  refine WpC.seqR ?_
  refine WpOps.pn 2 rfl trivial ?_
  refine WpOps.at 8 (len_map _ _) ?_
  refine WpOps.pn 1 rfl trivial ?_
  refine WpOps.nil ?_
  refine WpC.block ?_
  refine WpC.loop (fun n env H => ∃ (i : Nat) (ks2 : List (List UInt8)), n = fs.length - i ∧ i ≤ fs.length ∧ knows env [(3, .lit (.map (some g))), (7, .rows 2 (fs.map cGFile)), (8, iA fs.length), (9, iA i)] ∧ spelledO i (fs.drop i) ks2 = some ks ∧ H = H0.set g (.map (kv ks2))) _ ⟨0, [], rfl, Nat.zero_le _, ⟨rfl, rfl, rfl, rfl, trivial⟩, by simpa using hks, rfl⟩ ?_
  rintro n env H ⟨i, ks2, rfl, hi, hk, hs, rfl⟩
  rw [← hk.eq]
  refine WpC.seqR ?_
  refine WpOps.pn 1 rfl trivial ?_
  refine WpOps.nil ?_
  refine WpC.seq ?_
  refine WpC.condB rfl (fun hb => ?_) (fun hb => ?_)
  · have hlt : i < fs.length := by simpa using hb
    rw [List.drop_eq_getElem_cons hlt, spelledO] at hs
    obtain ⟨l, hl, hs⟩ := Sh.bind_some hs
    obtain ⟨b1, hs⟩ := Sh.chk_some hs
    generalize hHc : H0.set g (.map (kv ks2)) = Hc
    have hgc : Hc g = some (.map (kv ks2)) := by rw [← hHc]; exact Heap.set_same _ _ _
    have hGH : Glob Hc := hG.le (by rw [← hHc]; exact Heap.le_set (Heap.le_refl _) hg _)
    have hH : Holds Hc [] Hc := rfl
    refine WpC.skip ?_
    refine WpC.seq ?_
    refine WpC.block ?_
    refine WpC.seqR ?_
    refine WpOps.pn 1 rfl trivial ?_
    refine WpOps.consE (v := .rop (cGFile fs[i])) rfl rfl (Exact.ixr cGFile (hix i hlt) rfl rfl rfl rfl (by kernel_rfl) (by decide)) ?_
    refine WpOps.consE (v := .agg (cGFile fs[i])) rfl rfl (Exact.load_rop rfl rfl rfl) ?_
    refine WpOps.consG rfl rfl (WpO.allocT (z := cGFile (GFile.mk [] [])) rfl rfl hH fun g2 H' hH => ?_)
    refine WpOps.pn 1 rfl trivial ?_
    refine WpOps.consG rfl rfl (WpO.putT (cs' := cGFile fs[i]) (v := .agg (cGFile fs[i])) rfl rfl hH (i := 0) rfl rfl rfl rfl rfl rfl rfl fun H' hH => ?_)
    refine WpOps.nil ?_
    refine WpC.ice (t := 5) (i := 0) hH rfl rfl (fun H' hH => ?_)
    obtain rfl : H' = Hc := hH
    refine WpC.region ?_
    refine WpOps.pn 3 rfl trivial ?_
    refine WpOps.consE (v := sA fs[i].text) rfl rfl (Exact.load_rop rfl rfl rfl) ?_
    refine WpOps.consE (v := .rows 6 (l.map cGTok)) rfl rfl (Exact.call rfl rfl rfl (w_pptok_Tokens hGH hl)) ?_
    refine WpOps.consG rfl rfl (WpO.call rfl rfl rfl ((w_words_add b1 hgc).mono (fun v H2 hq => ?_) (fun _ _ h => h.elim)))
    obtain ⟨rfl, rfl⟩ := hq
    refine WpOps.nil ?_
    refine WpC.region ?_
    refine WpOps.pn 2 rfl (show -9223372036854775808 ≤ (i : Int) + 1 ∧ (i : Int) + 1 ≤ 9223372036854775807 from ⟨by omega, by omega⟩) ?_
    refine WpOps.nil ?_
    exact ⟨fs.length - (i + 1), by omega, i + 1, addS ks2 l, rfl, by omega, ⟨rfl, rfl, rfl, rfl, trivial⟩, hs, by rw [← hHc, Heap.set_set]⟩
  · have hge : i = fs.length := by
      have : ¬ ((i : Int) < (fs.length : Int)) := by simpa using hb
      omega
    rw [hge, List.drop_length, spelledO] at hs
    injection hs with hs
    subst hs
    refine WpC.exit ?_
    refine WpC.seqR ?_
    refine WpOps.pn 1 rfl trivial ?_
    refine WpOps.consE (v := .rows 1 ((sortS ks2).map cS)) rfl rfl (Exact.call rfl rfl rfl (w_words_sorted hnd hroom (Heap.set_same _ _ _))) ?_
    refine WpOps.pn 1 rfl trivial ?_
    refine WpOps.nil ?_
    refine WpC.ret ?_
    exact VEnds.ret1 rfl rfl ⟨_, _, Up.drop (Heap.le_set (Heap.le_refl _) hg _) _, rfl, rfl⟩

theorem w_emendref11_Has {H0 : Heap} {l_1 : List (List UInt8)} {name_1 : List UInt8} {r : Bool} (h : emendref11_Has l_1 name_1 = some r) : TCall Tryd.prog 38 [(AV.rows 1 (List.map cS l_1)), (sA name_1)] H0 (fun v H' => v = (bA r) ∧ H' = H0) noE := by
  refine id (TCall.body Tryd.func38 rfl rfl ?_)
  have hH : Holds H0 [] H0 := rfl
  refine WpC.seqR ?_
  refine WpOps.pn 1 rfl trivial ?_
  refine WpOps.nil ?_
  refine WpC.seq ?_
  refine WpC.seqR ?_
  refine WpOps.pn 1 rfl trivial ?_
  refine WpOps.nil ?_
  refine WpC.blockK (fun x : (Unit) × (Unit) => []) (fun x H' => emendref11_Has_j1 x.1 = some r ∧ Holds H0 [] H') ?_ ?_
  ·
    obtain ⟨o_1, ho_1, hk_1⟩ := Sh.bind_some h
    refine WpC.loopS (emendref11_Has_b2 l_1 name_1) (fun (s : Int) (a : Unit) => [(0, (AV.rows 1 (List.map cS l_1))), (1, (sA name_1)), (5, (iA s))]) (fun (s : Int) (a : Unit) H' => Holds H0 [] H') o_1 (0 : Int) () ho_1 ⟨rfl, rfl, rfl, trivial⟩ hH ?_
    rintro i_1 _ st_1 env H' h hd_1 hH
    refine WpC.seq ?_
    refine WpC.seqR ?_
    refine WpOps.pn 3 rfl trivial ?_
    refine WpOps.at 8 (len_map _ _) ?_
    refine WpOps.pn 1 rfl trivial ?_
    refine WpOps.nil ?_
    refine WpC.condB rfl (fun hb => ?_) (fun hb => ?_)
    ·
      replace h := Sh.ite_pos hb h
      refine WpC.skipD ?_
      refine ⟨_, Heap.le_refl _, ?_⟩
      refine WpC.seq ?_
      refine WpC.block ?_
      refine WpC.seqR ?_
      obtain ⟨y_1, hy_1, h⟩ := Sh.bind_some h
      refine WpOps.pn 2 rfl trivial ?_
      refine WpOps.consE (v := (.rop (cS y_1))) rfl rfl (Exact.ixr cS hy_1 rfl rfl rfl rfl (by kernel_rfl) (by decide)) ?_
      refine WpOps.consE (v := (sA y_1)) rfl rfl (Exact.load_rop rfl rfl rfl) ?_
      refine WpOps.pn 2 rfl trivial ?_
      refine WpOps.nil ?_
      refine WpC.condB rfl (fun hb => ?_) (fun hb => ?_)
      ·
        replace h := Sh.ite_pos hb h
        refine WpC.seqR ?_
        refine WpOps.pn 1 rfl trivial ?_
        refine WpOps.nil ?_
        obtain rfl := Sh.some_inj h
        have e := hd_1 _ rfl
        subst e
        have h := hk_1
        obtain rfl := Sh.some_inj h
        refine WpC.ret ?_
        exact VEnds.ret1 rfl rfl ⟨rfl, hH⟩
      ·
        replace h := Sh.ite_neg hb h
        refine WpC.skipD ?_
        refine ⟨_, Heap.le_refl _, ?_⟩
        refine WpC.regionD ?_
        obtain ⟨c_1, h⟩ := Sh.chk_some h
        refine WpOps.pn 3 rfl c_1 ?_
        refine WpOps.nil ?_
        obtain rfl := Sh.some_inj h
        exact ⟨_, (Heap.le_refl _), (i_1 + (1 : Int)), (), rfl, ⟨rfl, rfl, rfl, trivial⟩, hH⟩
    ·
      replace h := Sh.ite_neg hb h
      obtain rfl := Sh.some_inj h
      have e := hd_1 _ rfl
      subst e
      refine WpC.exit ?_
      exact ⟨((), ()), trivial, hk_1, hH⟩
  ·
    rintro ⟨_, _⟩ env H' ⟨h, hH⟩
    try dsimp only at h
    refine ⟨_, Heap.le_refl _, ?_⟩
    refine WpC.seqR ?_
    refine WpOps.pn 1 rfl trivial ?_
    refine WpOps.nil ?_
    obtain rfl := Sh.some_inj h
    refine WpC.ret ?_
    exact VEnds.ret1 rfl rfl ⟨rfl, hH⟩

theorem w_emendlaw19_SitesSpelled {H0 : Heap} (hG : Glob H0) {files_1 : List GFile} {name_1 : List UInt8} {r : Bool} (h : emendlaw19_SitesSpelled files_1 name_1 = some r) : TCall Tryd.prog 12 [(AV.rows 2 (List.map cGFile files_1)), (sA name_1)] H0 (fun v H' => v = (bA r) ∧ H' = H0) noE := by
  refine id (TCall.body Tryd.func12 rfl rfl ?_)
  have hH : Holds H0 [] H0 := rfl
  refine WpC.seqR ?_
  refine WpOps.pn 1 rfl trivial ?_
  refine WpOps.nil ?_
  refine WpC.seqR ?_
  obtain ⟨r_1, hr_1, h⟩ := Sh.bind_some h
  refine WpOps.consE (v := (bA r_1)) rfl rfl (Exact.call rfl rfl rfl (w_emendlaw19_awake (hG.up hH) hr_1)) ?_
  refine WpOps.pn 1 rfl trivial ?_
  refine WpOps.nil ?_
  refine WpC.seqR ?_
  obtain ⟨r_2, hr_2, h⟩ := Sh.bind_some h
  refine WpOps.pn 1 rfl trivial ?_
  refine WpOps.consE (v := (bA r_2)) rfl rfl (Exact.call rfl rfl rfl (w_emendref11_Short hr_2)) ?_
  refine WpOps.pn 1 rfl trivial ?_
  refine WpOps.nil ?_
  refine WpC.seq ?_
  refine WpC.seqR ?_
  refine WpOps.pn 2 rfl trivial ?_
  obtain ⟨b_1, g_1, h⟩ := Sh.bind_some h
  refine WpOps.cutB 5 23 (bA b_1) rfl ?_ ?_
  ·
    refine WpOps.pn 1 rfl trivial ?_
    refine WpOps.split 19 rfl (fun hb => ?_) (fun hb => ?_)
    ·
      replace g_1 := Sh.ite_pos hb g_1
      refine WpOps.pn 4 rfl trivial ?_
      refine WpOps.nil ?_
      obtain rfl := Sh.some_inj g_1
      exact ⟨rfl, rfl⟩
    ·
      replace g_1 := Sh.ite_neg hb g_1
      refine WpOps.pn 2 rfl trivial ?_
      refine WpOps.at 21 (len_map _ _) ?_
      refine WpOps.pn 2 rfl trivial ?_
      refine WpOps.nil ?_
      obtain rfl := Sh.some_inj g_1
      exact ⟨rfl, rfl⟩
  intro env
  refine WpOps.nil ?_
  refine WpC.condB rfl (fun hb => ?_) (fun hb => ?_)
  ·
    replace h := Sh.ite_pos hb h
    refine WpC.seqR ?_
    refine WpOps.pn 2 rfl trivial ?_
    refine WpOps.nil ?_
    obtain rfl := Sh.some_inj h
    refine WpC.ret ?_
    exact VEnds.ret1 rfl rfl ⟨rfl, hH⟩
  ·
    replace h := Sh.ite_neg hb h
    refine WpC.skipD ?_
    refine ⟨_, Heap.le_refl _, ?_⟩
    refine WpC.seqR ?_
    obtain ⟨r_3, hr_3, h⟩ := Sh.bind_some h
    refine WpOps.pn 2 rfl trivial ?_
    refine WpOps.consE (v := (AV.rows 5 (List.map cGSite r_3))) rfl rfl (Exact.call rfl rfl rfl (w_sites_Find (hG.up hH) hr_3)) ?_
    refine WpOps.pn 1 rfl trivial ?_
    refine WpOps.nil ?_
    refine WpC.seq ?_
    refine WpC.seqR ?_
    refine WpOps.pn 1 rfl trivial ?_
    refine WpOps.nil ?_
    refine WpC.blockK (fun x : (Unit) × (Unit) => [(0, (AV.rows 2 (List.map cGFile files_1))), (1, (sA name_1)), (5, (bA r_1)), (7, (AV.rows 5 (List.map cGSite r_3)))]) (fun x H' => (emendlaw19_SitesSpelled_j1 files_1 name_1 r_1 r_3) x.1 = some r ∧ Holds H0 [] H') ?_ ?_
    ·
      obtain ⟨o_1, ho_1, hk_1⟩ := Sh.bind_some h
      refine WpC.loopS (emendlaw19_SitesSpelled_b2 files_1 name_1 r_3) (fun (s : Int) (a : Unit) => [(0, (AV.rows 2 (List.map cGFile files_1))), (1, (sA name_1)), (5, (bA r_1)), (7, (AV.rows 5 (List.map cGSite r_3))), (8, (iA s))]) (fun (s : Int) (a : Unit) H' => Holds H0 [] H') o_1 (0 : Int) () ho_1 ⟨rfl, rfl, rfl, rfl, rfl, trivial⟩ hH ?_
      rintro i_1 _ st_1 env H' h hd_1 hH
      refine WpC.seq ?_
      refine WpC.seqR ?_
      refine WpOps.pn 3 rfl trivial ?_
      refine WpOps.at 30 (len_map _ _) ?_
      refine WpOps.pn 1 rfl trivial ?_
      refine WpOps.nil ?_
      refine WpC.condB rfl (fun hb => ?_) (fun hb => ?_)
      ·
        replace h := Sh.ite_pos hb h
        refine WpC.skipD ?_
        refine ⟨_, Heap.le_refl _, ?_⟩
        refine WpC.seq ?_
        refine WpC.block ?_
        refine WpC.seqR ?_
        obtain ⟨y_1, hy_1, h⟩ := Sh.bind_some h
        refine WpOps.pn 3 rfl trivial ?_
        refine WpOps.consE (v := (.rop (cGSite y_1))) rfl rfl (Exact.ixr cGSite hy_1 rfl rfl rfl rfl (by kernel_rfl) (by decide)) ?_
        refine WpOps.consE (v := (AV.agg (cGSite y_1))) rfl rfl (Exact.load_rop rfl rfl rfl) ?_
        obtain ⟨r_4, hr_4, h⟩ := Sh.bind_some h
        refine WpOps.consE (v := (.tup [(sA r_4.1), (iA r_4.2)])) rfl rfl (Exact.call rfl rfl rfl (w_sites_Spelling hr_4)) ?_
        refine WpOps.pn 5 rfl trivial ?_
        refine WpOps.nil ?_
        refine WpC.seqR ?_
        obtain ⟨r_5, hr_5, h⟩ := Sh.bind_some h
        refine WpOps.pn 1 rfl trivial ?_
        refine WpOps.consE (v := (AV.rows 2 (List.map cGChar r_5))) rfl rfl (Exact.call rfl rfl rfl (w_emendref02_Join hr_5)) ?_
        obtain ⟨r_6, hr_6, h⟩ := Sh.bind_some h
        refine WpOps.consE (v := (sA r_6)) rfl rfl (Exact.call rfl rfl rfl (w_emendref02_Text hr_6)) ?_
        refine WpOps.pn 1 rfl trivial ?_
        refine WpOps.nil ?_
        refine WpC.seq ?_
        refine WpC.seqR ?_
        refine WpOps.pn 2 rfl trivial ?_
        obtain ⟨b_2, g_2, h⟩ := Sh.bind_some h
        refine WpOps.cutB 5 52 (bA b_2) rfl ?_ ?_
        ·
          refine WpOps.pn 1 rfl trivial ?_
          refine WpOps.split 48 rfl (fun hb => ?_) (fun hb => ?_)
          ·
            replace g_2 := Sh.ite_pos hb g_2
            refine WpOps.pn 4 rfl trivial ?_
            refine WpOps.nil ?_
            obtain rfl := Sh.some_inj g_2
            exact ⟨rfl, rfl⟩
          ·
            replace g_2 := Sh.ite_neg hb g_2
            refine WpOps.pn 4 rfl trivial ?_
            refine WpOps.nil ?_
            obtain rfl := Sh.some_inj g_2
            exact ⟨rfl, rfl⟩
        intro env
        refine WpOps.nil ?_
        refine WpC.condB rfl (fun hb => ?_) (fun hb => ?_)
        ·
          replace h := Sh.ite_pos hb h
          refine WpC.seqR ?_
          refine WpOps.pn 1 rfl trivial ?_
          refine WpOps.nil ?_
          obtain rfl := Sh.some_inj h
          have e := hd_1 _ rfl
          subst e
          have h := hk_1
          obtain rfl := Sh.some_inj h
          refine WpC.ret ?_
          exact VEnds.ret1 rfl rfl ⟨rfl, hH⟩
        ·
          replace h := Sh.ite_neg hb h
          refine WpC.skipD ?_
          refine ⟨_, Heap.le_refl _, ?_⟩
          refine WpC.seqD [] [0, 1, 2, 3, 4, 5, 6, 7, 8, 9, 10, 11, 12, 13, 14, 15, 16, 17, 18, 19, 20, 21, 22, 23, 24, 25, 26, 27, 28, 29, 30, 31, 32, 33, 34, 35, 36, 37, 38, 39, 40, 41, 42, 43, 44, 45, 46, 47, 48, 49, 50, 51, 52, 53, 54, 55, 56, 57] (by kernel_rfl) (by kernel_rfl) ?_
          refine WpPi.pn 2 rfl trivial ?_
          obtain ⟨b_3, g_3, h⟩ := Sh.bind_some h
          refine WpPi.cutB 56 110 (bA b_3) rfl ?_ ?_
          ·
            refine WpPi.pn 1 rfl trivial ?_
            refine WpPi.split 55 rfl (fun hb => ?_) (fun hb => ?_)
            ·
              replace g_3 := Sh.ite_pos hb g_3
              obtain ⟨y_2, hy_2, g_3⟩ := Sh.bind_some g_3
              refine WpPi.pn 2 rfl trivial ?_
              refine WpPi.consI (v := (.rop (cGSite y_2))) rfl rfl rfl rfl (fun _ => Exact.ixr cGSite hy_2 rfl rfl rfl rfl (by kernel_rfl) (by decide)) ?_
              refine WpPi.pn 1 rfl trivial ?_
              refine WpPi.consI (v := (iA y_2.file_)) rfl rfl rfl rfl (fun _ => Exact.load_rop rfl rfl rfl) ?_
              obtain ⟨c_1, g_3⟩ := Sh.chk_some g_3
              obtain ⟨y_3, hy_3, g_3⟩ := Sh.bind_some g_3
              refine WpPi.pn 3 rfl c_1 ?_
              refine WpPi.consI (v := (.rop (cGSite y_3))) rfl rfl rfl rfl (fun _ => Exact.ixr cGSite hy_3 rfl rfl rfl rfl (by kernel_rfl) (by decide)) ?_
              refine WpPi.pn 1 rfl trivial ?_
              refine WpPi.consI (v := (iA y_3.file_)) rfl rfl rfl rfl (fun _ => Exact.load_rop rfl rfl rfl) ?_
              refine WpPi.pn 1 rfl trivial ?_
              obtain ⟨b_4, g_4, g_3⟩ := Sh.bind_some g_3
              refine WpPi.cutB 42 109 (bA b_4) rfl ?_ ?_
              ·
                refine WpPi.pn 1 rfl trivial ?_
                refine WpPi.split 68 rfl (fun hb => ?_) (fun hb => ?_)
                ·
                  replace g_4 := Sh.ite_pos hb g_4
                  refine WpPi.pn 2 rfl trivial ?_
                  refine WpPi.skip rfl rfl rfl ?_
                  refine WpPi.pn 1 rfl trivial ?_
                  refine WpPi.skip rfl rfl rfl ?_
                  refine WpPi.pn 3 rfl trivial ?_
                  refine WpPi.skip rfl rfl rfl ?_
                  refine WpPi.pn 1 rfl trivial ?_
                  refine WpPi.skip rfl rfl rfl ?_
                  refine WpPi.pn 4 rfl trivial ?_
                  refine WpPi.skip rfl rfl rfl ?_
                  refine WpPi.pn 1 rfl trivial ?_
                  refine WpPi.skip rfl rfl rfl ?_
                  refine WpPi.pn 3 rfl trivial ?_
                  refine WpPi.skip rfl rfl rfl ?_
                  refine WpPi.pn 1 rfl trivial ?_
                  refine WpPi.skip rfl rfl rfl ?_
                  refine WpPi.pn 4 rfl trivial ?_
                  refine WpPi.skip rfl rfl rfl ?_
                  refine WpPi.pn 1 rfl trivial ?_
                  refine WpPi.skip rfl rfl rfl ?_
                  refine WpPi.pn 3 rfl trivial ?_
                  refine WpPi.skip rfl rfl rfl ?_
                  refine WpPi.pn 1 rfl trivial ?_
                  refine WpPi.skip rfl rfl rfl ?_
                  refine WpPi.pn 4 rfl trivial ?_
                  refine WpPi.nil ?_
                  obtain rfl := Sh.some_inj g_4
                  exact ⟨rfl, rfl⟩
                ·
                  replace g_4 := Sh.ite_neg hb g_4
                  obtain ⟨y_4, hy_4, g_4⟩ := Sh.bind_some g_4
                  refine WpPi.pn 2 rfl trivial ?_
                  refine WpPi.consI (v := (.rop (cGSite y_4))) rfl rfl rfl rfl (fun _ => Exact.ixr cGSite hy_4 rfl rfl rfl rfl (by kernel_rfl) (by decide)) ?_
                  refine WpPi.pn 1 rfl trivial ?_
                  refine WpPi.consI (v := (iA y_4.file_)) rfl rfl rfl rfl (fun _ => Exact.load_rop rfl rfl rfl) ?_
                  obtain ⟨c_2, g_4⟩ := Sh.chk_some g_4
                  obtain ⟨y_5, hy_5, g_4⟩ := Sh.bind_some g_4
                  refine WpPi.pn 3 rfl c_2 ?_
                  refine WpPi.consI (v := (.rop (cGSite y_5))) rfl rfl rfl rfl (fun _ => Exact.ixr cGSite hy_5 rfl rfl rfl rfl (by kernel_rfl) (by decide)) ?_
                  refine WpPi.pn 1 rfl trivial ?_
                  refine WpPi.consI (v := (iA y_5.file_)) rfl rfl rfl rfl (fun _ => Exact.load_rop rfl rfl rfl) ?_
                  refine WpPi.pn 1 rfl trivial ?_
                  obtain ⟨b_5, g_5, g_4⟩ := Sh.bind_some g_4
                  refine WpPi.cutB 28 108 (bA b_5) rfl ?_ ?_
                  ·
                    refine WpPi.pn 1 rfl trivial ?_
                    refine WpPi.split 81 rfl (fun hb => ?_) (fun hb => ?_)
                    ·
                      replace g_5 := Sh.ite_pos hb g_5
                      obtain ⟨y_6, hy_6, g_5⟩ := Sh.bind_some g_5
                      refine WpPi.pn 2 rfl trivial ?_
                      refine WpPi.consI (v := (.rop (cGSite y_6))) rfl rfl rfl rfl (fun _ => Exact.ixr cGSite hy_6 rfl rfl rfl rfl (by kernel_rfl) (by decide)) ?_
                      refine WpPi.pn 1 rfl trivial ?_
                      refine WpPi.consI (v := (iA y_6.from_)) rfl rfl rfl rfl (fun _ => Exact.load_rop rfl rfl rfl) ?_
                      obtain ⟨c_3, g_5⟩ := Sh.chk_some g_5
                      obtain ⟨y_7, hy_7, g_5⟩ := Sh.bind_some g_5
                      refine WpPi.pn 3 rfl c_3 ?_
                      refine WpPi.consI (v := (.rop (cGSite y_7))) rfl rfl rfl rfl (fun _ => Exact.ixr cGSite hy_7 rfl rfl rfl rfl (by kernel_rfl) (by decide)) ?_
                      refine WpPi.pn 1 rfl trivial ?_
                      refine WpPi.consI (v := (iA y_7.to)) rfl rfl rfl rfl (fun _ => Exact.load_rop rfl rfl rfl) ?_
                      refine WpPi.pn 1 rfl trivial ?_
                      obtain ⟨b_6, g_6, g_5⟩ := Sh.bind_some g_5
                      refine WpPi.cutB 14 107 (bA b_6) rfl ?_ ?_
                      ·
                        refine WpPi.pn 1 rfl trivial ?_
                        refine WpPi.split 94 rfl (fun hb => ?_) (fun hb => ?_)
                        ·
                          replace g_6 := Sh.ite_pos hb g_6
                          refine WpPi.pn 2 rfl trivial ?_
                          refine WpPi.skip rfl rfl rfl ?_
                          refine WpPi.pn 1 rfl trivial ?_
                          refine WpPi.skip rfl rfl rfl ?_
                          refine WpPi.pn 3 rfl trivial ?_
                          refine WpPi.skip rfl rfl rfl ?_
                          refine WpPi.pn 1 rfl trivial ?_
                          refine WpPi.skip rfl rfl rfl ?_
                          refine WpPi.pn 2 rfl trivial ?_
                          refine WpPi.nil ?_
                          obtain rfl := Sh.some_inj g_6
                          exact ⟨rfl, rfl⟩
                        ·
                          replace g_6 := Sh.ite_neg hb g_6
                          obtain ⟨y_8, hy_8, g_6⟩ := Sh.bind_some g_6
                          refine WpPi.pn 2 rfl trivial ?_
                          refine WpPi.consI (v := (.rop (cGSite y_8))) rfl rfl rfl rfl (fun _ => Exact.ixr cGSite hy_8 rfl rfl rfl rfl (by kernel_rfl) (by decide)) ?_
                          refine WpPi.pn 1 rfl trivial ?_
                          refine WpPi.consI (v := (iA y_8.line_)) rfl rfl rfl rfl (fun _ => Exact.load_rop rfl rfl rfl) ?_
                          obtain ⟨c_4, g_6⟩ := Sh.chk_some g_6
                          obtain ⟨y_9, hy_9, g_6⟩ := Sh.bind_some g_6
                          refine WpPi.pn 3 rfl c_4 ?_
                          refine WpPi.consI (v := (.rop (cGSite y_9))) rfl rfl rfl rfl (fun _ => Exact.ixr cGSite hy_9 rfl rfl rfl rfl (by kernel_rfl) (by decide)) ?_
                          refine WpPi.pn 1 rfl trivial ?_
                          refine WpPi.consI (v := (iA y_9.line_)) rfl rfl rfl rfl (fun _ => Exact.load_rop rfl rfl rfl) ?_
                          refine WpPi.pn 2 rfl trivial ?_
                          refine WpPi.nil ?_
                          obtain rfl := Sh.some_inj g_6
                          exact ⟨rfl, rfl⟩
                      intro env
                      refine WpPi.pn 1 rfl trivial ?_
                      refine WpPi.nil ?_
                      obtain rfl := Sh.some_inj g_5
                      exact ⟨rfl, rfl⟩
                    ·
                      replace g_5 := Sh.ite_neg hb g_5
                      refine WpPi.pn 2 rfl trivial ?_
                      refine WpPi.skip rfl rfl rfl ?_
                      refine WpPi.pn 1 rfl trivial ?_
                      refine WpPi.skip rfl rfl rfl ?_
                      refine WpPi.pn 3 rfl trivial ?_
                      refine WpPi.skip rfl rfl rfl ?_
                      refine WpPi.pn 1 rfl trivial ?_
                      refine WpPi.skip rfl rfl rfl ?_
                      refine WpPi.pn 4 rfl trivial ?_
                      refine WpPi.skip rfl rfl rfl ?_
                      refine WpPi.pn 1 rfl trivial ?_
                      refine WpPi.skip rfl rfl rfl ?_
                      refine WpPi.pn 3 rfl trivial ?_
                      refine WpPi.skip rfl rfl rfl ?_
                      refine WpPi.pn 1 rfl trivial ?_
                      refine WpPi.skip rfl rfl rfl ?_
                      refine WpPi.pn 3 rfl trivial ?_
                      refine WpPi.nil ?_
                      obtain rfl := Sh.some_inj g_5
                      exact ⟨rfl, rfl⟩
                  intro env
                  refine WpPi.pn 1 rfl trivial ?_
                  refine WpPi.nil ?_
                  obtain rfl := Sh.some_inj g_4
                  exact ⟨rfl, rfl⟩
              intro env
              refine WpPi.pn 1 rfl trivial ?_
              refine WpPi.nil ?_
              obtain rfl := Sh.some_inj g_3
              exact ⟨rfl, rfl⟩
            ·
              replace g_3 := Sh.ite_neg hb g_3
              refine WpPi.pn 2 rfl trivial ?_
              refine WpPi.skip rfl rfl rfl ?_
              refine WpPi.pn 1 rfl trivial ?_
              refine WpPi.skip rfl rfl rfl ?_
              refine WpPi.pn 3 rfl trivial ?_
              refine WpPi.skip rfl rfl rfl ?_
              refine WpPi.pn 1 rfl trivial ?_
              refine WpPi.skip rfl rfl rfl ?_
              refine WpPi.pn 4 rfl trivial ?_
              refine WpPi.skip rfl rfl rfl ?_
              refine WpPi.pn 1 rfl trivial ?_
              refine WpPi.skip rfl rfl rfl ?_
              refine WpPi.pn 3 rfl trivial ?_
              refine WpPi.skip rfl rfl rfl ?_
              refine WpPi.pn 1 rfl trivial ?_
              refine WpPi.skip rfl rfl rfl ?_
              refine WpPi.pn 4 rfl trivial ?_
              refine WpPi.skip rfl rfl rfl ?_
              refine WpPi.pn 1 rfl trivial ?_
              refine WpPi.skip rfl rfl rfl ?_
              refine WpPi.pn 3 rfl trivial ?_
              refine WpPi.skip rfl rfl rfl ?_
              refine WpPi.pn 1 rfl trivial ?_
              refine WpPi.skip rfl rfl rfl ?_
              refine WpPi.pn 4 rfl trivial ?_
              refine WpPi.skip rfl rfl rfl ?_
              refine WpPi.pn 1 rfl trivial ?_
              refine WpPi.skip rfl rfl rfl ?_
              refine WpPi.pn 3 rfl trivial ?_
              refine WpPi.skip rfl rfl rfl ?_
              refine WpPi.pn 1 rfl trivial ?_
              refine WpPi.skip rfl rfl rfl ?_
              refine WpPi.pn 5 rfl trivial ?_
              refine WpPi.nil ?_
              obtain rfl := Sh.some_inj g_3
              exact ⟨rfl, rfl⟩
          intro env
          refine WpPi.nil ?_
          refine WpC.condB rfl (fun hb => ?_) (fun hb => ?_)
          ·
            replace h := Sh.ite_pos hb h
            refine WpC.seqR ?_
            refine WpOps.pn 1 rfl trivial ?_
            refine WpOps.nil ?_
            obtain rfl := Sh.some_inj h
            have e := hd_1 _ rfl
            subst e
            have h := hk_1
            obtain rfl := Sh.some_inj h
            refine WpC.ret ?_
            exact VEnds.ret1 rfl rfl ⟨rfl, hH⟩
          ·
            replace h := Sh.ite_neg hb h
            refine WpC.skipD ?_
            refine ⟨_, Heap.le_refl _, ?_⟩
            refine WpC.regionD ?_
            obtain ⟨c_5, h⟩ := Sh.chk_some h
            refine WpOps.pn 3 rfl c_5 ?_
            refine WpOps.nil ?_
            obtain rfl := Sh.some_inj h
            exact ⟨_, (Heap.le_refl _), (i_1 + (1 : Int)), (), rfl, ⟨rfl, rfl, rfl, rfl, rfl, trivial⟩, hH⟩
      ·
        replace h := Sh.ite_neg hb h
        obtain rfl := Sh.some_inj h
        have e := hd_1 _ rfl
        subst e
        refine WpC.exit ?_
        exact ⟨((), ()), ⟨rfl, rfl, rfl, rfl, trivial⟩, hk_1, hH⟩
    ·
      rintro ⟨_, _⟩ env H' ⟨h, hH⟩
      try dsimp only at h
      refine ⟨_, Heap.le_refl _, ?_⟩
      refine WpC.seqR ?_
      obtain ⟨r_7, hr_7, h⟩ := Sh.bind_some h
      refine WpOps.pn 1 rfl trivial ?_
      refine WpOps.consE (v := (AV.rows 1 (List.map cS r_7))) rfl rfl (Exact.call rfl rfl rfl (w_world_Spelled (hG.up hH) hr_7)) ?_
      refine WpOps.pn 1 rfl trivial ?_
      refine WpOps.nil ?_
      refine WpC.seqR ?_
      obtain ⟨r_8, hr_8, h⟩ := Sh.bind_some h
      refine WpOps.pn 2 rfl trivial ?_
      refine WpOps.consE (v := (bA r_8)) rfl rfl (Exact.call rfl rfl rfl (w_emendref11_Has hr_8)) ?_
      refine WpOps.pn 1 rfl trivial ?_
      refine WpOps.nil ?_
      refine WpC.seqR ?_
      refine WpOps.pn 1 rfl trivial ?_
      obtain ⟨b_7, g_7, h⟩ := Sh.bind_some h
      refine WpOps.cutB 7 123 (bA b_7) rfl ?_ ?_
      ·
        refine WpOps.pn 1 rfl trivial ?_
        refine WpOps.split 117 rfl (fun hb => ?_) (fun hb => ?_)
        ·
          replace g_7 := Sh.ite_pos hb g_7
          refine WpOps.pn 3 rfl trivial ?_
          refine WpOps.at 120 (len_map _ _) ?_
          refine WpOps.pn 3 rfl trivial ?_
          refine WpOps.nil ?_
          obtain rfl := Sh.some_inj g_7
          exact ⟨rfl, rfl⟩
        ·
          replace g_7 := Sh.ite_neg hb g_7
          refine WpOps.pn 6 rfl trivial ?_
          refine WpOps.nil ?_
          obtain rfl := Sh.some_inj g_7
          exact ⟨rfl, rfl⟩
      intro env
      refine WpOps.pn 1 rfl trivial ?_
      refine WpOps.nil ?_
      obtain rfl := Sh.some_inj h
      refine WpC.ret ?_
      exact VEnds.ret1 rfl rfl ⟨rfl, hH⟩

theorem w_emendlaw19_SitesAll {H0 : Heap} (hG : Glob H0) {text_1 : List UInt8} {r : Bool} (h : emendlaw19_SitesAll text_1 = some r) : TCall Tryd.prog 13 [(sA text_1)] H0 (fun v H' => v = (bA r) ∧ H' = H0) noE := by
  refine id (TCall.body Tryd.func13 rfl rfl ?_)
  have hH : Holds H0 [] H0 := rfl
  refine WpC.seqR ?_
  refine WpOps.pn 1 rfl trivial ?_
  refine WpOps.nil ?_
  refine WpC.seqR ?_
  obtain ⟨r_1, hr_1, h⟩ := Sh.bind_some h
  refine WpOps.consE (v := (bA r_1)) rfl rfl (Exact.call rfl rfl rfl (w_emendlaw19_awake (hG.up hH) hr_1)) ?_
  refine WpOps.pn 1 rfl trivial ?_
  refine WpOps.nil ?_
  refine WpC.seq ?_
  refine WpC.seqR ?_
  refine WpOps.pn 3 rfl trivial ?_
  refine WpOps.nil ?_
  refine WpC.condB rfl (fun hb => ?_) (fun hb => ?_)
  ·
    replace h := Sh.ite_pos hb h
    refine WpC.seqR ?_
    refine WpOps.pn 2 rfl trivial ?_
    refine WpOps.nil ?_
    obtain rfl := Sh.some_inj h
    refine WpC.ret ?_
    exact VEnds.ret1 rfl rfl ⟨rfl, hH⟩
  ·
    replace h := Sh.ite_neg hb h
    refine WpC.skipD ?_
    refine ⟨_, Heap.le_refl _, ?_⟩
    refine WpC.seqR ?_
    refine WpOps.pn 2 rfl trivial ?_
    refine WpOps.consE (v := (AV.rows 2 (List.map cGFile ([(GFile.mk ([109] : List UInt8) text_1)] : List GFile)))) rfl rfl (Exact.litSlice rfl (by kernel_rfl)) ?_
    refine WpOps.pn 1 rfl trivial ?_
    refine WpOps.nil ?_
    refine WpC.seqR ?_
    obtain ⟨r_2, hr_2, h⟩ := Sh.bind_some h
    refine WpOps.pn 1 rfl trivial ?_
    refine WpOps.consE (v := (AV.rows 1 (List.map cS r_2))) rfl rfl (Exact.call rfl rfl rfl (w_world_Spelled (hG.up hH) hr_2)) ?_
    refine WpOps.pn 1 rfl trivial ?_
    refine WpOps.nil ?_
    refine WpC.seqR ?_
    refine WpOps.pn 1 rfl trivial ?_
    refine WpOps.nil ?_
    refine WpC.seq ?_
    refine WpC.seqR ?_
    refine WpOps.pn 1 rfl trivial ?_
    refine WpOps.nil ?_
    refine WpC.blockK (fun x : (Int) × (Unit) => [(0, (sA text_1)), (3, (bA r_1)), (6, (iA x.1))]) (fun x H' => (emendlaw19_SitesAll_j1 text_1 r_1) x.1 = some r ∧ Holds H0 [] H') ?_ ?_
    ·
      obtain ⟨o_1, ho_1, hk_1⟩ := Sh.bind_some h
      refine WpC.loopS (emendlaw19_SitesAll_b2 text_1 r_2) (fun (s : Int × Int) (a : Unit) => [(0, (sA text_1)), (3, (bA r_1)), (4, (AV.rows 2 (List.map cGFile ([(GFile.mk ([109] : List UInt8) text_1)] : List GFile)))), (5, (AV.rows 1 (List.map cS r_2))), (6, (iA s.1)), (7, (iA s.2))]) (fun (s : Int × Int) (a : Unit) H' => Holds H0 [] H') o_1 ((0 : Int), (0 : Int)) () ho_1 ⟨rfl, rfl, rfl, rfl, rfl, rfl, trivial⟩ hH ?_
      rintro ⟨many_1, i_1⟩ _ st_1 env H' h hd_1 hH
      refine WpC.seq ?_
      refine WpC.seqR ?_
      refine WpOps.pn 3 rfl trivial ?_
      refine WpOps.at 24 (len_map _ _) ?_
      refine WpOps.pn 1 rfl trivial ?_
      refine WpOps.nil ?_
      refine WpC.condB rfl (fun hb => ?_) (fun hb => ?_)
      ·
        replace h := Sh.ite_pos hb h
        refine WpC.skipD ?_
        refine ⟨_, Heap.le_refl _, ?_⟩
        refine WpC.seq ?_
        refine WpC.block ?_
        refine WpC.seqR ?_
        obtain ⟨y_1, hy_1, h⟩ := Sh.bind_some h
        refine WpOps.pn 3 rfl trivial ?_
        refine WpOps.consE (v := (.rop (cS y_1))) rfl rfl (Exact.ixr cS hy_1 rfl rfl rfl rfl (by kernel_rfl) (by decide)) ?_
        refine WpOps.consE (v := (sA y_1)) rfl rfl (Exact.load_rop rfl rfl rfl) ?_
        obtain ⟨r_3, hr_3, h⟩ := Sh.bind_some h
        refine WpOps.consE (v := (AV.rows 5 (List.map cGSite r_3))) rfl rfl (Exact.call rfl rfl rfl (w_sites_Find (hG.up hH) hr_3)) ?_
        refine WpOps.pn 1 rfl trivial ?_
        refine WpOps.nil ?_
        refine WpC.regionD ?_
        refine WpOps.pn 3 rfl trivial ?_
        refine WpOps.at 36 (len_map _ _) ?_
        obtain ⟨c_1, h⟩ := Sh.chk_some h
        refine WpOps.pn 2 rfl c_1 ?_
        refine WpOps.nil ?_
        refine ⟨_, Heap.le_refl _, ?_⟩
        refine WpC.regionD ?_
        obtain ⟨c_2, h⟩ := Sh.chk_some h
        refine WpOps.pn 3 rfl c_2 ?_
        refine WpOps.nil ?_
        obtain rfl := Sh.some_inj h
        exact ⟨_, (Heap.le_refl _), ((many_1 + (r_3.length : Int)), (i_1 + (1 : Int))), (), rfl, ⟨rfl, rfl, rfl, rfl, rfl, rfl, trivial⟩, hH⟩
      ·
        replace h := Sh.ite_neg hb h
        obtain rfl := Sh.some_inj h
        have e := hd_1 _ rfl
        subst e
        refine WpC.exit ?_
        exact ⟨(many_1, ()), ⟨rfl, rfl, rfl, trivial⟩, hk_1, hH⟩
    ·
      rintro ⟨many_2, _⟩ env H' ⟨h, hH⟩
      try dsimp only at h
      refine ⟨_, Heap.le_refl _, ?_⟩
      refine WpC.seqR ?_
      refine WpOps.pn 1 rfl trivial ?_
      refine WpOps.nil ?_
      refine WpC.seqR ?_
      obtain ⟨r_4, hr_4, h⟩ := Sh.bind_some h
      refine WpOps.pn 1 rfl trivial ?_
      refine WpOps.consE (v := (AV.rows 6 (List.map cGTok r_4))) rfl rfl (Exact.call rfl rfl rfl (w_pptok_Tokens (hG.up hH) hr_4)) ?_
      refine WpOps.pn 1 rfl trivial ?_
      refine WpOps.nil ?_
      refine WpC.seq ?_
      refine WpC.seqR ?_
      refine WpOps.pn 1 rfl trivial ?_
      refine WpOps.nil ?_
      refine WpC.blockK (fun x : (Int) × (Unit) => [(3, (bA r_1)), (6, (iA many_2)), (9, (iA x.1))]) (fun x H' => (emendlaw19_SitesAll_j3 r_1 many_2) x.1 = some r ∧ Holds H0 [] H') ?_ ?_
      ·
        obtain ⟨o_2, ho_2, hk_2⟩ := Sh.bind_some h
        refine WpC.loopS (emendlaw19_SitesAll_b4 r_4) (fun (s : Int × Int) (a : Unit) => [(3, (bA r_1)), (6, (iA many_2)), (9, (iA s.1)), (10, (AV.rows 6 (List.map cGTok r_4))), (11, (iA s.2))]) (fun (s : Int × Int) (a : Unit) H' => Holds H0 [] H') o_2 ((0 : Int), (0 : Int)) () ho_2 ⟨rfl, rfl, rfl, rfl, rfl, trivial⟩ hH ?_
        rintro ⟨idents_1, i_2⟩ _ st_2 env H' h hd_2 hH
        refine WpC.seq ?_
        refine WpC.seqR ?_
        refine WpOps.pn 3 rfl trivial ?_
        refine WpOps.at 42 (len_map _ _) ?_
        refine WpOps.pn 1 rfl trivial ?_
        refine WpOps.nil ?_
        refine WpC.condB rfl (fun hb => ?_) (fun hb => ?_)
        ·
          replace h := Sh.ite_pos hb h
          refine WpC.skipD ?_
          refine ⟨_, Heap.le_refl _, ?_⟩
          refine WpC.seq ?_
          refine WpC.block ?_
          refine WpC.seqR ?_
          obtain ⟨y_2, hy_2, h⟩ := Sh.bind_some h
          refine WpOps.pn 2 rfl trivial ?_
          refine WpOps.consE (v := (.rop (cGTok y_2))) rfl rfl (Exact.ixr cGTok hy_2 rfl rfl rfl rfl (by kernel_rfl) (by decide)) ?_
          refine WpOps.pn 1 rfl trivial ?_
          refine WpOps.consE (v := (iA y_2.kind)) rfl rfl (Exact.load_rop rfl rfl rfl) ?_
          refine WpOps.pn 1 rfl trivial ?_
          refine WpOps.nil ?_
          refine WpC.condB rfl (fun hb => ?_) (fun hb => ?_)
          ·
            replace h := Sh.ite_pos hb h
            refine WpC.regionD ?_
            obtain ⟨c_3, h⟩ := Sh.chk_some h
            refine WpOps.pn 3 rfl c_3 ?_
            refine WpOps.nil ?_
            refine ⟨_, Heap.le_refl _, ?_⟩
            refine WpC.regionD ?_
            obtain ⟨c_4, h⟩ := Sh.chk_some h
            refine WpOps.pn 3 rfl c_4 ?_
            refine WpOps.nil ?_
            obtain rfl := Sh.some_inj h
            exact ⟨_, (Heap.le_refl _), ((idents_1 + (1 : Int)), (i_2 + (1 : Int))), (), rfl, ⟨rfl, rfl, rfl, rfl, rfl, trivial⟩, hH⟩
          ·
            replace h := Sh.ite_neg hb h
            refine WpC.skipD ?_
            refine ⟨_, Heap.le_refl _, ?_⟩
            refine WpC.regionD ?_
            obtain ⟨c_5, h⟩ := Sh.chk_some h
            refine WpOps.pn 3 rfl c_5 ?_
            refine WpOps.nil ?_
            obtain rfl := Sh.some_inj h
            exact ⟨_, (Heap.le_refl _), (idents_1, (i_2 + (1 : Int))), (), rfl, ⟨rfl, rfl, rfl, rfl, rfl, trivial⟩, hH⟩
        ·
          replace h := Sh.ite_neg hb h
          obtain rfl := Sh.some_inj h
          have e := hd_2 _ rfl
          subst e
          refine WpC.exit ?_
          exact ⟨(idents_1, ()), ⟨rfl, rfl, rfl, trivial⟩, hk_2, hH⟩
      ·
        rintro ⟨idents_2, _⟩ env H' ⟨h, hH⟩
        try dsimp only at h
        refine ⟨_, Heap.le_refl _, ?_⟩
        refine WpC.seqR ?_
        refine WpOps.pn 1 rfl trivial ?_
        obtain ⟨b_1, g_1, h⟩ := Sh.bind_some h
        refine WpOps.cutB 5 59 (bA b_1) rfl ?_ ?_
        ·
          refine WpOps.pn 1 rfl trivial ?_
          refine WpOps.split 55 rfl (fun hb => ?_) (fun hb => ?_)
          ·
            replace g_1 := Sh.ite_pos hb g_1
            refine WpOps.pn 4 rfl trivial ?_
            refine WpOps.nil ?_
            obtain rfl := Sh.some_inj g_1
            exact ⟨rfl, rfl⟩
          ·
            replace g_1 := Sh.ite_neg hb g_1
            refine WpOps.pn 4 rfl trivial ?_
            refine WpOps.nil ?_
            obtain rfl := Sh.some_inj g_1
            exact ⟨rfl, rfl⟩
        intro env
        refine WpOps.pn 1 rfl trivial ?_
        refine WpOps.nil ?_
        obtain rfl := Sh.some_inj h
        refine WpC.ret ?_
        exact VEnds.ret1 rfl rfl ⟨rfl, hH⟩

end Go.Proofs.YtfocleohejljpaaDoor
